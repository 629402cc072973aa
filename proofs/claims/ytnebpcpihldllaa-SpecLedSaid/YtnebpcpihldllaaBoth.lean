/- Plain: two specifications side by side. -/
import Derived.Test.YtnebpcpihldllaaBuild
import Derived.Test.YtnebpcpihldllaaWBegun
namespace Go.Lin

/-- The row of the states i and k. -/
def bothN (s t : RSpec) (m i k : Nat) : List Int := (nthL s.next i).map (fun x => x * (m : Int) + (k : Int)) ++ (nthL t.next k).map (fun x => (i : Int) * (m : Int) + x)
def bothY (s t : RSpec) (i k : Nat) : List Int := nthL s.says i ++ nthL t.says k
/-- .. of the r-th pair. -/
def bothNr (s t : RSpec) (m r : Nat) : List Int := bothN s t m (r / m) (r % m)
def bothYr (s t : RSpec) (m r : Nat) : List Int := bothY s t (r / m) (r % m)

def bothM (s t : RSpec) : RSpec := ⟨s.st * t.st, s.ops + t.ops, (List.range (s.st.toNat * t.st.toNat)).map (bothNr s t t.st.toNat), (List.range (s.st.toNat * t.st.toNat)).map (bothYr s t t.st.toNat)⟩

def bothE (s t : RSpec) : Int := if (validM s && validM t) = true then (if (decide (8 < s.st * t.st) || decide (4 < s.ops + t.ops)) = true then 4 else 0) else 10

def bothS (s t : RSpec) : RSpec := if bothE s t = 0 then bothM s t else zeroM

theorem pair_div {m i k : Nat} (hk : k < m) : (i * m + k) / m = i ∧ (i * m + k) % m = k := by
  constructor
  · rw [Nat.mul_comm, Nat.mul_add_div (by omega), Nat.div_eq_of_lt hk, Nat.add_zero]
  · rw [Nat.mul_comm, Nat.mul_add_mod, Nat.mod_eq_of_lt hk]

theorem bothNr_at (s t : RSpec) {m i k : Nat} (hk : k < m) : bothNr s t m (i * m + k) = bothN s t m i k := by
  obtain ⟨h1, h2⟩ := pair_div (i := i) hk
  unfold bothNr; rw [h1, h2]
theorem bothYr_at (s t : RSpec) {m i k : Nat} (hk : k < m) : bothYr s t m (i * m + k) = bothY s t i k := by
  obtain ⟨h1, h2⟩ := pair_div (i := i) hk
  unfold bothYr; rw [h1, h2]

/-- The numbers of two valid specifications that are not too large. -/
structure Sized (s t : RSpec) (n p m q : Nat) : Prop where
  st : s.st = (n : Int)
  ops : s.ops = (p : Int)
  st' : t.st = (m : Int)
  ops' : t.ops = (q : Int)
  n1 : 1 ≤ n
  n8 : n ≤ 8
  p1 : 1 ≤ p
  p4 : p ≤ 4
  m1 : 1 ≤ m
  m8 : m ≤ 8
  q1 : 1 ≤ q
  q4 : q ≤ 4
  next : ∀ i, i < n → (nthL s.next i).length = p ∧ ∀ j, j < p → 0 ≤ nth (nthL s.next i) j ∧ nth (nthL s.next i) j < n
  next' : ∀ i, i < m → (nthL t.next i).length = q ∧ ∀ j, j < q → 0 ≤ nth (nthL t.next i) j ∧ nth (nthL t.next i) j < m
  says : ∀ i, i < n → (nthL s.says i).length = p
  says' : ∀ i, i < m → (nthL t.says i).length = q

theorem sized_of {s t : RSpec} (hs : validM s = true) (ht : validM t = true) : ∃ n p m q, Sized s t n p m q := by
  obtain ⟨⟨s1, s8, o1, o4⟩, ⟨hl1, hr1⟩, ⟨hl2, hr2⟩⟩ := valid_parts hs
  obtain ⟨⟨s1', s8', o1', o4'⟩, ⟨hl1', hr1'⟩, ⟨hl2', hr2'⟩⟩ := valid_parts ht
  refine ⟨s.st.toNat, s.ops.toNat, t.st.toNat, t.ops.toNat, by omega, by omega, by omega, by omega, by omega, by omega, by omega, by omega, by omega, by omega, by omega, by omega, fun i hi => ?_, fun i hi => ?_, fun i hi => ?_, fun i hi => ?_⟩
  · have h := hr1 i (by omega)
    exact ⟨by have := h.1; omega, fun j hj => by have := h.2 j (by have := h.1; omega); omega⟩
  · have h := hr1' i (by omega)
    exact ⟨by have := h.1; omega, fun j hj => by have := h.2 j (by have := h.1; omega); omega⟩
  · have := (hr2 i (by omega)).1; omega
  · have := (hr2' i (by omega)).1; omega

theorem bothM_of {s t : RSpec} {n p m q : Nat} (h : Sized s t n p m q) : bothM s t = ⟨(n : Int) * (m : Int), (p : Int) + (q : Int), (List.range (n * m)).map (bothNr s t m), (List.range (n * m)).map (bothYr s t m)⟩ := by
  unfold bothM
  rw [h.st, h.st', h.ops, h.ops', Int.toNat_natCast, Int.toNat_natCast]

/-- The four tables in memory. -/
theorem tabs_of {w : World} {sv : Value} {s : RSpec} {n p : Nat} (hs : IsSpec w sv s) (hst : s.st = (n : Int)) (hop : s.ops = (p : Int)) (hv : validM s = true) :
    ∃ b1 off1 c1 b2 off2 c2, sv = .agg #[.int .i64 (n : Int), .int .i64 (p : Int), .slice (some ⟨b1, off1, none⟩) n c1, .slice (some ⟨b2, off2, none⟩) n c2] ∧
      TabAt w b1 off1 n p (fun i j => nth (nthL s.next i) j) ∧ TabAt w b2 off2 n p (fun i j => nth (nthL s.says i) j) := by
  obtain ⟨nv, yv, rfl, hn, hy⟩ := hs
  obtain ⟨⟨s1, s8, o1, o4⟩, ⟨hl1, hr1⟩, ⟨hl2, hr2⟩⟩ := valid_parts hv
  obtain ⟨b1, off1, c1, rfl, t1⟩ := tabAt_of_rows (n := n) (k := p) hn (by omega) (by omega) (by omega) (fun i hi => by have := (hr1 i (by omega)).1; omega)
  obtain ⟨b2, off2, c2, rfl, t2⟩ := tabAt_of_rows (n := n) (k := p) hy (by omega) (by omega) (by omega) (fun i hi => by have := (hr2 i (by omega)).1; omega)
  exact ⟨b1, off1, c1, b2, off2, c2, by rw [hst, hop], t1, t2⟩
end Go.Lin
