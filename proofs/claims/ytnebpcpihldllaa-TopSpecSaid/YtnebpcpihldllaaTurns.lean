/- Plain: two states exchanged, twice, is the specification; words run alike, but for the names of states. -/
import Derived.Test.YtnebpcpihldllaaWRuns
import Derived.Test.YtnebpcpihldllaaLBegun
namespace Go.Lin

theorem exch_exch (x c : Int) : exchM (exchM x c) c = x := by
  unfold exchM
  split <;> (try split) <;> (try split) <;> (try split) <;> omega

theorem nthL_range {n i : Nat} (f : Nat → List Int) (h : i < n) : nthL ((List.range n).map f) i = f i := by
  rw [nthL_lt (by simpa using h)]; simp

theorem nth_map {xs : List Int} {f : Int → Int} {i : Nat} (h : i < xs.length) : nth (xs.map f) i = f (nth xs i) := by
  rw [nth_lt (by simpa using h), nth_lt h]; simp

theorem in_parts {s : RSpec} {c : Int} (h : inM s.st c = true) : 0 ≤ c ∧ c < s.st := by unfold inM at h; simpa using h

theorem valid_begun {s : RSpec} {c : Int} (hv : validM s = true) (hc : inM s.st c = true) : validM (begunM s c) = true := by
  obtain ⟨hb, ⟨hl1, hr1⟩, ⟨hl2, hr2⟩⟩ := valid_parts hv
  have hc2 := in_parts hc
  have hx : ∀ i : Nat, i < s.st.toNat → (exchM (i : Int) c).toNat < s.st.toNat := fun i hi => by
    have := exch_in (x := (i : Int)) (st := s.st) (by omega) hc2
    omega
  unfold validM
  rw [Bool.and_eq_true, Bool.and_eq_true]
  refine ⟨⟨decide_eq_true hb, ?_⟩, ?_⟩
  · refine isTableM_true (by simp [begunM]; omega) (fun i hi => ?_)
    have hi' : i < s.st.toNat := by simpa [begunM] using hi
    have hrow : nthL (begunM s c).next i = begunN s c i := nthL_range _ hi'
    rw [hrow]
    have h1 := hr1 (exchM (i : Int) c).toNat (by have := hx i hi'; omega)
    refine rowOK_true (by simp [begunN, begunM]; omega) (fun j hj => ?_)
    have hj' : j < (nthL s.next (exchM (i : Int) c).toNat).length := by simpa [begunN] using hj
    unfold begunN
    rw [nth_map hj']
    exact exch_in (h1.2 j hj') hc2
  · refine isTableM_true (by simp [begunM]; omega) (fun i hi => ?_)
    have hi' : i < s.st.toNat := by simpa [begunM] using hi
    have hrow : nthL (begunM s c).says i = begunY s c i := nthL_range _ hi'
    rw [hrow]
    have h1 := hr2 (exchM (i : Int) c).toNat (by have := hx i hi'; omega)
    exact rowOK_true (by simp [begunY, begunM]; omega) (fun j hj => h1.2 j hj)

theorem begun_twice {s : RSpec} {c : Int} (hv : validM s = true) (hc : inM s.st c = true) : begunM (begunM s c) c = s := by
  obtain ⟨hb, ⟨hl1, hr1⟩, ⟨hl2, hr2⟩⟩ := valid_parts hv
  have hc2 := in_parts hc
  have hx : ∀ i : Nat, i < s.st.toNat → (exchM (i : Int) c).toNat < s.st.toNat ∧ (((exchM (i : Int) c).toNat : Nat) : Int) = exchM (i : Int) c := fun i hi => by
    have := exch_in (x := (i : Int)) (st := s.st) (by omega) hc2
    omega
  have hn : (begunM (begunM s c) c).next = s.next := by
    refine ext_nthL (by simp [begunM]; omega) (fun i hi => ?_)
    have hi' : i < s.st.toNat := by simpa [begunM] using hi
    have h0 : nthL (begunM (begunM s c) c).next i = begunN (begunM s c) c i := nthL_range _ hi'
    rw [h0]
    unfold begunN
    have h1 : nthL (begunM s c).next (exchM (i : Int) c).toNat = begunN s c (exchM (i : Int) c).toNat := nthL_range _ (hx i hi').1
    rw [h1]
    unfold begunN
    rw [(hx i hi').2, exch_exch, Int.toNat_natCast, List.map_map]
    conv => rhs; rw [← List.map_id (nthL s.next i)]
    exact List.map_congr_left (fun x _ => exch_exch x c)
  have hy : (begunM (begunM s c) c).says = s.says := by
    refine ext_nthL (by simp [begunM]; omega) (fun i hi => ?_)
    have hi' : i < s.st.toNat := by simpa [begunM] using hi
    have h0 : nthL (begunM (begunM s c) c).says i = begunY (begunM s c) c i := nthL_range _ hi'
    rw [h0]
    unfold begunY
    have h1 : nthL (begunM s c).says (exchM (i : Int) c).toNat = begunY s c (exchM (i : Int) c).toNat := nthL_range _ (hx i hi').1
    rw [h1]
    unfold begunY
    rw [(hx i hi').2, exch_exch, Int.toNat_natCast]
  have hst : (begunM (begunM s c) c).st = s.st := rfl
  have hop : (begunM (begunM s c) c).ops = s.ops := rfl
  cases s with
  | mk a b d e =>
    simp only [begunM] at hn hy ⊢
    rw [RSpec.mk.injEq]
    exact ⟨rfl, rfl, hn, hy⟩

/-- The name of a state, as a natural. -/
def eN (c : Int) (i : Nat) : Nat := (exchM (i : Int) c).toNat

theorem eN_facts {st c : Int} (hc : 0 ≤ c ∧ c < st) {i : Nat} (hi : i < st.toNat) : eN c i < st.toNat ∧ ((eN c i : Nat) : Int) = exchM (i : Int) c ∧ eN c (eN c i) = i := by
  have h := exch_in (x := (i : Int)) (st := st) (by omega) hc
  have h2 : ((eN c i : Nat) : Int) = exchM (i : Int) c := by unfold eN; omega
  refine ⟨by unfold eN; omega, h2, ?_⟩
  have : exchM ((eN c i : Nat) : Int) c = (i : Int) := by rw [h2, exch_exch]
  show (exchM ((eN c i : Nat) : Int) c).toNat = i
  rw [this]; omega

theorem begun_mach {s : RSpec} {c : Int} (hv : validM s = true) (hc : inM s.st c = true) {i : Nat} (hi : i < (machOf s).n) {j : Nat} (hj : j < (machOf s).k) :
    (machOf (begunM s c)).nx i j = eN c ((machOf s).nx (eN c i) j) ∧ (machOf (begunM s c)).sy i j = (machOf s).sy (eN c i) j := by
  obtain ⟨hb, ⟨hl1, hr1⟩, ⟨hl2, hr2⟩⟩ := valid_parts hv
  have hc2 := in_parts hc
  have hi' : i < s.st.toNat := hi
  have hj' : j < s.ops.toNat := hj
  have hf := eN_facts hc2 hi'
  have h1 := hr1 (eN c i) (by have := hf.1; omega)
  constructor
  · show (nth (nthL (begunM s c).next i) j).toNat = _
    have hrow : nthL (begunM s c).next i = begunN s c i := nthL_range _ hi'
    have hlen : j < (nthL s.next (exchM (i : Int) c).toNat).length := by have := h1.1; unfold eN at this; omega
    rw [hrow]
    unfold begunN
    rw [nth_map hlen]
    show _ = (exchM (((nth (nthL s.next (eN c i)) j).toNat : Nat) : Int) c).toNat
    have hpos := (h1.2 j (by have := h1.1; omega)).1
    rw [show (((nth (nthL s.next (eN c i)) j).toNat : Nat) : Int) = nth (nthL s.next (eN c i)) j by omega]
    rfl
  · show nth (nthL (begunM s c).says i) j = nth (nthL s.says (eN c i)) j
    have hrow : nthL (begunM s c).says i = begunY s c i := nthL_range _ hi'
    rw [hrow]
    rfl

theorem begun_words {s : RSpec} {c : Int} (hv : validM s = true) (hc : inM s.st c = true) (ws : List Nat) : ∀ (i : Nat), i < (machOf s).n → OkW (machOf s).k ws →
    anM (machOf (begunM s c)) i ws = anM (machOf s) (eN c i) ws ∧ stM (machOf (begunM s c)) i ws = eN c (stM (machOf s) (eN c i) ws) := by
  have hc2 := in_parts hc
  induction ws with
  | nil =>
    intro i hi _
    exact ⟨rfl, (eN_facts hc2 (show i < s.st.toNat from hi)).2.2.symm⟩
  | cons o ws ih =>
    intro i hi hw
    have ho : o < (machOf s).k := hw o (by simp)
    have hf := eN_facts hc2 (show i < s.st.toNat from hi)
    obtain ⟨h1, h2⟩ := begun_mach hv hc hi ho
    have hnx : (machOf s).nx (eN c i) o < (machOf s).n := (wf_machOf hv).nx _ hf.1 _ ho
    have hf2 := eN_facts hc2 (show (machOf s).nx (eN c i) o < s.st.toNat from hnx)
    obtain ⟨h3, h4⟩ := ih (eN c ((machOf s).nx (eN c i) o)) hf2.1 (fun x hx => hw x (by simp [hx]))
    rw [hf2.2.2] at h3 h4
    constructor
    · show (machOf (begunM s c)).sy i o :: anM (machOf (begunM s c)) ((machOf (begunM s c)).nx i o) ws = (machOf s).sy (eN c i) o :: anM (machOf s) ((machOf s).nx (eN c i) o) ws
      rw [h2, h1, h3]
    · show stM (machOf (begunM s c)) ((machOf (begunM s c)).nx i o) ws = eN c (stM (machOf s) ((machOf s).nx (eN c i) o) ws)
      rw [h1, h4]

/-- What the law SpecTurns needs to know. -/
theorem turns_facts {s : RSpec} {c : Int} {ws : List Int} (hv : validM s = true) (hc : inM s.st c = true) (hw : isWordM s.ops ws = true) :
    askedM s c c = 0 ∧ askedM (begunM s c) c c = 0 ∧ begunS s c = begunM s c ∧ begunS (begunM s c) c = s ∧ runE s c ws = 0 ∧ runE (begunM s c) 0 ws = 0 ∧
      runL (begunM s c) 0 ws = runL s c ws ∧ runTo (begunM s c) 0 ws = exchM (runTo s c ws) c := by
  have hvt := valid_begun hv hc
  have hc2 := in_parts hc
  have e1 : askedM s c c = 0 := by unfold askedM; rw [hv, hc]; rfl
  have hct : inM (begunM s c).st c = true := hc
  have e2 : askedM (begunM s c) c c = 0 := by unfold askedM; rw [hvt, hct]; rfl
  have h0 : inM (begunM s c).st 0 = true := by
    show inM s.st 0 = true
    unfold inM; simp; omega
  have hwt : isWordM (begunM s c).ops ws = true := hw
  have e5 : runE s c ws = 0 := by unfold runE; rw [hv, hc, hw]; rfl
  have e6 : runE (begunM s c) 0 ws = 0 := by unfold runE; rw [hvt, h0, hwt]; rfl
  have hk := okW_toN hw
  have hn : 0 < (machOf s).n := (wf_machOf hv).n1
  obtain ⟨h1, h2⟩ := begun_words hv hc (toN ws) 0 hn hk
  have he0 : eN c 0 = c.toNat := by unfold eN exchM; simp
  rw [he0] at h1 h2
  refine ⟨e1, e2, by unfold begunS; rw [if_pos e1], by unfold begunS; rw [if_pos e2]; exact begun_twice hv hc, e5, e6, ?_, ?_⟩
  · unfold runL
    rw [if_pos e5, if_pos e6]
    exact h1
  · unfold runTo
    rw [if_pos e5, if_pos e6]
    have hlt : stM (machOf s) c.toNat (toN ws) < (machOf s).n := stM_lt (wf_machOf hv) (by simp only [machOf]; omega) hk
    show ((stM (machOf (begunM s c)) 0 (toN ws) : Nat) : Int) = _
    rw [h2]
    exact (eN_facts hc2 (show stM (machOf s) c.toNat (toN ws) < s.st.toNat from hlt)).2.1
end Go.Lin
