/- Walk: newLoom. -/
import Derived.Test.YtddnpooffcjhnaaWvValid
import Derived.Laws.Rows
import Derived.Deep.RegionHeld3
namespace Go.Lin.Wv

theorem pairsOk_all {n : Int} : ∀ {ps s : List (Int × Int)}, pairsOk n s ps = true → ∀ p ∈ ps, 0 ≤ p.1 ∧ p.1 < p.2 ∧ p.2 < n
  | [], _, _, p, hp => by cases hp
  | x :: ps, s, h, p, hp => by
    simp only [pairsOk, Bool.and_eq_true] at h
    rcases List.mem_cons.1 hp with rfl | hp
    · have := h.1.1
      simp [pairOk] at this
      omega
    · exact pairsOk_all h.2 p hp

theorem valid_iff {L : Lt} (h : valid L = true) : (1 ≤ L.n ∧ L.n ≤ 6) ∧ ∀ p ∈ L.ps, 0 ≤ p.1 ∧ p.1 < p.2 ∧ p.2 < L.n := by
  unfold valid at h
  simp only [Bool.and_eq_true, decide_eq_true_eq] at h
  exact ⟨h.2, pairsOk_all h.1⟩

/-- What depends by the diagonal up to i and the first j pairs. -/
def dpt (ps : List (Int × Int)) (i j : Nat) (a b : Nat) : Bool := (a == b && decide (a < i)) || (ps.take j).any (hits a b)

theorem dpt_diag {ps : List (Int × Int)} {i : Nat} (a b : Nat) : dpt ps (i + 1) 0 a b = (dpt ps i 0 a b || (a == i && b == i)) := by
  unfold dpt
  simp only [List.take_zero, List.any_nil, Bool.or_false]
  rw [Bool.eq_iff_iff]
  simp
  omega

theorem dpt_pair {ps : List (Int × Int)} {n j : Nat} {x y : Nat} (h : ps[j]? = some ((x : Int), (y : Int))) (a b : Nat) : dpt ps n (j + 1) a b = ((dpt ps n j a b || (a == x && b == y)) || (a == y && b == x)) := by
  unfold dpt
  rw [take_add_get h, List.any_append]
  have e : ∀ u v : Nat, ((u : Int) == (v : Int)) = (v == u) := fun u v => by rw [Bool.eq_iff_iff]; simp; omega
  simp only [List.any_cons, List.any_nil, Bool.or_false, hits, e, Bool.or_assoc]
  rw [Bool.and_comm (b == x) (a == y)]

theorem dpt_dep {L : Lt} {N : Nat} (a b : Nat) (ha : a < N) : dpt L.ps N L.ps.length a b = dep L a b := by
  unfold dpt dep
  rw [List.take_length]
  congr 1
  rw [Bool.eq_iff_iff]
  simp
  omega

end Go.Lin.Wv
namespace Go.Lin

theorem cell_off_set {W w : World} {B o : Nat} {v : Value} (h : ∀ b o, b ≠ B → w.cell? ⟨b, o, none⟩ = W.cell? ⟨b, o, none⟩) : ∀ b o', b ≠ B → (w.setCell ⟨B, o, none⟩ v).cell? ⟨b, o', none⟩ = W.cell? ⟨b, o', none⟩ := by
  intro b o' hb
  rw [World.cell?_setCell_other _ _ _ _ (fun e => hb (congrArg Addr.block e).symm)]
  exact h b o' hb

end Go.Lin
namespace Go.Proofs.Ytddnpooffcjhnaa
open Go.RowKit Go.Lin Go.Lin.Wv Go.Maps

/-- A loom that is being made. -/
structure LoomF (w : World) (B N : Nat) (f : Nat → Nat → Bool) : Prop where
  obj : ∃ cs : Array Value, w.heap[B]? = some (.cells cs 76 (0, 0)) ∧ cs.size = 37 ∧ cs[0]? = some (.int .i64 (N : Int)) ∧ ∀ a b, a < 6 → b < 6 → cs[1 + a * 6 + b]? = some (.bool (f a b))

theorem LoomF.lt {w : World} {B N : Nat} {f : Nat → Nat → Bool} (h : LoomF w B N f) : B < w.heap.size := by
  obtain ⟨cs, h1, _⟩ := h.obj
  exact lt_of_obj h1

theorem LoomF.cell {w : World} {B N : Nat} {f : Nat → Nat → Bool} (h : LoomF w B N f) {a b : Nat} (ha : a < 6) (hb : b < 6) : w.cell? ⟨B, 1 + a * 6 + b, none⟩ = some (.bool (f a b)) := by
  obtain ⟨cs, h1, h2, h3, h4⟩ := h.obj
  rw [cell_of_row w B _ _ _ _ h1]; exact h4 a b ha hb

theorem LoomF.head {w : World} {B N : Nat} {f : Nat → Nat → Bool} (h : LoomF w B N f) : w.cell? ⟨B, 0, none⟩ = some (.int .i64 (N : Int)) := by
  obtain ⟨cs, h1, h2, h3, h4⟩ := h.obj
  rw [cell_of_row w B _ _ _ _ h1]; exact h3

theorem LoomF.frozen {w : World} {B N : Nat} {f : Nat → Nat → Bool} (h : LoomF w B N f) (j : Nat) : w.frozen? ⟨B, j, none⟩ = false := by
  obtain ⟨cs, h1, _⟩ := h.obj
  exact frozen_of_row _ _ _ _ _ h1

theorem LoomF.keeps {w w' : World} {B N : Nat} {f : Nat → Nat → Bool} {may : Nat → Obj → Prop} (h : LoomF w B N f) (hk : Keeps may w w') (hm : ∀ o, ¬ may B o) : LoomF w' B N f := by
  obtain ⟨cs, h1, h2⟩ := h.obj
  exact ⟨cs, hk.obj _ _ h1 (hm _), h2⟩

theorem LoomF.grew {w w' : World} {B N : Nat} {f : Nat → Nat → Bool} (h : LoomF w B N f) (hg : Grew w w') : LoomF w' B N f := h.keeps (may := fun _ _ => False) hg.keeps (fun _ h => h)

theorem LoomF.set {w : World} {B N : Nat} {f g : Nat → Nat → Bool} (h : LoomF w B N f) {a b : Nat} (ha : a < 6) (hb : b < 6) (hg : ∀ x y, g x y = (f x y || (x == a && y == b))) : LoomF (w.setCell ⟨B, 1 + a * 6 + b, none⟩ (.bool true)) B N g := by
  obtain ⟨cs, h1, h2, h3, h4⟩ := h.obj
  refine ⟨_, heap_setCell_same _ _ _ _ _ _ h1, by simpa using h2, ?_, fun x y hx hy => ?_⟩
  · rw [Array.getElem?_setIfInBounds_ne (by omega)]; exact h3
  · by_cases he : 1 + a * 6 + b = 1 + x * 6 + y
    · obtain ⟨rfl, rfl⟩ : x = a ∧ y = b := by omega
      rw [Array.getElem?_setIfInBounds_self_of_lt (by omega), hg]
      simp
    · rw [Array.getElem?_setIfInBounds_ne he, h4 x y hx hy, hg]
      have : (x == a && y == b) = false := by
        rw [Bool.eq_false_iff]
        intro h
        simp at h
        obtain ⟨rfl, rfl⟩ := h
        exact he rfl
      rw [this, Bool.or_false]

theorem LoomF.loom {w : World} {B N : Nat} {f : Nat → Nat → Bool} {D : Int → Int → Bool} (h : LoomF w B N f) (hN : N ≤ 6) (hf : ∀ a b : Nat, a < N → b < N → f a b = D a b) : Loom w B D N :=
  ⟨h.lt, h.head, fun a b ha hb => by rw [h.cell (by omega) (by omega), hf a b ha hb]⟩

theorem bad_says {D : Int → Int → Bool} (B N c : Nat) (a : Int) (w : World) (hN : N ≤ 6) (hL : Loom w B D N) (hc : w.cell? ⟨c, 0, none⟩ = some (.pointer (some ⟨B, 0, none⟩))) :
    Says 96 #[.pointer (some ⟨c, 0, none⟩)] (.int .i64 a) (!(decide (0 ≤ a) && decide (a ≤ (N : Int) - 1))) w := by
  intro w' hw
  exact bad_any B N c a w' hN (hL.grew hw) ((hw.cell (p := ⟨c, 0, none⟩) (World.block_lt_of_cell? w _ hc)).trans hc)

theorem entered96 : Entered 96 := fun _ _ => by kernel_rfl

end Go.Proofs.Ytddnpooffcjhnaa
