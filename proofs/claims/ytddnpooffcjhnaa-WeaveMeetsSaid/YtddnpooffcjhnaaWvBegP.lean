/- Plain law: a word begins another one exactly if there is a rest; and so of a word that is joined. -/
import Derived.Test.YtddnpooffcjhnaaWvAns
namespace Go.Lin.Wv

section
variable {L : Lt} {N : Nat} (hN : L.n = N)

theorem first_len {x : List Int} (h : ∀ z ∈ x, 0 ≤ z ∧ z < (N : Int)) : (first (dep L) N x).length = x.length := ((alike_first (dep_comm L) h).length (dep_refl L)).symm
theorem first_letters {x : List Int} (h : ∀ z ∈ x, 0 ≤ z ∧ z < (N : Int)) : ∀ z ∈ first (dep L) N x, 0 ≤ z ∧ z < (N : Int) := fun z hz => h z (((alike_first (dep_comm L) h).perm (dep_refl L)).mem_iff.2 hz)

/-- What is well formed. -/
structure GoodW (N : Nat) (x : List Int) : Prop where
  len : x.length ≤ 10
  ok : ∀ z ∈ x, 0 ≤ z ∧ z < (N : Int)

theorem GoodW.first {x : List Int} (h : GoodW N x) : GoodW N (first (dep L) N x) := ⟨by rw [first_len h.ok]; exact h.len, first_letters h.ok⟩
theorem GoodW.rest {u x l : List Int} (h : GoodW N x) (hr : rest (dep L) u x = some l) : GoodW N l := ⟨Nat.le_trans (rest_length hr) h.len, fun z hz => h.ok z (rest_sub hr z hz)⟩

theorem good_wrong (hv : valid L = true) (hN : L.n = N) {l : List (List Int)} (h : ∀ x ∈ l, GoodW N x) : wrong L l = 0 := by
  unfold wrong
  rw [if_pos hv, if_pos (List.all_eq_true.2 fun x hx => isW_mk hN (h x hx).len (h x hx).ok)]

variable (hv : valid L = true)
include hN hv

theorem joinedM_good {x y : List Int} (hx : GoodW N x) (hy : GoodW N y) : joinedM L x y = if (x ++ y).length ≤ 10 then (first (dep L) N (x ++ y), 0) else ([], 4) := by
  unfold joinedM
  rw [if_pos (good_wrong hv hN (by simp; exact ⟨hx, hy⟩)), hN]
  rfl

theorem restM_good {x y : List Int} (hx : GoodW N x) (hy : GoodW N y) : restM L x y = match rest (dep L) x y with | some l => (first (dep L) N l, 0) | none => ([], 5) := by
  unfold restM
  rw [if_pos (good_wrong hv hN (by simp; exact ⟨hx, hy⟩))]
  cases rest (dep L) x y with
  | none => rfl
  | some l => simp only [restO, hN, Int.toNat_natCast]

theorem beginsM_good {x y : List Int} (hx : GoodW N x) (hy : GoodW N y) : beginsM L x y = ((rest (dep L) x y).isSome, 0) := by
  unfold beginsM
  rw [if_pos (good_wrong hv hN (by simp; exact ⟨hx, hy⟩))]

theorem firstM_good {x : List Int} (hx : GoodW N x) : firstM L x = (first (dep L) N x, 0) := by
  unfold firstM
  rw [if_pos (good_wrong hv hN (by simp; exact hx)), hN, Int.toNat_natCast]

/-- The rest joined again is the first form. -/
theorem again_first {u w l : List Int} (hu : GoodW N u) (hw : GoodW N w) (h : rest (dep L) u w = some l) : joinedM L u (first (dep L) N l) = (first (dep L) N w, 0) := by
  have hl := hw.rest h
  have ha := rest_alike (dep_comm L) h
  have hlen := ha.length (dep_refl L)
  rw [List.length_append] at hlen
  have hal := alike_first (dep_comm L) hl.ok
  rw [joinedM_good hN hv hu hl.first, if_pos (by rw [List.length_append, first_len hl.ok]; have := hw.len; omega)]
  rw [first_alike (dep_refl L) (dep_comm L) N ((Alike.append (Alike.refl u) hal.symm).trans ha.symm)]

/-- A word that is joined is begun by the first one, and the rest is the second one's first form. -/
theorem joined_rest {u w : List Int} (hu : GoodW N u) (hw : GoodW N w) (h : (u ++ w).length ≤ 10) : GoodW N (first (dep L) N (u ++ w)) ∧ beginsM L u (first (dep L) N (u ++ w)) = (true, 0) ∧ restM L u (first (dep L) N (u ++ w)) = (first (dep L) N w, 0) := by
  have hok : ∀ z ∈ u ++ w, 0 ≤ z ∧ z < (N : Int) := fun z hz => (List.mem_append.1 hz).elim (hu.ok z) (hw.ok z)
  have hb : GoodW N (first (dep L) N (u ++ w)) := GoodW.first ⟨h, hok⟩
  obtain ⟨x, hx, hxa⟩ := rest_of_alike (dep_refl L) (dep_comm L) (u := u) (w := first (dep L) N (u ++ w)) (v := w) (alike_first (dep_comm L) hok).symm
  refine ⟨hb, ?_, ?_⟩
  · rw [beginsM_good hN hv hu hb, hx]; rfl
  · rw [restM_good hN hv hu hb, hx]
    simp only
    rw [first_alike (dep_refl L) (dep_comm L) N hxa]

theorem joined_assoc {u w v : List Int} (hu : GoodW N u) (hw : GoodW N w) (hv' : GoodW N v) (h1 : (u ++ w).length ≤ 10) (h2 : (w ++ v).length ≤ 10) (h3 : (first (dep L) N (u ++ w) ++ v).length ≤ 10) :
    joinedM L (first (dep L) N (u ++ w)) v = (first (dep L) N (u ++ w ++ v), 0) ∧ joinedM L u (first (dep L) N (w ++ v)) = (first (dep L) N (u ++ w ++ v), 0) := by
  have ok1 : ∀ z ∈ u ++ w, 0 ≤ z ∧ z < (N : Int) := fun z hz => (List.mem_append.1 hz).elim (hu.ok z) (hw.ok z)
  have ok2 : ∀ z ∈ w ++ v, 0 ≤ z ∧ z < (N : Int) := fun z hz => (List.mem_append.1 hz).elim (hw.ok z) (hv'.ok z)
  have a1 := alike_first (dep_comm L) ok1
  have a2 := alike_first (dep_comm L) ok2
  rw [List.length_append, first_len ok1, List.length_append] at h3
  refine ⟨?_, ?_⟩
  · rw [joinedM_good hN hv (GoodW.first ⟨h1, ok1⟩) hv', if_pos (by rw [List.length_append, first_len ok1, List.length_append]; omega)]
    rw [first_alike (dep_refl L) (dep_comm L) N (Alike.append a1.symm (Alike.refl v))]
  · rw [joinedM_good hN hv hu (GoodW.first ⟨h2, ok2⟩), if_pos (by rw [List.length_append, first_len ok2, List.length_append]; omega)]
    rw [first_alike (dep_refl L) (dep_comm L) N (Alike.append (Alike.refl u) a2.symm), List.append_assoc]

end
end Go.Lin.Wv
