/- Plain laws: how many words a class has, its words in order, what two words have in common; no program in sight. -/
import Derived.Test.YtddnpooffcjhnaaWvModel
namespace Go.Lin.Wv

variable {D : Int → Int → Bool}

/-! ### How many words a class has -/

def sizeN (D : Int → Int → Bool) (n : Nat) : Nat → List Int → Nat
  | 0, _ => 1
  | k + 1, w => ((starts D n w).map fun a => sizeN D n k (rem D w a)).sum

def sizeM (D : Int → Int → Bool) (n : Nat) (w : List Int) : Nat := sizeN D n w.length w

theorem starts_length (n : Nat) (w : List Int) : (starts D n w).length ≤ n := by
  unfold starts
  refine Nat.le_trans (List.length_filter_le _ _) ?_
  simp

theorem sum_le {l : List Nat} {b : Nat} (h : ∀ x ∈ l, x ≤ b) : l.sum ≤ l.length * b := by
  induction l with
  | nil => simp
  | cons x l ih =>
    simp only [List.sum_cons, List.length_cons, Nat.add_mul, Nat.one_mul]
    have := h x (by simp)
    have := ih (fun y hy => h y (by simp [hy]))
    omega

theorem sizeN_le (n : Nat) : ∀ (k : Nat) (w : List Int), sizeN D n k w ≤ n ^ k
  | 0, _ => by simp [sizeN]
  | k + 1, w => by
    unfold sizeN
    have h := sum_le (l := (starts D n w).map fun a => sizeN D n k (rem D w a)) (b := n ^ k) (fun x hx => by
      obtain ⟨a, _, rfl⟩ := List.mem_map.1 hx
      exact sizeN_le n k _)
    rw [List.length_map] at h
    have h2 := starts_length (D := D) n w
    calc _ ≤ (starts D n w).length * n ^ k := h
      _ ≤ n * n ^ k := Nat.mul_le_mul_right _ h2
      _ = n ^ (k + 1) := by rw [Nat.pow_succ, Nat.mul_comm]

theorem rem_both (hs : ∀ a b, D a b = D b a) {w v : List Int} {a : Int} (h : Alike D w v) (hw : (free D w a).isSome = true) (hv : (free D v a).isSome = true) : Alike D (rem D w a) (rem D v a) :=
  Alike.tail ((rem_alike hs hw).symm.trans (h.trans (rem_alike hs hv)))

theorem sizeN_alike (hr : ∀ a, D a a = true) (hs : ∀ a b, D a b = D b a) (n : Nat) : ∀ (k : Nat) {w v : List Int}, Alike D w v → sizeN D n k w = sizeN D n k v
  | 0, _, _, _ => rfl
  | k + 1, w, v, h => by
    unfold sizeN
    rw [← starts_alike hr n h]
    congr 1
    refine List.map_congr_left fun a ha => ?_
    have hw := (mem_starts.1 ha).2
    exact sizeN_alike hr hs n k (rem_both hs h hw (by rw [← free_alike hr h]; exact hw))

theorem sizeM_alike (hr : ∀ a, D a a = true) (hs : ∀ a b, D a b = D b a) (n : Nat) {w v : List Int} (h : Alike D w v) : sizeM D n w = sizeM D n v := by
  unfold sizeM
  rw [h.length hr]
  exact sizeN_alike hr hs n _ h

theorem sizeM_nil (n : Nat) : sizeM D n [] = 1 := rfl

theorem sizeM_step {n : Nat} {w : List Int} (hw : w ≠ []) : sizeM D n w = ((starts D n w).map fun a => sizeM D n (rem D w a)).sum := by
  obtain ⟨x, l, rfl⟩ := List.exists_cons_of_ne_nil hw
  unfold sizeM
  rw [List.length_cons]
  show ((starts D n (x :: l)).map fun a => sizeN D n l.length (rem D (x :: l) a)).sum = _
  congr 1
  refine List.map_congr_left fun a ha => ?_
  have := rem_length (mem_starts.1 ha).2
  rw [List.length_cons] at this
  rw [show (rem D (x :: l) a).length = l.length by omega]

theorem sizeM_le {n : Nat} (h6 : n ≤ 6) {w : List Int} (hw : w.length ≤ 10) : sizeM D n w ≤ 60466176 := by
  unfold sizeM
  refine Nat.le_trans (sizeN_le n _ _) ?_
  calc n ^ w.length ≤ 6 ^ w.length := Nat.pow_le_pow_left h6 _
    _ ≤ 6 ^ 10 := Nat.pow_le_pow_right (by decide) hw
    _ = 60466176 := by decide

/-! ### The words of a class, in order -/

def classN (D : Int → Int → Bool) (n : Nat) : Nat → List Int → List (List Int)
  | 0, _ => [[]]
  | k + 1, w => (starts D n w).flatMap fun a => (classN D n k (rem D w a)).map (a :: ·)

def classM (D : Int → Int → Bool) (n : Nat) (w : List Int) : List (List Int) := classN D n w.length w

theorem classM_nil (n : Nat) : classM D n [] = [[]] := rfl

theorem classM_step {n : Nat} {w : List Int} (hw : w ≠ []) : classM D n w = (starts D n w).flatMap fun a => (classM D n (rem D w a)).map (a :: ·) := by
  obtain ⟨x, l, rfl⟩ := List.exists_cons_of_ne_nil hw
  unfold classM
  rw [List.length_cons]
  show ((starts D n (x :: l)).flatMap fun a => (classN D n l.length (rem D (x :: l) a)).map (a :: ·)) = _
  rw [List.flatMap_def, List.flatMap_def]
  congr 1
  refine List.map_congr_left fun a ha => ?_
  have := rem_length (mem_starts.1 ha).2
  rw [List.length_cons] at this
  rw [show (rem D (x :: l) a).length = l.length by omega]

theorem classN_length (n : Nat) : ∀ (k : Nat) (w : List Int), (classN D n k w).length = sizeN D n k w
  | 0, _ => rfl
  | k + 1, w => by
    unfold classN sizeN
    rw [List.length_flatMap]
    congr 1
    refine List.map_congr_left fun a _ => ?_
    rw [List.length_map, classN_length]

theorem classM_length (n : Nat) (w : List Int) : (classM D n w).length = sizeM D n w := classN_length n _ _

/-- One more list, as far as there is room. -/
theorem take_more {α : Type} (a b : List α) (n : Nat) : (a ++ b).take n = a.take n ++ b.take (n - (a.take n).length) := by
  rw [List.take_append]
  congr 1
  rw [List.length_take]
  by_cases h : a.length ≤ n
  · rw [Nat.min_eq_right h]
  · rw [Nat.min_eq_left (by omega), show n - a.length = 0 by omega, show n - n = 0 by omega]

/-! ### What two words have in common -/

def meet (D : Int → Int → Bool) (n : Nat) : Nat → List Int → List Int → List Int × List Int × List Int
  | 0, w, v => ([], w, v)
  | k + 1, w, v => match (starts D n w).find? (fun a => (free D v a).isSome) with
    | none => ([], w, v)
    | some a => let r := meet D n k (rem D w a) (rem D v a); (a :: r.1, r.2)

def common (D : Int → Int → Bool) (n : Nat) (w v : List Int) : List Int × List Int × List Int := meet D n w.length w v

theorem common_none {n : Nat} {w v : List Int} (h : (starts D n w).find? (fun a => (free D v a).isSome) = none) : common D n w v = ([], w, v) := by
  unfold common
  cases hl : w.length with
  | zero => rfl
  | succ k => unfold meet; rw [h]

theorem common_some {n : Nat} {w v : List Int} {a : Int} (h : (starts D n w).find? (fun a => (free D v a).isSome) = some a) : common D n w v = (a :: (common D n (rem D w a) (rem D v a)).1, (common D n (rem D w a) (rem D v a)).2) := by
  have hw := (mem_starts.1 (List.mem_of_find?_eq_some h)).2
  have hl := rem_length hw
  unfold common
  rw [← hl]
  conv => lhs; unfold meet
  rw [h]

end Go.Lin.Wv
