/- Plain: the words of a class that are taken, up to a number of them. -/
import Derived.Test.YtddnpooffcjhnaaWvYield
namespace Go.Lin.Wv
variable {D : Int → Int → Bool}

/-- The words behind some first letters, with some letters in front. -/
def goesTo (D : Int → Int → Bool) (N : Nat) (xs fr : List Int) (ls : List Int) : List (List Int) := ls.flatMap fun a => (classM D N (rem D xs a)).map ((fr ++ [a]) ++ ·)

theorem goesTo_snoc (N : Nat) (xs fr ls : List Int) (a : Int) : goesTo D N xs fr (ls ++ [a]) = goesTo D N xs fr ls ++ (classM D N (rem D xs a)).map ((fr ++ [a]) ++ ·) := by
  unfold goesTo; simp

theorem goesTo_all {N : Nat} {xs : List Int} (fr : List Int) (h : xs ≠ []) : goesTo D N xs fr (starts D N xs) = (classM D N xs).map (fr ++ ·) := by
  unfold goesTo
  rw [classM_step h, List.map_flatMap]
  congr 1
  funext a
  rw [List.map_map]
  congr 1
  funext u
  simp

theorem take_two {α : Type} (L A B : List α) (m : Nat) : ((L ++ A).take m ++ B).take m = (L ++ (A ++ B)).take m := by
  rw [← List.append_assoc]
  by_cases h : (L ++ A).length ≤ m
  · rw [List.take_of_length_le h]
  · have h1 : ((L ++ A).take m).length = m := by rw [List.length_take]; omega
    exact (List.take_append_of_le_length (l₁ := (L ++ A).take m) (by omega)).trans ((List.take_of_length_le (by omega)).trans (List.take_append_of_le_length (by omega)).symm)

theorem take_full {α : Type} (L A B : List α) (m : Nat) (h : ¬ ((L ++ A).take m).length < m) : (L ++ (A ++ B)).take m = (L ++ A).take m := by
  rw [← List.append_assoc]
  rw [List.length_take] at h
  exact List.take_append_of_le_length (by omega)

/-- The words behind the letters that have come, and those behind one more. -/
theorem goesTo_front {N : Nat} {xs fr : List Int} {pre : List Int} {a : Int} {t : List Int} (h : starts D N xs = pre ++ a :: t) : goesTo D N xs fr (starts D N xs) = goesTo D N xs fr (pre ++ [a]) ++ goesTo D N xs fr t := by
  rw [h]; unfold goesTo; simp
end Go.Lin.Wv
