/- Two neighbouring letters of a word change places; in memory: a cell of an owned slice is stored. -/
import Derived.Test.YtddnpooffcjhnaaWvDepend
import Derived.Test.YtddnpooffcjhnaaWvIter
namespace Go.Lin.Wv

/-- Letter i and the one behind it change places. -/
def swapM (x : List Int) (i : Nat) : List Int := (x.set i (nth x (i + 1))).set (i + 1) (nth x i)
/-- They may. -/
def canM (D : Int → Int → Bool) (x : List Int) (i : Int) : Bool := decide (0 ≤ i) && decide (i ≤ (x.length : Int) - 2) && !D (nth x i.toNat) (nth x (i.toNat + 1))
def exM (D : Int → Int → Bool) (x : List Int) (i : Int) : List Int := if canM D x i then swapM x i.toNat else x

theorem swapM_length (x : List Int) (i : Nat) : (swapM x i).length = x.length := by simp [swapM]
theorem exM_length (D : Int → Int → Bool) (x : List Int) (i : Int) : (exM D x i).length = x.length := by unfold exM; split <;> simp [swapM_length]

end Go.Lin.Wv
namespace Go.Proofs.Ytddnpooffcjhnaa
open Go.RowKit Go.Lin Go.Lin.Wv

/-- A cell of an owned slice of ints is stored. -/
theorem Seg.set {w : World} {base n j : Nat} {v : Value} {xs : List Value} (h : Seg w base 3 1 v n xs) {g off cap : Nat} (hv : v = .slice (some ⟨g, off, none⟩) n cap) (hj : j < n) (u : Value) :
    Seg (w.setCell ⟨g, off + j, none⟩ u) base 3 1 v n (xs.set j u) := by
  obtain ⟨h1, h2⟩ := h
  refine ⟨by rw [List.length_set]; exact h1, ?_⟩
  rcases h2 with ⟨rfl, _⟩ | ⟨g', off', cap', cur, rfl, hb, hg, hn, hm, hs, ht⟩
  · simp at hv
  · simp only [Value.slice.injEq, Option.some.injEq, Addr.mk.injEq, and_true] at hv
    obtain ⟨⟨rfl, rfl⟩, -, rfl⟩ := hv
    refine .inr ⟨g', off', cap', _, rfl, hb, heap_setCell_same w g' (off' + j) cur 3 u hg, hn, hm, by simpa using hs, ?_⟩
    rw [← ht]
    have hlen : ((cur.toList.drop off').take (n * 1)).length = n := by rw [List.length_take, List.length_drop, Array.length_toList]; omega
    apply List.ext_getElem?
    intro t
    by_cases htj : t = j
    · subst htj
      rw [List.getElem?_take_of_lt (by omega), List.getElem?_drop, Array.getElem?_toList, Array.getElem?_setIfInBounds, if_pos rfl, if_pos (by omega), List.getElem?_set_self (by omega)]
    · rw [List.getElem?_set_ne (by omega)]
      by_cases ht : t < n * 1
      · rw [List.getElem?_take_of_lt ht, List.getElem?_take_of_lt ht, List.getElem?_drop, List.getElem?_drop, Array.getElem?_toList, Array.getElem?_toList, Array.getElem?_setIfInBounds, if_neg (by omega)]
      · rw [List.getElem?_eq_none (by rw [List.length_take]; omega), List.getElem?_eq_none (by rw [List.length_take]; omega)]

/-- A swap in memory. -/
theorem seg_swap {w : World} {base i : Nat} {v : Value} {x : List Int} (h : Seg w base 3 1 v x.length (x.map (.int .i64))) {g off cap : Nat} (hv : v = .slice (some ⟨g, off, none⟩) x.length cap) (hi : i + 1 < x.length) :
    Seg ((w.setCell ⟨g, off + i, none⟩ (.int .i64 (nth x (i + 1)))).setCell ⟨g, off + (i + 1), none⟩ (.int .i64 (nth x i))) base 3 1 v x.length ((swapM x i).map (.int .i64)) := by
  have h1 := Seg.set h hv (j := i) (by omega) (.int .i64 (nth x (i + 1)))
  have h2 := Seg.set h1 hv (j := i + 1) hi (.int .i64 (nth x i))
  unfold swapM
  rw [List.map_set, List.map_set]
  exact h2

end Go.Proofs.Ytddnpooffcjhnaa
