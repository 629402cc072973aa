/- slices.Sort of the program, off the shelf, on a slice that the call owns. -/
import Derived.Test.YtnebpcpihldllaaWRun
import Derived.Test.YtnebpcpihldllaaAppend
import Derived.Shelf.SlGeneric
import Derived.Shelf.SortM.Plain
import Derived.Shelf.SortM.SortNone
import Derived.Ground.SlgmProg
import Derived.Sort.OwnSortedInts
namespace Go.Proofs.Ytnebpcpihldllaa
open Go.RowKit Go.Shelf Go.Lin Go.Sort

shelf_lay_g SlLaysM.n5 Slgm 5 at Try 108 as Try.sortLay

abbrev sorted (ss : List Int) : List Int := ss.mergeSort fun x y => decide (x ≤ y)

theorem seg_sorted {w : World} {base : Nat} {e : TypeId} {g off cap n : Nat} {os : Array Obj} {cur : Array Value} {ss ts : List Int} (hl : ts.length = ss.length) (hb : base ≤ g) (hg : w.heap[g]? = some (.cells cur e (0, 0))) (h1 : ss.length ≤ cap) (h2 : cap ≤ maxLen) (h3 : off + cap * 1 ≤ cur.size) :
    Seg (grow (putRow (Value.int .i64) (Sort.ahead w n) g off ts.toArray) os) base e 1 (.slice (some ⟨g, off, none⟩) ss.length cap) ss.length (ts.map (Value.int .i64)) := by
  have hgl : g < w.heap.size := (Array.getElem?_eq_some_iff.1 hg).1
  refine ⟨by simp [hl], .inr ⟨g, off, cap, putCells (Value.int .i64) off ts.toArray cur, rfl, hb, ?_, h1, h2, by simp [putCells]; omega, ?_⟩⟩
  · rw [heap_grow_old _ _ (by simpa using hgl)]
    simp [putRow, mapBlock, Sort.ahead, Array.getElem?_modify, hg, onCells]
  · apply List.ext_getElem?
    intro j
    by_cases hj : j < ts.length
    · rw [List.getElem?_take_of_lt (by omega), List.getElem?_drop, Array.getElem?_toList]
      simp [putCells, hj, show off + j < cur.size by omega]
    · rw [List.getElem?_take_eq_none (by omega), List.getElem?_eq_none (by simp; omega)]

theorem grownBy_sorted' {w : World} {g off n : Nat} {os : Array Obj} (d : Array Int) : w.grownBy (grow (putRow (Value.int .i64) (Sort.ahead w n) g off d) os) (some g) := by
  refine ⟨rfl, rfl, rfl, by simp, fun k hk hne => ?_⟩
  rw [heap_grow_old _ _ (by simpa using hk)]
  have : g ≠ k := fun e => hne (by rw [e])
  simp [putRow, mapBlock, Sort.ahead, Array.getElem?_modify, this]

theorem sort_seg (ss : List Int) (v : Value) (w : World) (base : Nat) (e : TypeId) (hsm : ss.length < 1000000) (hs : Seg w base e 1 v ss.length (ss.map (Value.int .i64))) :
    Calls Try.prog 108 #[v] w fun en w' => en = .returned (.tuple #[]) ∧ Seg w' base e 1 v ss.length ((sorted ss).map (Value.int .i64)) ∧ w.grownBy w' v.ownBlock := by
  have hs0 := hs
  rcases hs.2 with ⟨rfl, h0⟩ | ⟨g, off, cap, cur, rfl, hb, hg, h1, h2, h3, h4⟩
  · have hn : ss = [] := List.eq_nil_of_length_eq_zero h0
    subst hn
    have hcon := AnyM.slices_Sort_int_none Try.sortLay none 0 w
    change Calls Try.prog 108 _ _ _ at hcon
    refine hcon.mono ?_
    rintro en w' ⟨rfl, rfl⟩
    exact ⟨rfl, by simpa [sorted] using hs0, World.grownBy.refl _ _⟩
  · have hgl : g < w.heap.size := (Array.getElem?_eq_some_iff.1 hg).1
    have hH : Holds (Value.int .i64) w g off ss.toArray := by
      intro j hj
      have hj' : j < ss.length := by simpa using hj
      refine ⟨?_, by simp [World.frozen?, hg]⟩
      have h5 : ((cur.toList.drop off).take (ss.length * 1))[j]? = (ss.map (Value.int .i64))[j]? := by rw [h4]
      rw [List.getElem?_take_of_lt (by omega), List.getElem?_drop] at h5
      rw [cell_of_row w g (off + j) cur e _ hg, ← Array.getElem?_toList, h5]
      simp [hj']
    have hcon := AnyM.slices_Sort_int Try.sortLay g off cap ss w hH hgl (by omega)
    change Calls Try.prog 108 _ _ _ at hcon
    refine hcon.mono ?_
    rintro en w' ⟨rfl, n, os, rfl⟩
    exact ⟨rfl, seg_sorted (List.length_mergeSort _) hb hg h1 h2 h3, grownBy_sorted' _⟩
end Go.Proofs.Ytnebpcpihldllaa
