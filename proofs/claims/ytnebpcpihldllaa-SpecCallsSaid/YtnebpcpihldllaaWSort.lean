/- slices.Sort of the program, off the shelf, on a slice that the call owns. -/
import Derived.Test.YtnebpcpihldllaaWRun
import Derived.Test.YtnebpcpihldllaaAppend
import Derived.Shelf.SlGeneric
import Derived.Shelf.SortM.Plain
import Derived.Shelf.SortM.SortNone
import Derived.Ground.SlgmProg
import Derived.Sort.OwnSortedInts
namespace Go.Proofs.Ytnebpcpihldllaa
open Go.RowKit Go.Shelf Go.Lin Go.Sort

def Try.sortLay_ren : Go.Shelf.Ren := ⟨fun | 5 => 108 | 8 => 113 | 7 => 112 | 19 => 123 | 20 => 124 | 10 => 114 | 11 => 115 | 12 => 116 | 13 => 117 | 14 => 118 | 15 => 119 | 16 => 120 | 17 => 121 | 18 => 122 | 30 => 125 | 31 => 126 | 32 => 127 | 33 => 128 | 34 => 129 | 35 => 130 | 40 => 131 | n => n, fun | 23 => 34 | 25 => 3 | 3 => 3 | 32 => 113 | 22 => 34 | 0 => 0 | 44 => 122 | 46 => 124 | 4 => 4 | 36 => 116 | 35 => 115 | 41 => 90 | 5 => 5 | 9 => 9 | 53 => 125 | 57 => 129 | 63 => 131 | 64 => 132 | n => n, fun | n => n⟩
theorem Try.sortLay : Go.Proofs.SlLaysM.n5 Try.prog Try.sortLay_ren := {
  mixed := by kernel_rfl
  f5 := ⟨Try.f108.name, by decide, Try.func108.trans (congrArg some (by kernel_rfl))⟩
  f7 := ⟨Try.f112.name, by decide, Try.func112.trans (congrArg some (by kernel_rfl))⟩
  f8 := Try.func113.trans (congrArg some (by kernel_rfl))
  f10 := ⟨Try.f114.name, by decide, Try.func114.trans (congrArg some (by kernel_rfl))⟩
  f11 := ⟨Try.f115.name, by decide, Try.func115.trans (congrArg some (by kernel_rfl))⟩
  f12 := ⟨Try.f116.name, by decide, Try.func116.trans (congrArg some (by kernel_rfl))⟩
  f13 := ⟨Try.f117.name, by decide, Try.func117.trans (congrArg some (by kernel_rfl))⟩
  f14 := ⟨Try.f118.name, by decide, Try.func118.trans (congrArg some (by kernel_rfl))⟩
  f15 := ⟨Try.f119.name, by decide, Try.func119.trans (congrArg some (by kernel_rfl))⟩
  f16 := ⟨Try.f120.name, by decide, Try.func120.trans (congrArg some (by kernel_rfl))⟩
  f17 := ⟨Try.f121.name, by decide, Try.func121.trans (congrArg some (by kernel_rfl))⟩
  f18 := ⟨Try.f122.name, by decide, Try.func122.trans (congrArg some (by kernel_rfl))⟩
  f19 := Try.func123.trans (congrArg some (by kernel_rfl))
  f20 := Try.func124.trans (congrArg some (by kernel_rfl))
  f30 := ⟨Try.f125.name, by decide, Try.func125.trans (congrArg some (by kernel_rfl))⟩
  f31 := Try.func126.trans (congrArg some (by kernel_rfl))
  f32 := Try.func127.trans (congrArg some (by kernel_rfl))
  f33 := ⟨Try.f128.name, by decide, Try.func128.trans (congrArg some (by kernel_rfl))⟩
  f34 := ⟨Try.f129.name, by decide, Try.func129.trans (congrArg some (by kernel_rfl))⟩
  f35 := ⟨Try.f130.name, by decide, Try.func130.trans (congrArg some (by kernel_rfl))⟩
  f40 := ⟨Try.f131.name, by decide, Try.func131.trans (congrArg some (by kernel_rfl))⟩
  t0 := Try.underlying0
  a0 := Try.isAgg0
  z0 := Try.sizeOf0
  v0 := Try.zeroValue0
  t3 := Try.underlying3
  a3 := Try.isAgg3
  z3 := Try.sizeOf3
  v3 := Try.zeroValue3
  t4 := Try.underlying4
  a4 := Try.isAgg4
  z4 := Try.sizeOf4
  v4 := Try.zeroValue4
  t5 := Try.underlying5
  a5 := Try.isAgg5
  z5 := Try.sizeOf5
  v5 := Try.zeroValue5
  t9 := Try.underlying9
  a9 := Try.isAgg9
  z9 := Try.sizeOf9
  v9 := Try.zeroValue9
  t22 := Try.underlying34
  a22 := Try.isAgg34
  z22 := Try.sizeOf34
  v22 := Try.zeroValue34
  t23 := Try.underlying34
  a23 := Try.isAgg34
  z23 := Try.sizeOf34
  v23 := Try.zeroValue34
  t25 := Try.underlying3
  a25 := Try.isAgg3
  z25 := Try.sizeOf3
  v25 := Try.zeroValue3
  t32 := Try.underlying113
  a32 := Try.isAgg113
  z32 := Try.sizeOf113
  v32 := Try.zeroValue113
  t35 := Try.underlying115
  a35 := Try.isAgg115
  z35 := Try.sizeOf115
  v35 := Try.zeroValue115
  t36 := Try.underlying116
  a36 := Try.isAgg116
  z36 := Try.sizeOf116
  v36 := Try.zeroValue116
  t41 := Try.underlying90
  a41 := Try.isAgg90
  z41 := Try.sizeOf90
  v41 := Try.zeroValue90
  t44 := Try.underlying122
  a44 := Try.isAgg122
  z44 := Try.sizeOf122
  v44 := Try.zeroValue122
  t46 := Try.underlying124
  a46 := Try.isAgg124
  z46 := Try.sizeOf124
  v46 := Try.zeroValue124
  t53 := Try.underlying125
  a53 := Try.isAgg125
  z53 := Try.sizeOf125
  v53 := Try.zeroValue125
  t57 := Try.underlying129
  a57 := Try.isAgg129
  z57 := Try.sizeOf129
  v57 := Try.zeroValue129
  t63 := Try.underlying131
  a63 := Try.isAgg131
  z63 := Try.sizeOf131
  v63 := Try.zeroValue131
  t64 := Try.underlying132
  a64 := Try.isAgg132
  z64 := Try.sizeOf132
  v64 := Try.zeroValue132 }

abbrev sorted (ss : List Int) : List Int := ss.mergeSort fun x y => decide (x ≤ y)

theorem seg_sorted {w : World} {base : Nat} {e : TypeId} {g off cap n : Nat} {os : Array Obj} {cur : Array Value} {ss ts : List Int} (hl : ts.length = ss.length) (hb : base ≤ g) (hg : w.heap[g]? = some (.cells cur e (0, 0))) (h1 : ss.length ≤ cap) (h2 : cap ≤ maxLen) (h3 : off + cap * 1 ≤ cur.size) :
    Seg (grow (putRow (Value.int .i64) (Sort.ahead w n) g off ts.toArray) os) base e 1 (.slice (some ⟨g, off, none⟩) ss.length cap) ss.length (ts.map (Value.int .i64)) := by
  have hgl : g < w.heap.size := (Array.getElem?_eq_some_iff.1 hg).1
  refine ⟨by simp [hl], .inr ⟨g, off, cap, putCells (Value.int .i64) off ts.toArray cur, rfl, hb, ?_, h1, h2, by simp [putCells]; omega, ?_⟩⟩
  · rw [heap_grow_old _ _ (by simpa using hgl)]
    simp [putRow, mapBlock, Sort.ahead, Array.getElem?_modify, hg, onCells]
  · apply List.ext_getElem?
    intro j
    by_cases hj : j < ts.length
    · rw [List.getElem?_take_of_lt (by omega), List.getElem?_drop, Array.getElem?_toList]
      simp [putCells, hj, show off + j < cur.size by omega]
    · rw [List.getElem?_take_eq_none (by omega), List.getElem?_eq_none (by simp; omega)]

theorem grownBy_sorted' {w : World} {g off n : Nat} {os : Array Obj} (d : Array Int) : w.grownBy (grow (putRow (Value.int .i64) (Sort.ahead w n) g off d) os) (some g) := by
  refine ⟨rfl, rfl, rfl, by simp, fun k hk hne => ?_⟩
  rw [heap_grow_old _ _ (by simpa using hk)]
  have : g ≠ k := fun e => hne (by rw [e])
  simp [putRow, mapBlock, Sort.ahead, Array.getElem?_modify, this]

theorem sort_seg (ss : List Int) (v : Value) (w : World) (base : Nat) (e : TypeId) (hsm : ss.length < 1000000) (hs : Seg w base e 1 v ss.length (ss.map (Value.int .i64))) :
    Calls Try.prog 108 #[v] w fun en w' => en = .returned (.tuple #[]) ∧ Seg w' base e 1 v ss.length ((sorted ss).map (Value.int .i64)) ∧ w.grownBy w' v.ownBlock := by
  have hs0 := hs
  rcases hs.2 with ⟨rfl, h0⟩ | ⟨g, off, cap, cur, rfl, hb, hg, h1, h2, h3, h4⟩
  · have hn : ss = [] := List.eq_nil_of_length_eq_zero h0
    subst hn
    have hcon := AnyM.slices_Sort_int_none Try.sortLay none 0 w
    change Calls Try.prog 108 _ _ _ at hcon
    refine hcon.mono ?_
    rintro en w' ⟨rfl, rfl⟩
    exact ⟨rfl, by simpa [sorted] using hs0, World.grownBy.refl _ _⟩
  · have hgl : g < w.heap.size := (Array.getElem?_eq_some_iff.1 hg).1
    have hH : Holds (Value.int .i64) w g off ss.toArray := by
      intro j hj
      have hj' : j < ss.length := by simpa using hj
      refine ⟨?_, by simp [World.frozen?, hg]⟩
      have h5 : ((cur.toList.drop off).take (ss.length * 1))[j]? = (ss.map (Value.int .i64))[j]? := by rw [h4]
      rw [List.getElem?_take_of_lt (by omega), List.getElem?_drop] at h5
      rw [cell_of_row w g (off + j) cur e _ hg, ← Array.getElem?_toList, h5]
      simp [hj']
    have hcon := AnyM.slices_Sort_int Try.sortLay g off cap ss w hH hgl (by omega)
    change Calls Try.prog 108 _ _ _ at hcon
    refine hcon.mono ?_
    rintro en w' ⟨rfl, n, os, rfl⟩
    exact ⟨rfl, seg_sorted (List.length_mergeSort _) hb hg h1 h2 h3, grownBy_sorted' _⟩
end Go.Proofs.Ytnebpcpihldllaa
