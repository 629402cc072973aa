/- slices.Sort (91), off the shelf, on a slice that the call owns. -/
import Derived.Test.YtojkohpniokaaaaPgW
import Derived.Shelf.SlGeneric
import Derived.Shelf.SortM.Plain
import Derived.Shelf.SortM.SortNone
import Derived.Ground.SlgmProg
import Derived.Sort.OwnSortedInts
import Derived.StillTailTactics
import Derived.Deep.QuietTactic
namespace Go.Lin.Pg
def sortI (l : List Int) : List Int := l.mergeSort (fun a b => decide (a ≤ b))
end Go.Lin.Pg
namespace Go.Proofs.Ytojkohpniokaaaa
open Go.RowKit Go.Shelf Go.Lin Go.Sort Go.Lin.Pg

def Try.sortLay_ren : Go.Shelf.Ren := ⟨fun | 5 => 91 | 8 => 102 | 7 => 101 | 19 => 112 | 20 => 113 | 10 => 103 | 11 => 104 | 12 => 105 | 13 => 106 | 14 => 107 | 15 => 108 | 16 => 109 | 17 => 110 | 18 => 111 | 30 => 114 | 31 => 115 | 32 => 116 | 33 => 117 | 34 => 118 | 35 => 119 | 40 => 120 | n => n, fun | 23 => 25 | 25 => 3 | 3 => 3 | 32 => 117 | 22 => 25 | 0 => 0 | 44 => 127 | 46 => 129 | 4 => 4 | 36 => 120 | 35 => 119 | 41 => 84 | 5 => 5 | 9 => 9 | 53 => 130 | 57 => 134 | 63 => 136 | 64 => 54 | n => n, fun | n => n⟩
theorem Try.sortLay : Go.Proofs.SlLaysM.n5 Try.prog Try.sortLay_ren := {
  mixed := by kernel_rfl
  f5 := ⟨Try.f91.name, by decide, Try.func91.trans (congrArg some (by kernel_rfl))⟩
  f7 := ⟨Try.f101.name, by decide, Try.func101.trans (congrArg some (by kernel_rfl))⟩
  f8 := Try.func102.trans (congrArg some (by kernel_rfl))
  f10 := ⟨Try.f103.name, by decide, Try.func103.trans (congrArg some (by kernel_rfl))⟩
  f11 := ⟨Try.f104.name, by decide, Try.func104.trans (congrArg some (by kernel_rfl))⟩
  f12 := ⟨Try.f105.name, by decide, Try.func105.trans (congrArg some (by kernel_rfl))⟩
  f13 := ⟨Try.f106.name, by decide, Try.func106.trans (congrArg some (by kernel_rfl))⟩
  f14 := ⟨Try.f107.name, by decide, Try.func107.trans (congrArg some (by kernel_rfl))⟩
  f15 := ⟨Try.f108.name, by decide, Try.func108.trans (congrArg some (by kernel_rfl))⟩
  f16 := ⟨Try.f109.name, by decide, Try.func109.trans (congrArg some (by kernel_rfl))⟩
  f17 := ⟨Try.f110.name, by decide, Try.func110.trans (congrArg some (by kernel_rfl))⟩
  f18 := ⟨Try.f111.name, by decide, Try.func111.trans (congrArg some (by kernel_rfl))⟩
  f19 := Try.func112.trans (congrArg some (by kernel_rfl))
  f20 := Try.func113.trans (congrArg some (by kernel_rfl))
  f30 := ⟨Try.f114.name, by decide, Try.func114.trans (congrArg some (by kernel_rfl))⟩
  f31 := Try.func115.trans (congrArg some (by kernel_rfl))
  f32 := Try.func116.trans (congrArg some (by kernel_rfl))
  f33 := ⟨Try.f117.name, by decide, Try.func117.trans (congrArg some (by kernel_rfl))⟩
  f34 := ⟨Try.f118.name, by decide, Try.func118.trans (congrArg some (by kernel_rfl))⟩
  f35 := ⟨Try.f119.name, by decide, Try.func119.trans (congrArg some (by kernel_rfl))⟩
  f40 := ⟨Try.f120.name, by decide, Try.func120.trans (congrArg some (by kernel_rfl))⟩
  t0 := Try.underlying0
  a0 := Try.isAgg0
  z0 := Try.sizeOf0
  v0 := Try.zeroValue0
  t3 := Try.underlying3
  a3 := Try.isAgg3
  z3 := Try.sizeOf3
  v3 := Try.zeroValue3
  t4 := Try.underlying4
  a4 := Try.isAgg4
  z4 := Try.sizeOf4
  v4 := Try.zeroValue4
  t5 := Try.underlying5
  a5 := Try.isAgg5
  z5 := Try.sizeOf5
  v5 := Try.zeroValue5
  t9 := Try.underlying9
  a9 := Try.isAgg9
  z9 := Try.sizeOf9
  v9 := Try.zeroValue9
  t22 := Try.underlying25
  a22 := Try.isAgg25
  z22 := Try.sizeOf25
  v22 := Try.zeroValue25
  t23 := Try.underlying25
  a23 := Try.isAgg25
  z23 := Try.sizeOf25
  v23 := Try.zeroValue25
  t25 := Try.underlying3
  a25 := Try.isAgg3
  z25 := Try.sizeOf3
  v25 := Try.zeroValue3
  t32 := Try.underlying117
  a32 := Try.isAgg117
  z32 := Try.sizeOf117
  v32 := Try.zeroValue117
  t35 := Try.underlying119
  a35 := Try.isAgg119
  z35 := Try.sizeOf119
  v35 := Try.zeroValue119
  t36 := Try.underlying120
  a36 := Try.isAgg120
  z36 := Try.sizeOf120
  v36 := Try.zeroValue120
  t41 := Try.underlying84
  a41 := Try.isAgg84
  z41 := Try.sizeOf84
  v41 := Try.zeroValue84
  t44 := Try.underlying127
  a44 := Try.isAgg127
  z44 := Try.sizeOf127
  v44 := Try.zeroValue127
  t46 := Try.underlying129
  a46 := Try.isAgg129
  z46 := Try.sizeOf129
  v46 := Try.zeroValue129
  t53 := Try.underlying130
  a53 := Try.isAgg130
  z53 := Try.sizeOf130
  v53 := Try.zeroValue130
  t57 := Try.underlying134
  a57 := Try.isAgg134
  z57 := Try.sizeOf134
  v57 := Try.zeroValue134
  t63 := Try.underlying136
  a63 := Try.isAgg136
  z63 := Try.sizeOf136
  v63 := Try.zeroValue136
  t64 := Try.underlying54
  a64 := Try.isAgg54
  z64 := Try.sizeOf54
  v64 := Try.zeroValue54 }

theorem seg_sorted {w : World} {base : Nat} {e : TypeId} {g off cap n : Nat} {os : Array Obj} {cur : Array Value} {ss ts : List Int} (hl : ts.length = ss.length) (hb : base ≤ g) (hg : w.heap[g]? = some (.cells cur e (0, 0))) (h1 : ss.length ≤ cap) (h2 : cap ≤ maxLen) (h3 : off + cap * 1 ≤ cur.size) :
    Seg (grow (putRow (Value.int .i64) (Sort.ahead w n) g off ts.toArray) os) base e 1 (.slice (some ⟨g, off, none⟩) ss.length cap) ss.length (ts.map (Value.int .i64)) := by
  have hgl : g < w.heap.size := (Array.getElem?_eq_some_iff.1 hg).1
  refine ⟨by simp [hl], .inr ⟨g, off, cap, putCells (Value.int .i64) off ts.toArray cur, rfl, hb, ?_, h1, h2, by simp [putCells]; omega, ?_⟩⟩
  · rw [heap_grow_old _ _ (by simpa using hgl)]
    simp [putRow, mapBlock, Sort.ahead, Array.getElem?_modify, hg, onCells]
  · apply List.ext_getElem?
    intro j
    by_cases hj : j < ts.length
    · rw [List.getElem?_take_of_lt (by omega), List.getElem?_drop, Array.getElem?_toList]
      simp [putCells, hj, show off + j < cur.size by omega]
    · rw [List.getElem?_take_eq_none (by omega), List.getElem?_eq_none (by simp; omega)]

theorem grownBy_sorted' {w : World} {g off n : Nat} {os : Array Obj} (d : Array Int) : w.grownBy (grow (putRow (Value.int .i64) (Sort.ahead w n) g off d) os) (some g) := by
  refine ⟨rfl, rfl, rfl, by simp, fun k hk hne => ?_⟩
  rw [heap_grow_old _ _ (by simpa using hk)]
  have : g ≠ k := fun e => hne (by rw [e])
  simp [putRow, mapBlock, Sort.ahead, Array.getElem?_modify, this]

theorem sort_seg (ss : List Int) (v : Value) (w : World) (base : Nat) (e : TypeId) (hsm : ss.length < 1000000) (hs : Seg w base e 1 v ss.length (ss.map (Value.int .i64))) :
    Calls Try.prog 91 #[v] w fun en w' => en = .returned (.tuple #[]) ∧ Seg w' base e 1 v ss.length ((sortI ss).map (Value.int .i64)) ∧ w.grownBy w' v.ownBlock := by
  have hs0 := hs
  rcases hs.2 with ⟨rfl, h0⟩ | ⟨g, off, cap, cur, rfl, hb, hg, h1, h2, h3, h4⟩
  · have hn : ss = [] := List.eq_nil_of_length_eq_zero h0
    subst hn
    have hcon := AnyM.slices_Sort_int_none Try.sortLay none 0 w
    change Calls Try.prog 91 _ _ _ at hcon
    refine hcon.mono ?_
    rintro en w' ⟨rfl, rfl⟩
    exact ⟨rfl, by simpa [sortI] using hs0, World.grownBy.refl _ _⟩
  · have hgl : g < w.heap.size := (Array.getElem?_eq_some_iff.1 hg).1
    have hH : Holds (Value.int .i64) w g off ss.toArray := by
      intro j hj
      have hj' : j < ss.length := by simpa using hj
      refine ⟨?_, by simp [World.frozen?, hg]⟩
      have h5 : ((cur.toList.drop off).take (ss.length * 1))[j]? = (ss.map (Value.int .i64))[j]? := by rw [h4]
      rw [List.getElem?_take_of_lt (by omega), List.getElem?_drop] at h5
      rw [cell_of_row w g (off + j) cur e _ hg, ← Array.getElem?_toList, h5]
      simp [hj']
    have hcon := AnyM.slices_Sort_int Try.sortLay g off cap ss w hH hgl (by omega)
    change Calls Try.prog 91 _ _ _ at hcon
    refine hcon.mono ?_
    rintro en w' ⟨rfl, n, os, rfl⟩
    exact ⟨rfl, seg_sorted (List.length_mergeSort _) hb hg h1 h2 h3, grownBy_sorted' _⟩
end Go.Proofs.Ytojkohpniokaaaa
