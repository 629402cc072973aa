/- slices.Sort (93), off the shelf, on a slice that the call owns; SameLists (20); what Layers asks of a letter (92). Lists of words in memory; walks: SameLists (20), what Layers asks of a letter (92). A list of words that the call owns, each word in a block of its own. Layers, of the program (52). -/
import Derived.Test.YtddnpooffcjhnaaWvM
import Derived.Test.YtddnpooffcjhnaaWvP
import Derived.Shelf.SlGeneric
import Derived.Shelf.SortM.Plain
import Derived.Shelf.SortM.SortNone
import Derived.Ground.SlgmProg
import Derived.Sort.OwnSortedInts
import Derived.StillTailTactics
import Derived.Deep.QuietTactic
import Derived.Test.YtddnpooffcjhnaaWvForms1
namespace Go.Proofs.Ytddnpooffcjhnaa
open Go.RowKit Go.Shelf Go.Lin Go.Sort Go.Lin.Wv

def Try.sortLay_ren : Go.Shelf.Ren := ⟨fun | 5 => 93 | 8 => 106 | 7 => 105 | 19 => 116 | 20 => 117 | 10 => 107 | 11 => 108 | 12 => 109 | 13 => 110 | 14 => 111 | 15 => 112 | 16 => 113 | 17 => 114 | 18 => 115 | 30 => 118 | 31 => 119 | 32 => 120 | 33 => 121 | 34 => 122 | 35 => 123 | 40 => 124 | n => n, fun | 23 => 25 | 25 => 3 | 3 => 3 | 32 => 104 | 22 => 25 | 0 => 0 | 44 => 114 | 46 => 116 | 4 => 4 | 36 => 107 | 35 => 106 | 41 => 100 | 5 => 5 | 9 => 9 | 53 => 117 | 57 => 121 | 63 => 123 | 64 => 124 | n => n, fun | n => n⟩
theorem Try.sortLay : Go.Proofs.SlLaysM.n5 Try.prog Try.sortLay_ren := {
  mixed := by kernel_rfl
  f5 := ⟨Try.f93.name, by decide, Try.func93.trans (congrArg some (by kernel_rfl))⟩
  f7 := ⟨Try.f105.name, by decide, Try.func105.trans (congrArg some (by kernel_rfl))⟩
  f8 := Try.func106.trans (congrArg some (by kernel_rfl))
  f10 := ⟨Try.f107.name, by decide, Try.func107.trans (congrArg some (by kernel_rfl))⟩
  f11 := ⟨Try.f108.name, by decide, Try.func108.trans (congrArg some (by kernel_rfl))⟩
  f12 := ⟨Try.f109.name, by decide, Try.func109.trans (congrArg some (by kernel_rfl))⟩
  f13 := ⟨Try.f110.name, by decide, Try.func110.trans (congrArg some (by kernel_rfl))⟩
  f14 := ⟨Try.f111.name, by decide, Try.func111.trans (congrArg some (by kernel_rfl))⟩
  f15 := ⟨Try.f112.name, by decide, Try.func112.trans (congrArg some (by kernel_rfl))⟩
  f16 := ⟨Try.f113.name, by decide, Try.func113.trans (congrArg some (by kernel_rfl))⟩
  f17 := ⟨Try.f114.name, by decide, Try.func114.trans (congrArg some (by kernel_rfl))⟩
  f18 := ⟨Try.f115.name, by decide, Try.func115.trans (congrArg some (by kernel_rfl))⟩
  f19 := Try.func116.trans (congrArg some (by kernel_rfl))
  f20 := Try.func117.trans (congrArg some (by kernel_rfl))
  f30 := ⟨Try.f118.name, by decide, Try.func118.trans (congrArg some (by kernel_rfl))⟩
  f31 := Try.func119.trans (congrArg some (by kernel_rfl))
  f32 := Try.func120.trans (congrArg some (by kernel_rfl))
  f33 := ⟨Try.f121.name, by decide, Try.func121.trans (congrArg some (by kernel_rfl))⟩
  f34 := ⟨Try.f122.name, by decide, Try.func122.trans (congrArg some (by kernel_rfl))⟩
  f35 := ⟨Try.f123.name, by decide, Try.func123.trans (congrArg some (by kernel_rfl))⟩
  f40 := ⟨Try.f124.name, by decide, Try.func124.trans (congrArg some (by kernel_rfl))⟩
  t0 := Try.underlying0
  a0 := Try.isAgg0
  z0 := Try.sizeOf0
  v0 := Try.zeroValue0
  t3 := Try.underlying3
  a3 := Try.isAgg3
  z3 := Try.sizeOf3
  v3 := Try.zeroValue3
  t4 := Try.underlying4
  a4 := Try.isAgg4
  z4 := Try.sizeOf4
  v4 := Try.zeroValue4
  t5 := Try.underlying5
  a5 := Try.isAgg5
  z5 := Try.sizeOf5
  v5 := Try.zeroValue5
  t9 := Try.underlying9
  a9 := Try.isAgg9
  z9 := Try.sizeOf9
  v9 := Try.zeroValue9
  t22 := Try.underlying25
  a22 := Try.isAgg25
  z22 := Try.sizeOf25
  v22 := Try.zeroValue25
  t23 := Try.underlying25
  a23 := Try.isAgg25
  z23 := Try.sizeOf25
  v23 := Try.zeroValue25
  t25 := Try.underlying3
  a25 := Try.isAgg3
  z25 := Try.sizeOf3
  v25 := Try.zeroValue3
  t32 := Try.underlying104
  a32 := Try.isAgg104
  z32 := Try.sizeOf104
  v32 := Try.zeroValue104
  t35 := Try.underlying106
  a35 := Try.isAgg106
  z35 := Try.sizeOf106
  v35 := Try.zeroValue106
  t36 := Try.underlying107
  a36 := Try.isAgg107
  z36 := Try.sizeOf107
  v36 := Try.zeroValue107
  t41 := Try.underlying100
  a41 := Try.isAgg100
  z41 := Try.sizeOf100
  v41 := Try.zeroValue100
  t44 := Try.underlying114
  a44 := Try.isAgg114
  z44 := Try.sizeOf114
  v44 := Try.zeroValue114
  t46 := Try.underlying116
  a46 := Try.isAgg116
  z46 := Try.sizeOf116
  v46 := Try.zeroValue116
  t53 := Try.underlying117
  a53 := Try.isAgg117
  z53 := Try.sizeOf117
  v53 := Try.zeroValue117
  t57 := Try.underlying121
  a57 := Try.isAgg121
  z57 := Try.sizeOf121
  v57 := Try.zeroValue121
  t63 := Try.underlying123
  a63 := Try.isAgg123
  z63 := Try.sizeOf123
  v63 := Try.zeroValue123
  t64 := Try.underlying124
  a64 := Try.isAgg124
  z64 := Try.sizeOf124
  v64 := Try.zeroValue124 }

theorem seg_sorted {w : World} {base : Nat} {e : TypeId} {g off cap n : Nat} {os : Array Obj} {cur : Array Value} {ss ts : List Int} (hl : ts.length = ss.length) (hb : base ≤ g) (hg : w.heap[g]? = some (.cells cur e (0, 0))) (h1 : ss.length ≤ cap) (h2 : cap ≤ maxLen) (h3 : off + cap * 1 ≤ cur.size) :
    Seg (grow (putRow (Value.int .i64) (Sort.ahead w n) g off ts.toArray) os) base e 1 (.slice (some ⟨g, off, none⟩) ss.length cap) ss.length (ts.map (Value.int .i64)) := by
  have hgl : g < w.heap.size := (Array.getElem?_eq_some_iff.1 hg).1
  refine ⟨by simp [hl], .inr ⟨g, off, cap, putCells (Value.int .i64) off ts.toArray cur, rfl, hb, ?_, h1, h2, by simp [putCells]; omega, ?_⟩⟩
  · rw [heap_grow_old _ _ (by simpa using hgl)]
    simp [putRow, mapBlock, Sort.ahead, Array.getElem?_modify, hg, onCells]
  · apply List.ext_getElem?
    intro j
    by_cases hj : j < ts.length
    · rw [List.getElem?_take_of_lt (by omega), List.getElem?_drop, Array.getElem?_toList]
      simp [putCells, hj, show off + j < cur.size by omega]
    · rw [List.getElem?_take_eq_none (by omega), List.getElem?_eq_none (by simp; omega)]

theorem grownBy_sorted' {w : World} {g off n : Nat} {os : Array Obj} (d : Array Int) : w.grownBy (grow (putRow (Value.int .i64) (Sort.ahead w n) g off d) os) (some g) := by
  refine ⟨rfl, rfl, rfl, by simp, fun k hk hne => ?_⟩
  rw [heap_grow_old _ _ (by simpa using hk)]
  have : g ≠ k := fun e => hne (by rw [e])
  simp [putRow, mapBlock, Sort.ahead, Array.getElem?_modify, this]

theorem sort_seg (ss : List Int) (v : Value) (w : World) (base : Nat) (e : TypeId) (hsm : ss.length < 1000000) (hs : Seg w base e 1 v ss.length (ss.map (Value.int .i64))) :
    Calls Try.prog 93 #[v] w fun en w' => en = .returned (.tuple #[]) ∧ Seg w' base e 1 v ss.length ((sortI ss).map (Value.int .i64)) ∧ w.grownBy w' v.ownBlock := by
  have hs0 := hs
  rcases hs.2 with ⟨rfl, h0⟩ | ⟨g, off, cap, cur, rfl, hb, hg, h1, h2, h3, h4⟩
  · have hn : ss = [] := List.eq_nil_of_length_eq_zero h0
    subst hn
    have hcon := AnyM.slices_Sort_int_none Try.sortLay none 0 w
    change Calls Try.prog 93 _ _ _ at hcon
    refine hcon.mono ?_
    rintro en w' ⟨rfl, rfl⟩
    exact ⟨rfl, by simpa [sortI] using hs0, World.grownBy.refl _ _⟩
  · have hgl : g < w.heap.size := (Array.getElem?_eq_some_iff.1 hg).1
    have hH : Holds (Value.int .i64) w g off ss.toArray := by
      intro j hj
      have hj' : j < ss.length := by simpa using hj
      refine ⟨?_, by simp [World.frozen?, hg]⟩
      have h5 : ((cur.toList.drop off).take (ss.length * 1))[j]? = (ss.map (Value.int .i64))[j]? := by rw [h4]
      rw [List.getElem?_take_of_lt (by omega), List.getElem?_drop] at h5
      rw [cell_of_row w g (off + j) cur e _ hg, ← Array.getElem?_toList, h5]
      simp [hj']
    have hcon := AnyM.slices_Sort_int Try.sortLay g off cap ss w hH hgl (by omega)
    change Calls Try.prog 93 _ _ _ at hcon
    refine hcon.mono ?_
    rintro en w' ⟨rfl, n, os, rfl⟩
    exact ⟨rfl, seg_sorted (List.length_mergeSort _) hb hg h1 h2 h3, grownBy_sorted' _⟩
end Go.Proofs.Ytddnpooffcjhnaa
namespace Go.Proofs.Ytddnpooffcjhnaa
open Go.RowKit Go.Lin Go.Lin.Wv

/-- A list of words. -/
def IsLs (w : World) (v : Value) (rows : List (List Int)) : Prop :=
  ∃ V : Nat → Value, Reads Any w v rows.length V ∧ ∀ i, i < rows.length → IsWd w (V i) (nthL rows i)

theorem IsLs.grew {w w' : World} {v : Value} {rows : List (List Int)} (h : IsLs w v rows) (hg : Grew w w') : IsLs w' v rows :=
  let ⟨V, h1, h2⟩ := h; ⟨V, h1.grew hg, fun i hi => (h2 i hi).grew hg⟩

theorem IsLs.rows {w : World} {v : Value} {rows : List (List Int)} (h : IsLs w v rows) : IsRows Any w v rows :=
  let ⟨V, h1, h2⟩ := h; ⟨V, h1, fun i hi => (h2 i hi).ints⟩

theorem ls_nil (w : World) : IsLs w (.slice none 0 0) [] := ⟨fun _ => undef, Reads.nil _ _ _ _ _, fun i hi => by simp at hi⟩

theorem isLs_slice {w : World} {v : Value} {rows : List (List Int)} (h : IsLs w v rows) : ∃ a c, v = .slice a rows.length c ∧ rows.length ≤ 9223372036854775807 := let ⟨_, ⟨a, c, h, hm, _⟩, _⟩ := h; ⟨a, c, h, hm⟩

/-- A word of a list of words. -/
theorem IsLs.at {w : World} {a : Option Addr} {n c : Nat} {rows : List (List Int)} (h : IsLs w (.slice a n c) rows) {i : Nat} (hi : i < n) :
    ∃ b off o u, a = some ⟨b, off, none⟩ ∧ w.heap[b]? = some o ∧ w.cell? ⟨b, off + i, none⟩ = some u ∧ IsWd w u (nthL rows i) := by
  obtain ⟨V, ⟨a', c', hv, hm, hc⟩, hr⟩ := h
  simp only [Value.slice.injEq] at hv
  obtain ⟨rfl, rfl, rfl⟩ := hv
  obtain ⟨b, off, o, h1, h2, _, h4⟩ := hc i hi
  exact ⟨b, off, o, V i, h1, h2, h4, hr i hi⟩

theorem takeL_eq_succ {l m : List (List Int)} {j : Nat} (h : l.take j = m.take j) (hj : j < l.length) (hjm : j < m.length) (he : nthL l j = nthL m j) : l.take (j + 1) = m.take (j + 1) := by
  rw [take_succ_nthL hj, take_succ_nthL hjm, h, he]

set_option maxHeartbeats 2000000 in
set_option maxRecDepth 20000 in
theorem same20_any (v v' : Value) (l m : List (List Int)) (w : World) (hv : IsLs w v l) (hv' : IsLs w v' m) :
    Calls Try.prog 20 #[v, v'] w fun e w' => e = .returned (.bool (l == m)) ∧ Grew w w' := by
  obtain ⟨a, cap, rfl, hm⟩ := isLs_slice hv
  obtain ⟨a', cap', rfl, hm'⟩ := isLs_slice hv'
  have HC := hid hv; clear hv
  have HC' := hid hv'; clear hv'
  obtain ⟨r, hr⟩ : ∃ r, (l == m) = r := ⟨_, rfl⟩
  rw [hr]
  have HR := hid hr; clear hr
  obtain ⟨n, hn⟩ : ∃ n, l.length = n := ⟨_, rfl⟩
  obtain ⟨n', hn'⟩ : ∃ n, m.length = n := ⟨_, rfl⟩
  rw [hn] at hm HC ⊢
  rw [hn'] at hm' HC' ⊢
  have HN := hid hn
  have HN' := hid hn'
  by_cases hne : n = n'
  · subst hne
    clear hn hn'
    have hg := grew_refl w
    go_enter Try.func20, Try.ntmps20
    go_wp2
    go_loopg [5, 13] n (fun k _ i wr => ∃ j : Nat, j ≤ n ∧ i = .int .i64 j ∧ k = n - j ∧ Hid (l.take j = m.take j) ∧ Grew w wr)
    case atStart => exact ⟨0, by omega, rfl, rfl, hid (by simp), hg⟩
    case round =>
      clear hg
      obtain ⟨j, hj, rfl, hk, HT, hg⟩ := hrel
      have HK := hid hk; clear hk
      rename World => wr
      by_cases hlt : j < n
      · obtain ⟨b1, off1, o1, x1, rfl, hb1, hcj1, hw1⟩ := HC.out.at hlt
        obtain ⟨b2, off2, o2, x2, rfl, hb2, hcj2, hw2⟩ := HC'.out.at hlt
        have hbl1 := lt_of_obj hb1
        have hbl2 := lt_of_obj hb2
        have d1 := (hg.cell (p := ⟨b1, off1 + j, none⟩) hbl1).trans hcj1
        have d2 := (hg.cell (p := ⟨b2, off2 + j, none⟩) hbl2).trans hcj2
        have hbl1' := Nat.lt_of_lt_of_le hbl1 hg.size
        have hbl2' := Nat.lt_of_lt_of_le hbl2 hg.size
        have HS := hid (fun (y : World) (hy : Grew w y) => sameInts_any x1 x2 (nthL l j) (nthL m j) y (hw1.grew hy).ints (hw2.grew hy).ints)
        have hji : (j : Int) < (n : Int) := by omega
        clear hb1 hb2 hcj1 hcj2 hw1 hw2
        by_cases he : nthL l j = nthL m j
        · have hd : (nthL l j == nthL m j) = true := by simp [he]
          rw [hd] at HS
          have HE := hid he; clear he hd
          go_wp2
          go_still_tail 8, (by kernel_rfl)
          change wpList _ _ _ _ _ wr.drew
          have HGD := hid (grew_drew hg)
          generalize wr.drew = w2 at HGD ⊢
          go_wp2_with (go_at_call 23; (with_reducible refine (HS.out _ HGD.out).mono ?_); rintro e w3 ⟨rfl, hx⟩; have HX := hid (grew_trans HGD.out hx); clear hx)
          go_roundg (n - (j + 1))
          case measure => have := HK.out; omega
          case rel => exact ⟨j + 1, by omega, by go_num, rfl, hid (takeL_eq_succ HT.out (by rw [HN.out]; exact hlt) (by rw [HN'.out]; exact hlt) HE.out), HX.out⟩
        · have hd : (nthL l j == nthL m j) = false := by simpa using he
          rw [hd] at HS
          have HE := hid he; clear he hd
          go_wp2
          go_still_tail 8, (by kernel_rfl)
          change wpList _ _ _ _ _ wr.drew
          have HGD := hid (grew_drew hg)
          generalize wr.drew = w2 at HGD ⊢
          go_wp2_with (go_at_call 23; (with_reducible refine (HS.out _ HGD.out).mono ?_); rintro e w3 ⟨rfl, hx⟩; have HX := hid (grew_trans HGD.out hx); clear hx)
          go_ret
          refine ⟨ret_bool (Eq.trans ?_ HR.out), HX.out⟩
          symm
          rw [beq_eq_false_iff_ne]
          rintro rfl
          exact HE.out rfl
      · obtain rfl : j = n := by omega
        go_wp2
        go_ret
        refine ⟨ret_bool (Eq.trans ?_ HR.out), hg⟩
        have h1 := HT.out
        rw [List.take_of_length_le (by rw [HN.out]; omega), List.take_of_length_le (by rw [HN'.out]; omega)] at h1
        rw [h1]; simp
  · have hd : ((n : Int) != (n' : Int)) = true := by simp; omega
    have HNE := hid hne
    clear hne hn hn'
    go_enter Try.func20, Try.ntmps20
    go_wp2
    go_ret
    refine ⟨ret_bool (Eq.trans ?_ HR.out), grew_refl _⟩
    symm
    rw [beq_eq_false_iff_ne]
    rintro rfl
    exact HNE.out (HN.out.symm.trans HN'.out)

set_option maxHeartbeats 4000000 in
theorem lay92_any {D : Int → Int → Bool} (B N c8 c14 a b : Nat) (w : World) (hN : N ≤ 6) (ha : a < N) (hb : b < N) (hL : Loom w B D N) (h8 : w.cell? ⟨c8, 0, none⟩ = some (.pointer (some ⟨B, 0, none⟩))) (h14 : w.cell? ⟨c14, 0, none⟩ = some (.int .i64 (a : Int))) :
    Calls Try.prog 92 #[.int .i64 (b : Int), .pointer (some ⟨c8, 0, none⟩), .pointer (some ⟨c14, 0, none⟩)] w fun e w' => e = .returned (.bool (D a b)) ∧ Grew w w' := by
  have hdc := hL.cs a b ha hb
  have hBl := hL.lt
  have ia0 : (0 : Int) ≤ (a : Int) := by omega
  have ia6 : (a : Int) < 6 := by omega
  have ib0 : (0 : Int) ≤ (b : Int) := by omega
  have ib6 : (b : Int) < 6 := by omega
  have ha6 : a < 6 := by omega
  have hb6 : b < 6 := by omega
  clear hL
  go_enter Try.func92, Try.ntmps92
  go_wp2
  go_region_law (fail)
  all_goals (
    go_wp2
    go_ret
    exact ⟨rfl, grew_drew (grew_refl w)⟩)

theorem lay92_says {D : Int → Int → Bool} (B N c8 c14 a : Nat) (b : Int) (w : World) (hN : N ≤ 6) (ha : a < N) (hb : 0 ≤ b ∧ b < (N : Int)) (hL : Loom w B D N) (h8 : w.cell? ⟨c8, 0, none⟩ = some (.pointer (some ⟨B, 0, none⟩))) (h14 : w.cell? ⟨c14, 0, none⟩ = some (.int .i64 (a : Int))) :
    Says 92 #[.pointer (some ⟨c8, 0, none⟩), .pointer (some ⟨c14, 0, none⟩)] (.int .i64 b) (D a b) w := by
  obtain ⟨b', rfl⟩ : ∃ b' : Nat, b = b' := ⟨b.toNat, by omega⟩
  intro w' hw
  exact lay92_any B N c8 c14 a b' w' hN ha (by omega) (hL.grew hw) ((hw.cell (p := ⟨c8, 0, none⟩) (World.block_lt_of_cell? w _ h8)).trans h8) ((hw.cell (p := ⟨c14, 0, none⟩) (World.block_lt_of_cell? w _ h14)).trans h14)

theorem entered92 : Entered 92 := fun _ _ => by kernel_rfl

end Go.Proofs.Ytddnpooffcjhnaa
namespace Go.Lin.Wv
theorem cutL_at {D : Int → Int → Bool} {a : Int} : ∀ {L : List (List Int)} {p : Nat}, p ≤ L.length → (∀ t, p ≤ t → t < L.length → ∀ c ∈ nthL L t, D a c = false) → (p = 0 ∨ (nthL L (p - 1)).any (fun c => D a c) = true) → cutL D a L = (L.take p, L.drop p)
  | [], p, h, _, _ => by simp [cutL]
  | l :: F, 0, _, h2, _ => by
    have ih := cutL_at (D := D) (a := a) (L := F) (p := 0) (by omega) (fun t _ ht c hc => h2 (t + 1) (by omega) (by simpa using ht) c (by simpa [nthL] using hc)) (.inl rfl)
    have h0 : l.any (fun c => D a c) = false := by
      rw [List.any_eq_false]
      intro c hc
      rw [h2 0 (by omega) (by simp) c (by simpa [nthL] using hc)]; simp
    unfold cutL
    rw [ih]
    simp [h0]
  | l :: F, p + 1, h, h2, h3 => by
    have hp : p ≤ F.length := by simpa using h
    by_cases hp0 : p = 0
    · subst hp0
      have ih := cutL_at (D := D) (a := a) (L := F) (p := 0) (by omega) (fun t _ ht c hc => h2 (t + 1) (by omega) (by simpa using ht) c (by simpa [nthL] using hc)) (.inl rfl)
      have h0 : l.any (fun c => D a c) = true := by
        rcases h3 with h3 | h3
        · cases h3
        · simpa [nthL] using h3
      unfold cutL
      rw [ih]
      simp [h0]
    · have ih := cutL_at (D := D) (a := a) (L := F) (p := p) hp (fun t ht1 ht c hc => h2 (t + 1) (by omega) (by simpa using ht) c (by simpa [nthL] using hc)) (.inr (by
        rcases h3 with h3 | h3
        · cases h3
        · obtain ⟨q, rfl⟩ : ∃ q, p = q + 1 := ⟨p - 1, by omega⟩
          simpa [nthL] using h3))
      have hne : F.take p ≠ [] := by
        intro e
        have := congrArg List.length e
        rw [List.length_take] at this
        simp at this
        rcases this with h | h
        · exact hp0 h
        · rw [h] at hp; simp at hp; exact hp0 hp
      unfold cutL
      rw [ih]
      simp [hne]

theorem dropL_end {D : Int → Int → Bool} {a : Int} {L : List (List Int)} (h : cutL D a L = (L.take L.length, L.drop L.length)) : dropL D L a = (L ++ [[]]).set L.length (nthL (L ++ [[]]) L.length ++ [a]) := by
  unfold dropL
  rw [h]
  simp [putL, nthL]

theorem dropL_in {D : Int → Int → Bool} {a : Int} {L : List (List Int)} {p : Nat} (hp : p < L.length) (h : cutL D a L = (L.take p, L.drop p)) : dropL D L a = L.set p (nthL L p ++ [a]) := by
  unfold dropL
  rw [h, List.drop_eq_getElem_cons hp, nthL_lt hp, List.set_eq_take_append_cons_drop, if_pos hp]
  rfl

def sortTo (L : List (List Int)) (j : Nat) : List (List Int) := (L.take j).map sortI ++ L.drop j
theorem sortTo_length (L : List (List Int)) (j : Nat) : (sortTo L j).length = L.length := by unfold sortTo; simp; omega
theorem sortTo_nth {L : List (List Int)} {j : Nat} (h : j < L.length) : nthL (sortTo L j) j = nthL L j := by
  have h1 : (L.take j).length = j := by rw [List.length_take]; omega
  unfold sortTo nthL
  rw [List.getD, List.getElem?_append_right (by rw [List.length_map, h1]; exact Nat.le_refl _), List.length_map, h1, Nat.sub_self, List.getD, List.getElem?_drop]
  rfl
theorem sortTo_succ {L : List (List Int)} {j : Nat} (h : j < L.length) : sortTo L (j + 1) = (sortTo L j).set j (sortI (nthL L j)) := by
  have h1 : (L.take j).length = j := by rw [List.length_take]; omega
  unfold sortTo
  rw [take_succ_nthL h, List.map_append, List.append_assoc, List.set_append, if_neg (by rw [List.length_map, h1]; omega), List.length_map, h1, Nat.sub_self, List.drop_eq_getElem_cons (l := L) (i := j) h]
  rfl
theorem sortTo_all (L : List (List Int)) : sortTo L L.length = L.map sortI := by unfold sortTo; simp
theorem sortTo_zero (L : List (List Int)) : sortTo L 0 = L := by unfold sortTo; simp
end Go.Lin.Wv
namespace Go.Proofs.Ytddnpooffcjhnaa
open Go.RowKit Go.Lin Go.Lin.Wv

structure LSt (W : World) (base : Nat) (v : Value) (L : List (List Int)) (vs : List Value) : Prop where
  len : vs.length = L.length
  outer : Seg W base 25 1 v L.length vs
  inner : ∀ i, i < L.length → Seg W base 3 1 (vs.getD i undef) (nthL L i).length ((nthL L i).map (.int .i64))
  apart : ∀ i j k, i < L.length → j < L.length → i ≠ j → (vs.getD i undef).ownBlock = some k → (vs.getD j undef).ownBlock ≠ some k

theorem LSt.grew {W W' : World} {base : Nat} {v : Value} {L : List (List Int)} {vs : List Value} (h : LSt W base v L vs) (hg : Grew W W') : LSt W' base v L vs :=
  ⟨h.len, h.outer.grew hg, fun i hi => (h.inner i hi).grew hg, h.apart⟩

theorem lst_nil (W : World) (base : Nat) : LSt W base (.slice none 0 0) [] [] := ⟨rfl, Seg.nil _ _ _ _, fun i hi => by simp at hi, fun i j k hi => by simp at hi⟩

theorem LSt.ls {W : World} {base : Nat} {v : Value} {L : List (List Int)} {vs : List Value} (h : LSt W base v L vs) : IsLs W v L :=
  ⟨fun i => vs.getD i undef, (h.outer.reads _ (fun i hi => by have : i < vs.length := by rw [h.len]; exact hi
                                                              simp [List.getD, List.getElem?_eq_getElem this])).any, fun i hi => IsWd.of_seg (h.inner i hi)⟩

theorem segE_set {w : World} {base n j : Nat} {e : TypeId} {v : Value} {xs : List Value} (h : Seg w base e 1 v n xs) {g off cap : Nat} (hv : v = .slice (some ⟨g, off, none⟩) n cap) (hj : j < n) (u : Value) :
    Seg (w.setCell ⟨g, off + j, none⟩ u) base e 1 v n (xs.set j u) := by
  refine ⟨by rw [List.length_set]; exact h.1, ?_⟩
  rcases h.2 with ⟨h1, rfl⟩ | ⟨g', off', cap', cur, h1, hb, hg, hn, hm, hs, ht⟩
  · omega
  · rw [hv] at h1
    simp only [Value.slice.injEq, Option.some.injEq, Addr.mk.injEq, and_true, true_and] at h1
    obtain ⟨⟨rfl, rfl⟩, rfl⟩ := h1
    refine .inr ⟨g, off, cap, cur.setIfInBounds (off + j) u, hv, hb, ?_, hn, hm, by simpa using hs, ?_⟩
    · rw [heap_setCell_same _ _ _ _ _ _ hg]
    · rw [← ht, Array.toList_setIfInBounds, List.drop_set, if_neg (by omega), Nat.add_sub_cancel_left, List.take_set]

/-- One more word, without letters. -/
theorem LSt.push {W w' : World} {base : Nat} {v v' : Value} {L : List (List Int)} {vs : List Value} (h : LSt W base v L vs) (ho : Seg w' base 25 1 v' (L.length + 1) (vs ++ [.slice none 0 0])) (hk : Keeps (fun k _ => v.ownBlock = some k) W w') : LSt w' base v' (L ++ [[]]) (vs ++ [.slice none 0 0]) := by
  have hold : ∀ i, i < L.length → (vs ++ [Value.slice none 0 0]).getD i undef = vs.getD i undef := fun i hi => by
    simp [List.getD, List.getElem?_append_left (show i < vs.length by rw [h.len]; exact hi)]
  have hlast : (vs ++ [Value.slice none 0 0]).getD L.length undef = .slice none 0 0 := by
    simp [List.getD, ← h.len]
  refine ⟨by simp [h.len], by simpa using ho, fun i hi => ?_, fun i j k hi hj hij e1 e2 => ?_⟩
  · by_cases hil : i < L.length
    · rw [hold i hil, show nthL (L ++ [[]]) i = nthL L i by simp [nthL, List.getD, List.getElem?_append_left hil]]
      refine (h.inner i hil).keeps hk (fun k o e ⟨cur, hc⟩ h2 => ?_)
      obtain ⟨_, _, cur2, hob⟩ := h.outer.own k h2
      obtain ⟨_, _, cur3, hob3⟩ := (h.inner i hil).own k e
      rw [hob] at hob3; cases hob3
    · obtain rfl : i = L.length := by simp at hi; omega
      rw [hlast, show nthL (L ++ [[]]) L.length = [] by simp [nthL]]
      exact Seg.nil _ _ _ _
  · by_cases hil : i < L.length
    · by_cases hjl : j < L.length
      · rw [hold i hil] at e1; rw [hold j hjl] at e2
        exact h.apart i j k hil hjl hij e1 e2
      · obtain rfl : j = L.length := by simp at hj; omega
        rw [hlast] at e2; simp [Value.ownBlock] at e2
    · obtain rfl : i = L.length := by simp at hi; omega
      rw [hlast] at e1; simp [Value.ownBlock] at e1

/-- A word is turned into another one. -/
theorem LSt.upd {W w' : World} {base i : Nat} {v u' : Value} {L : List (List Int)} {vs : List Value} {xs' : List Int} (h : LSt W base v L vs) (hi : i < L.length) (hown : Seg w' base 3 1 u' xs'.length (xs'.map (.int .i64)))
    (hk : Keeps (fun k o => ((vs.getD i undef).ownBlock = some k ∧ ∃ cur, o = .cells cur 3 (0, 0)) ∨ ∃ cur, o = .cells cur 25 (0, 0)) W w') (hb : ∀ k, u'.ownBlock = some k → (vs.getD i undef).ownBlock = some k ∨ W.heap.size ≤ k)
    (ho : Seg w' base 25 1 v L.length (vs.set i u')) : LSt w' base v (L.set i xs') (vs.set i u') := by
  have hiv : i < vs.length := by rw [h.len]; exact hi
  have hat : (vs.set i u').getD i undef = u' := by simp [List.getD, hiv]
  have hoth : ∀ j, j ≠ i → (vs.set i u').getD j undef = vs.getD j undef := fun j hj => by simp [List.getD, List.getElem?_set_ne (fun e => hj e.symm)]
  refine ⟨by simp [h.len], by rw [List.length_set]; exact ho, fun j hj => ?_, fun j l k hj hl hjl e1 e2 => ?_⟩
  · rw [List.length_set] at hj
    by_cases hji : j = i
    · subst hji
      rw [hat, show nthL (L.set j xs') j = xs' by simp [nthL, List.getD, hj]]
      exact hown
    · rw [hoth j hji, show nthL (L.set i xs') j = nthL L j by simp [nthL, List.getD, List.getElem?_set_ne (fun e => hji e.symm)]]
      refine (h.inner j hj).keeps hk (fun k o e ⟨cur, hc⟩ h2 => ?_)
      rcases h2 with ⟨h2, _⟩ | ⟨cur2, h2⟩
      · exact h.apart j i k hj hi hji e h2
      · rw [h2] at hc; cases hc
  · rw [List.length_set] at hj hl
    by_cases hji : j = i
    · subst hji
      rw [hat] at e1
      rw [hoth l (fun e => hjl e.symm)] at e2
      rcases hb k e1 with h3 | h3
      · exact h.apart j l k hj hl hjl h3 e2
      · have := ((h.inner l hl).own k e2).2.1; omega
    · rw [hoth j hji] at e1
      by_cases hli : l = i
      · subst hli
        rw [hat] at e2
        rcases hb k e2 with h3 | h3
        · exact h.apart j l k hj hl hjl e1 h3
        · have := ((h.inner j hj).own k e1).2.1; omega
      · rw [hoth l hli] at e2
        exact h.apart j l k hj hl hjl e1 e2

end Go.Proofs.Ytddnpooffcjhnaa
namespace Go.Lin.Wv
theorem nthL_le (L : List (List Int)) (p : Nat) : (nthL L p).length ≤ L.flatten.length := by
  by_cases h : p < L.length
  · rw [nthL_lt h]
    induction L generalizing p with
    | nil => simp at h
    | cons l L ih =>
      cases p with
      | zero => simp
      | succ p =>
        have := ih p (by simpa using h)
        simp at this ⊢; omega
  · simp [nthL, List.getD, List.getElem?_eq_none (Nat.le_of_not_lt h)]

theorem fallL_take {D : Int → Int → Bool} {x : List Int} {j : Nat} (h : j < x.length) : fallL D (x.take (j + 1)) = dropL D (fallL D (x.take j)) (nth x j) := by
  unfold fallL
  rw [take_succ_nth h, List.foldl_append]; rfl

theorem fallL_len {D : Int → Int → Bool} (hr : ∀ a, D a a = true) (hs : ∀ a b, D a b = D b a) (w : List Int) : (fallL D w).flatten.length = w.length := by
  have h := (fallL_spec hr hs w [] trivial).2.length hr
  exact h.symm.trans (by simp)

theorem foatU_len {D : Int → Int → Bool} : ∀ {F : List (List Int)}, FoatU D F → F.length ≤ F.flatten.length
  | [], _ => by simp
  | l :: F, h => by
    have ih := foatU_len h.2.2.2
    have hl : l.length ≠ 0 := fun e => h.1 (List.length_eq_zero_iff.1 e)
    simp at ih ⊢; omega

def layersA (L : Lt) (x : List Int) : List (List Int) × Int := if wrong L [x] = 0 then (layersM (dep L) L.n.toNat x, 0) else ([], wrong L [x])
end Go.Lin.Wv
namespace Go.Proofs.Ytddnpooffcjhnaa
open Go.RowKit Go.Lin Go.Lin.Wv

/-- A list of words, and an error. -/
def GivesL (e : Ending) (w w' : World) (a : List (List Int) × Int) : Prop := ∃ u, e = .returned (.tuple #[u, .int .i64 a.2]) ∧ IsLs w' u a.1 ∧ Grew w w'

set_option maxHeartbeats 16000000 in
set_option maxRecDepth 20000 in
theorem layers52_any (v : Value) (L : Lt) (uv : Value) (x : List Int) (w : World) (hn : L.n ≤ 9223372036854775807) (hv : IsLt w v L) (hx : IsWd w uv x) :
    Calls Try.prog 52 #[v, uv] w fun e w' => GivesL e w w' (layersA L x) := by
  have HV := hid hv
  obtain ⟨s, rfl, -⟩ := hv
  obtain ⟨ua, uc, rfl⟩ := isWd_slice hx
  obtain ⟨W0, hW0, g0, k0, k1, hz⟩ := box2 w (.int .i64 L.n) s 24
  obtain ⟨W1, hW1⟩ : ∃ W1, W0.alloc (.cells #[.slice ua x.length uc] 25) = W1 := ⟨_, rfl⟩
  have g1 : Grew W0 W1 := by rw [← hW1]; exact grew_alloc (grew_refl _) _
  have g01 := grew_trans g0 g1
  obtain ⟨m, hm⟩ : ∃ m, x.length = m := ⟨_, rfl⟩
  have HM := hid hm
  have HXM := hid (show IsWd w (.slice ua m uc) x by rw [← hm]; exact hx)
  obtain ⟨r, hr⟩ : ∃ r, wrong L [x] = r := ⟨_, rfl⟩
  have HR := hid hr
  have HG01 := hid g01
  by_cases hr0 : r = 0
  · subst hr0
    obtain ⟨hv1, hw1⟩ := wrong_one hr
    have hok := newLoom_ok _ L _ [x] W1 hn (HV.out.grew g01) (by rw [← hW1]; exact rows_one (Reads.grew hx.ints g0) 25) hr
    have HOK := hid hok
    have HW1 := hid hw1
    rw [hm] at hW1 ⊢
    clear hr hx hm hok hv1 hw1
    go_enter Try.func52, Try.ntmps52
    go_wp2_with (go_at_call 60; (with_reducible refine HOK.out.mono ?_); rintro e w1 ⟨B, N, hN, hN1, hN6, rfl, hB, hL, hg1⟩; have HL := hid hL; have HN := hid hN; have HG1 := hid (grew_trans HG01.out hg1); obtain ⟨hl1, hlw1⟩ := isW_iff hN HW1.out; have HL1 := hid hl1; have HLW := hid hlw1; obtain ⟨W2, hW2, g2, k6, hz6⟩ := box1 w1 (.pointer (some ⟨B, 0, none⟩)) 58; have HG2 := hid g2; have HK6 := hid k6; have HZ6 := hid hz6; clear hN hL hg1 hB hl1 hlw1 g2 k6)
    have HL2 := hid (HL.out.grew HG2.out)
    have HGW2 := hid (grew_trans HG1.out HG2.out)
    have hm10 : m ≤ 10 := by have := HL1.out; have := HM.out; omega
    go_loopg [8, 10, 11, 26] m (fun gk out _ _ i wr => ∃ (j : Nat) (F : List (List Int)) (vs : List Value) (n : Nat), j ≤ m ∧ i = .int .i64 j ∧ Hid (gk = m - j) ∧ Hid (fallL (dep L) (x.take j) = F) ∧ Hid (F.length = n) ∧ n ≤ 10 ∧ Hid (LSt wr W2.heap.size out F vs) ∧ Hid (Grew W2 wr))
    case atStart => exact ⟨0, [], [], 0, by omega, rfl, hid rfl, hid rfl, hid rfl, by omega, hid (lst_nil _ _), hid (grew_refl _)⟩
    case round =>
      obtain ⟨j, F, vs, n, hj, rfl, HGK, HFALL, HNL, hn10, HLST0, HGW⟩ := hrel
      rename World => wr
      obtain ⟨oa, oc, hoe, -⟩ := HLST0.out.outer.shape
      rw [HNL.out] at hoe
      subst hoe
      by_cases hlt : j < m
      · obtain ⟨xb, xoff, xo, rfl, hxo, hxc⟩ := wd_cell HXM.out j hlt
        have hxl := lt_of_obj hxo
        have hgx := grew_trans HGW2.out HGW.out
        have hxc1 := (hgx.cell (p := ⟨xb, xoff + j, none⟩) hxl).trans hxc
        have hxl1 := Nat.lt_of_lt_of_le hxl hgx.size
        have hjx : j < x.length := by rw [HM.out]; exact hlt
        have hzl := HLW.out (nth x j) (by rw [nth_lt hjx]; exact List.getElem_mem _)
        obtain ⟨a, ha⟩ : ∃ a : Nat, nth x j = a := ⟨(nth x j).toNat, by omega⟩
        rw [ha] at hxc1 hzl
        have hst := fallL_take (D := dep L) hjx
        rw [HFALL.out, ha] at hst
        have HST := hid hst
        have haN : a < N := by omega
        obtain ⟨W3, hW3, g3, k10, hz10⟩ := box1 wr (.int .i64 (a : Int)) 3
        have HLST := hid (HLST0.out.grew g3)
        have HG3 := hid (grew_trans HGW.out g3)
        have HK10 := hid k10
        have hF10 : Hid (F.flatten.length ≤ 10) := hid (by rw [← HFALL.out, fallL_len (dep_refl L) (dep_comm L), List.length_take]; omega)
        have hFlet : Hid (∀ t, t < n → ∀ c ∈ nthL F t, 0 ≤ c ∧ c < (N : Int)) := hid (fun t ht c hc => by
          have h1 := (fallL_spec (dep_refl L) (dep_comm L) (x.take j) [] trivial).2.perm (dep_refl L)
          have h2 : c ∈ x.take j := by
            have h3 : c ∈ (fallL (dep L) (x.take j)).flatten := by
              rw [HFALL.out]
              rw [nthL_lt (by rw [HNL.out]; exact ht)] at hc
              exact List.mem_flatten.2 ⟨_, List.getElem_mem _, hc⟩
            have h4 := h1.mem_iff.2 h3
            simpa using h4
          exact HLW.out c (List.mem_of_mem_take h2))
        clear hxo hxc hgx hjx ha hzl hst HLST0 g3 k10
        have HOB10 : Hid (W3.heap[wr.heap.size]? = some (.cells #[.int .i64 (a : Int)] 3 (0, 0))) := hid (by rw [← hW3]; exact heap_alloc_new wr _)
        go_wp2
        go_loopg [11] n (fun gk at' wi => ∃ p : Nat, p ≤ n ∧ at' = .int .i64 (p : Int) ∧ Hid (gk = p) ∧ Hid (∀ t, p ≤ t → t < n → ∀ c ∈ nthL F t, dep L (a : Int) c = false) ∧ Hid (Grew W3 wi))
        case atStart => exact ⟨n, Nat.le_refl _, rfl, hid rfl, hid (fun t h1 h2 => by omega), hid (grew_refl _)⟩
        case round =>
          obtain ⟨p, hpn, rfl, HGP, HNO, HGI⟩ := hrel
          rename World => wi
          by_cases hp0 : p = 0
          · have hp0d : decide (0 < p) = false := by simp; omega
            have hp0i : decide ((0 : Int) < (p : Int)) = false := by simp; omega
            have HCUT := hid (cutL_at (D := dep L) (a := (a : Int)) (L := F) (p := p) (by rw [HNL.out]; exact hpn) (fun t h1 h2 => HNO.out t h1 (by rw [← HNL.out]; exact h2)) (.inl hp0))
            clear hp0
            by_cases hpe : p = n
            · have hn9 : n < 1000000000 := by omega
              have hpb : ((p : Int) == (n : Int)) = true := by simp; omega
              have hpn1 : p < n + 1 := by omega
              have HPE := hid hpe
              clear hpe
              have HGA := hid HGI.out
              have HOI := hid (show Seg wi W2.heap.size 25 1 (.slice oa n oc) n vs from by have h := (HLST.out.grew HGI.out).outer; rw [HNL.out] at h; exact h)
              go_wp2_with (at_builtin; go_loud (refine wpList_append_one rfl _ _ 28 rfl W2.heap.size 25 Try.underlying28 Try.info25 rfl (by decide) _ n _ rfl (HOI.out.alloc _) _ _ _ rfl (one_new _ _ _) rfl hn9 ?_ ?_); (have := HGA.out.size; have := HG3.out.size; simp only [World.size_alloc]; omega); intro v9 w9 hown9 hgrow9 hblk9; have HGR9 := hid hgrow9; have HOWN9 := hid hown9; obtain ⟨a9, c9, rfl, _⟩ := hown9.shape; clear hgrow9 hblk9 hown9)
              have hkq := ((Keeps.refl (fun i _ => (Value.slice oa n oc).ownBlock = some i) wi).alloc (.cells #[.slice none 0 0] 25)).trans (keeps_of_grown HGR9.out)
              have hoi : ∀ i, (Value.slice oa n oc).ownBlock = some i → W2.heap.size ≤ i := fun i e => (HOI.out.own i e).1
              have hlq := (HLST.out.grew HGA.out).push (v' := .slice a9 (n + 1) c9) (by rw [HNL.out]; exact HOWN9.out) hkq
              have HLQ := hid hlq
              have HNQ := hid (show (F ++ [[]]).length = n + 1 by rw [List.length_append, HNL.out]; rfl)
              have hpn0 : nthL (F ++ [[]]) p = [] := by
                rw [HPE.out, ← HNL.out]; simp [nthL]
              have HW10 := hid (show (nthL (F ++ [[]]) p).length ≤ 10 by rw [hpn0]; simp)
              have HGQ := hid (show Grew W2 w9 from (grew_trans HG3.out HGA.out).trans (hkq.below (grew_trans HG3.out HGA.out).size (fun i o e => hoi i e)))
              have hz9 := Nat.lt_of_lt_of_le hz10 HGA.out.size
              have kq10 : w9.cell? ⟨wr.heap.size, 0, none⟩ = some (.int .i64 (a : Int)) := cell_keeps hkq (fun o ho e => by obtain ⟨_, _, cur, h2⟩ := HOI.out.own _ e; have h3 := (HGA.out.block _ hz10).trans HOB10.out; rw [h2] at h3; cases h3) ((HGA.out.cell (p := ⟨wr.heap.size, 0, none⟩) hz10).trans HK10.out)
              have hz99 := Nat.lt_of_lt_of_le hz9 hkq.size
              clear hkq hoi hlq hpn0 hz9
              have hos : Seg (w9) W2.heap.size 25 1 (.slice a9 (n + 1) c9) (n + 1) (vs ++ [Value.slice none 0 0]) := by have h := HLQ.out.outer; rw [HNQ.out] at h; exact h
              obtain ⟨g, off, cap, obj, hv, hbg, hgc, -, -, hcell⟩ := hos.at (by omega)
              simp only [Value.slice.injEq, true_and] at hv
              first
                | obtain ⟨rfl, rfl⟩ := hv
                | (simp only [Option.some.injEq, Addr.mk.injEq, and_true] at hv
                   obtain ⟨⟨hv1, hv2⟩, rfl⟩ := hv
                   replace hv1 := hv1.symm; replace hv2 := hv2.symm
                   subst hv1; subst hv2)
              have HOS := hid hos
              have hplen : p < (F ++ [[]]).length := by rw [HNQ.out]; omega
              have hpv : p < (vs ++ [Value.slice none 0 0]).length := by rw [HLQ.out.len]; exact hplen
              have huc := hcell p (by omega)
              obtain ⟨u, hu⟩ : ∃ u, (vs ++ [Value.slice none 0 0]).getD p undef = u := ⟨_, rfl⟩
              rw [show (vs ++ [Value.slice none 0 0])[p]? = some u by rw [← hu]; simp [List.getD, List.getElem?_eq_getElem hpv]] at huc
              have hin := HLQ.out.inner p hplen
              rw [hu] at hin
              obtain ⟨ua, uc, hus, -⟩ := hin.shape
              obtain ⟨k, hk⟩ : ∃ k, (nthL (F ++ [[]]) p).length = k := ⟨_, rfl⟩
              have hk9 : k < 1000000000 := by have h1 := HW10.out; rw [hk] at h1; omega
              obtain ⟨xs, hxs⟩ : ∃ xs, (nthL (F ++ [[]]) p).map (Value.int .i64) = xs := ⟨_, rfl⟩
              rw [hk, hxs] at hin
              rw [hk] at hus
              have HIN := hid hin; have HGC := hid hgc; have HHU := hid hu; have HKK := hid hk; have HXS := hid hxs; have HBG := hid hbg; have HPL := hid hplen
              have hgl := lt_of_obj hgc
              have hfz : (w9).frozen? ⟨g, off + p, none⟩ = false := frozen_of_row _ _ _ _ _ hgc
              have hpi : (p : Int) < ((n + 1 : Nat) : Int) := by omega
              subst hus
              have HUC := hid huc
              clear hin hgc hcell hu hk hxs hpv hbg hplen hos
              have hpi2 : (p : Int) < (n : Int) + 1 := by omega
              go_wp2
              go_region_law (refine step_append_one (by rfl) _ _ 25 (by rfl) W2.heap.size 3 Try.underlying25 Try.info3 rfl (by decide) (.slice ua k uc) k xs (by rfl) ((HIN.out.grew (grew_drew (grew_refl _))).alloc _) _ _ (.int .i64 (a : Int)) (by rfl) (one_new _ _ _) rfl hk9 (by have := HGQ.out.size; simp; omega) ?_; intro v8 w8 hown8 hgrow8 hblk8; obtain ⟨a8, c8, rfl, _⟩ := hown8.shape; have hk8 : Keeps (fun i o => (Value.slice ua k uc).ownBlock = some i ∧ ∃ cur, o = .cells cur 3 (0, 0)) (w9) w8 := (((Keeps.refl _ (w9)).drew).alloc _).grown hgrow8 (fun i o e ho => by obtain ⟨_, _, cur, hcur⟩ := HIN.out.own i e; have h2 := (Below.heap_alloc ((w9).drew) (.cells #[.int .i64 (a : Int)] 3) i (lt_of_obj hcur)).trans hcur; rw [h2] at ho; cases ho; exact ⟨e, _, rfl⟩); have hob8 := hk8.obj _ _ HGC.out (fun ⟨_, cur, h⟩ => by cases h); have hf8 : w8.frozen? ⟨g, off + p, none⟩ = false := frozen_of_row _ _ _ _ _ hob8; have hl8 := lt_of_obj hob8; have hcc8 : w8.cell? ⟨g, off + p, none⟩ = some (.slice ua k uc) := cell_of_obj HGC.out hob8 HUC.out; have HK8 := hid hk8; have HOWN8 := hid hown8; have HBLK8 := hid hblk8; have HOB8 := hid hob8; clear hk8 hown8 hblk8 hob8 hgrow8)
              all_goals (
                have hset := segE_set (HOS.out.keeps HK8.out (fun i o e ⟨cur, hc⟩ h => by obtain ⟨_, cur2, h2⟩ := h; rw [h2] at hc; cases hc)) rfl (show p < n + 1 by omega) (.slice a8 (k + 1) c8)
                have hkp : Keeps (fun i o => (((Value.slice ua k uc).ownBlock = some i ∧ ∃ cur, o = .cells cur 3 (0, 0)) ∨ (i = g ∧ ∃ cur, o = .cells cur 25 (0, 0)))) (w9) (w8.setCell ⟨g, off + p, none⟩ (.slice a8 (k + 1) c8)) :=
                  (HK8.out.mono (fun i o h => .inl h)).trans' (keeps_setB w8 g _ _) (fun i o ho h => by subst h; rw [HGC.out] at ho; cases ho; exact .inr ⟨rfl, _, rfl⟩)
                have hown9 : Seg (w8.setCell ⟨g, off + p, none⟩ (.slice a8 (k + 1) c8)) W2.heap.size 3 1 (.slice a8 (k + 1) c8) (nthL (F ++ [[]]) p ++ [(a : Int)]).length ((nthL (F ++ [[]]) p ++ [(a : Int)]).map (.int .i64)) := by
                  rw [List.length_append, HKK.out, List.map_append, HXS.out]
                  refine HOWN8.out.keeps (keeps_setB w8 g _ _) (fun i o e ⟨cur, hc⟩ h => ?_)
                  subst h
                  obtain ⟨_, _, cur2, h2⟩ := HOWN8.out.own i e
                  rw [HOB8.out] at h2; cases h2
                have hls9 := HLQ.out.upd HPL.out hown9 (hkp.mono (fun i o h => by
                  rw [HHU.out]
                  rcases h with h | ⟨_, h⟩
                  · exact .inl h
                  · exact .inr h)) (fun i e => by
                  rw [HHU.out]
                  rcases HBLK8.out with h | h
                  · exact .inl (h.symm.trans e)
                  · have e2 := h.symm.trans e; simp at e2; exact .inr (by omega)) (by rw [HNQ.out]; exact hset)
                have HLS9 := hid hls9
                have HG9 := hid (show Grew W2 (w8.setCell ⟨g, off + p, none⟩ (.slice a8 (k + 1) c8)) from HGQ.out.trans (hkp.below HGQ.out.size (fun i o h => by
                  rcases h with ⟨h, _⟩ | ⟨h, _⟩
                  · exact (HIN.out.own i h).1
                  · rw [h]; exact HBG.out)))
                clear hset hkp hown9 hls9
                go_wp2
                go_roundg (m - (j + 1))
                case measure => have := HGK.out; omega
                case rel =>
                  have hd : fallL (dep L) (x.take (j + 1)) = (F ++ [[]]).set p (nthL (F ++ [[]]) p ++ [(a : Int)]) := by rw [HST.out]; exact by rw [HPE.out, ← HNL.out]; exact dropL_end (by rw [HNL.out, ← HPE.out]; exact HCUT.out)
                  have hd2 : ((F ++ [[]]).set p (nthL (F ++ [[]]) p ++ [(a : Int)])).length = n + 1 := by rw [List.length_set, HNQ.out]
                  refine ⟨j + 1, _, _, n + 1, by omega, by go_num, hid rfl, hid hd, hid hd2, ?_, HLS9, HG9⟩
                  rw [← hd2, ← hd]
                  have h1 := foatU_len (fallL_spec (dep_refl L) (dep_comm L) (x.take (j + 1)) [] trivial).1
                  have h2 := fallL_len (dep_refl L) (dep_comm L) (x.take (j + 1))
                  rw [List.length_take] at h2
                  unfold fallL at h2 ⊢
                  omega)
            · have hpb : ((p : Int) == (n : Int)) = false := by simp; omega
              have HGA := hid HGI.out
              have HOI := hid (show Seg wi W2.heap.size 25 1 (.slice oa n oc) n vs from by have h := (HLST.out.grew HGI.out).outer; rw [HNL.out] at h; exact h)
              go_wp2
              have HLQ := hid (HLST.out.grew HGA.out)
              have HNQ := HNL
              have HW10 := hid (show (nthL F p).length ≤ 10 from Nat.le_trans (nthL_le F p) hF10.out)
              have HGQ := hid (grew_trans HG3.out HGA.out)
              have kq10 := (HGA.out.cell (p := ⟨wr.heap.size, 0, none⟩) hz10).trans HK10.out
              have hz99 := Nat.lt_of_lt_of_le hz10 HGA.out.size
              have hos : Seg (wi) W2.heap.size 25 1 (.slice oa (n) oc) (n) (vs) := by have h := HLQ.out.outer; rw [HNQ.out] at h; exact h
              obtain ⟨g, off, cap, obj, hv, hbg, hgc, -, -, hcell⟩ := hos.at (by omega)
              simp only [Value.slice.injEq, true_and] at hv
              first
                | obtain ⟨rfl, rfl⟩ := hv
                | (simp only [Option.some.injEq, Addr.mk.injEq, and_true] at hv
                   obtain ⟨⟨hv1, hv2⟩, rfl⟩ := hv
                   replace hv1 := hv1.symm; replace hv2 := hv2.symm
                   subst hv1; subst hv2)
              have HOS := hid hos
              have hplen : p < (F).length := by rw [HNQ.out]; omega
              have hpv : p < (vs).length := by rw [HLQ.out.len]; exact hplen
              have huc := hcell p (by omega)
              obtain ⟨u, hu⟩ : ∃ u, (vs).getD p undef = u := ⟨_, rfl⟩
              rw [show (vs)[p]? = some u by rw [← hu]; simp [List.getD, List.getElem?_eq_getElem hpv]] at huc
              have hin := HLQ.out.inner p hplen
              rw [hu] at hin
              obtain ⟨ua, uc, hus, -⟩ := hin.shape
              obtain ⟨k, hk⟩ : ∃ k, (nthL (F) p).length = k := ⟨_, rfl⟩
              have hk9 : k < 1000000000 := by have h1 := HW10.out; rw [hk] at h1; omega
              obtain ⟨xs, hxs⟩ : ∃ xs, (nthL (F) p).map (Value.int .i64) = xs := ⟨_, rfl⟩
              rw [hk, hxs] at hin
              rw [hk] at hus
              have HIN := hid hin; have HGC := hid hgc; have HHU := hid hu; have HKK := hid hk; have HXS := hid hxs; have HBG := hid hbg; have HPL := hid hplen
              have hgl := lt_of_obj hgc
              have hfz : (wi).frozen? ⟨g, off + p, none⟩ = false := frozen_of_row _ _ _ _ _ hgc
              have hpi : (p : Int) < ((n : Nat) : Int) := by omega
              subst hus
              have HUC := hid huc
              clear hin hgc hcell hu hk hxs hpv hbg hplen hos
              go_wp2
              go_region_law (refine step_append_one (by rfl) _ _ 25 (by rfl) W2.heap.size 3 Try.underlying25 Try.info3 rfl (by decide) (.slice ua k uc) k xs (by rfl) ((HIN.out.grew (grew_drew (grew_refl _))).alloc _) _ _ (.int .i64 (a : Int)) (by rfl) (one_new _ _ _) rfl hk9 (by have := HGQ.out.size; simp; omega) ?_; intro v8 w8 hown8 hgrow8 hblk8; obtain ⟨a8, c8, rfl, _⟩ := hown8.shape; have hk8 : Keeps (fun i o => (Value.slice ua k uc).ownBlock = some i ∧ ∃ cur, o = .cells cur 3 (0, 0)) (wi) w8 := (((Keeps.refl _ (wi)).drew).alloc _).grown hgrow8 (fun i o e ho => by obtain ⟨_, _, cur, hcur⟩ := HIN.out.own i e; have h2 := (Below.heap_alloc ((wi).drew) (.cells #[.int .i64 (a : Int)] 3) i (lt_of_obj hcur)).trans hcur; rw [h2] at ho; cases ho; exact ⟨e, _, rfl⟩); have hob8 := hk8.obj _ _ HGC.out (fun ⟨_, cur, h⟩ => by cases h); have hf8 : w8.frozen? ⟨g, off + p, none⟩ = false := frozen_of_row _ _ _ _ _ hob8; have hl8 := lt_of_obj hob8; have hcc8 : w8.cell? ⟨g, off + p, none⟩ = some (.slice ua k uc) := cell_of_obj HGC.out hob8 HUC.out; have HK8 := hid hk8; have HOWN8 := hid hown8; have HBLK8 := hid hblk8; have HOB8 := hid hob8; clear hk8 hown8 hblk8 hob8 hgrow8)
              all_goals (
                have hset := segE_set (HOS.out.keeps HK8.out (fun i o e ⟨cur, hc⟩ h => by obtain ⟨_, cur2, h2⟩ := h; rw [h2] at hc; cases hc)) rfl (show p < n by omega) (.slice a8 (k + 1) c8)
                have hkp : Keeps (fun i o => (((Value.slice ua k uc).ownBlock = some i ∧ ∃ cur, o = .cells cur 3 (0, 0)) ∨ (i = g ∧ ∃ cur, o = .cells cur 25 (0, 0)))) (wi) (w8.setCell ⟨g, off + p, none⟩ (.slice a8 (k + 1) c8)) :=
                  (HK8.out.mono (fun i o h => .inl h)).trans' (keeps_setB w8 g _ _) (fun i o ho h => by subst h; rw [HGC.out] at ho; cases ho; exact .inr ⟨rfl, _, rfl⟩)
                have hown9 : Seg (w8.setCell ⟨g, off + p, none⟩ (.slice a8 (k + 1) c8)) W2.heap.size 3 1 (.slice a8 (k + 1) c8) (nthL (F) p ++ [(a : Int)]).length ((nthL (F) p ++ [(a : Int)]).map (.int .i64)) := by
                  rw [List.length_append, HKK.out, List.map_append, HXS.out]
                  refine HOWN8.out.keeps (keeps_setB w8 g _ _) (fun i o e ⟨cur, hc⟩ h => ?_)
                  subst h
                  obtain ⟨_, _, cur2, h2⟩ := HOWN8.out.own i e
                  rw [HOB8.out] at h2; cases h2
                have hls9 := HLQ.out.upd HPL.out hown9 (hkp.mono (fun i o h => by
                  rw [HHU.out]
                  rcases h with h | ⟨_, h⟩
                  · exact .inl h
                  · exact .inr h)) (fun i e => by
                  rw [HHU.out]
                  rcases HBLK8.out with h | h
                  · exact .inl (h.symm.trans e)
                  · have e2 := h.symm.trans e; simp at e2; exact .inr (by omega)) (by rw [HNQ.out]; exact hset)
                have HLS9 := hid hls9
                have HG9 := hid (show Grew W2 (w8.setCell ⟨g, off + p, none⟩ (.slice a8 (k + 1) c8)) from HGQ.out.trans (hkp.below HGQ.out.size (fun i o h => by
                  rcases h with ⟨h, _⟩ | ⟨h, _⟩
                  · exact (HIN.out.own i h).1
                  · rw [h]; exact HBG.out)))
                clear hset hkp hown9 hls9
                go_wp2
                go_roundg (m - (j + 1))
                case measure => have := HGK.out; omega
                case rel =>
                  have hd : fallL (dep L) (x.take (j + 1)) = (F).set p (nthL (F) p ++ [(a : Int)]) := by rw [HST.out]; exact dropL_in HPL.out HCUT.out
                  have hd2 : ((F).set p (nthL (F) p ++ [(a : Int)])).length = n := by rw [List.length_set, HNQ.out]
                  refine ⟨j + 1, _, _, n, by omega, by go_num, hid rfl, hid hd, hid hd2, ?_, HLS9, HG9⟩
                  rw [← hd2, ← hd]
                  have h1 := foatU_len (fallL_spec (dep_refl L) (dep_comm L) (x.take (j + 1)) [] trivial).1
                  have h2 := fallL_len (dep_refl L) (dep_comm L) (x.take (j + 1))
                  rw [List.length_take] at h2
                  unfold fallL at h2 ⊢
                  omega)
          · obtain ⟨q, hq⟩ : ∃ q, p = q + 1 := ⟨p - 1, by omega⟩
            have hwr : IntKind.i64.wrap ((p : Int) - 1) = (q : Int) := by rw [IntWalk.i64_in _ (by omega)]; omega
            have hp0n : 0 < p := by omega
            have hp0d : decide (0 < p) = true := by simp; omega
            have hp0i : decide ((0 : Int) < (p : Int)) = true := by simp; omega
            have HOI := hid (show Seg wi W2.heap.size 25 1 (.slice oa n oc) n vs from by have h := (HLST.out.grew HGI.out).outer; rw [HNL.out] at h; exact h)
            obtain ⟨g0, off0, cap0, obj0, hv0, -, hgc0, -, -, hcell0⟩ := HOI.out.at (by omega)
            simp only [Value.slice.injEq, true_and] at hv0
            obtain ⟨rfl, rfl⟩ := hv0
            have hqv : q < vs.length := by rw [HLST.out.len, HNL.out]; omega
            have huq := hcell0 q (by omega)
            obtain ⟨u, hu⟩ : ∃ u, vs.getD q undef = u := ⟨_, rfl⟩
            rw [show vs[q]? = some u by rw [← hu]; simp [List.getD, List.getElem?_eq_getElem hqv]] at huq
            have hinq := (HLST.out.grew HGI.out).inner q (by rw [HNL.out]; omega)
            rw [hu] at hinq
            have hgl0 := lt_of_obj hgc0
            have hqn : (q : Int) < (n : Int) := by omega
            have kw10 := (HGI.out.cell (p := ⟨wr.heap.size, 0, none⟩) hz10).trans HK10.out
            have hgi6 := grew_trans HG3.out HGI.out
            have kw6 := (hgi6.cell (p := ⟨w1.heap.size, 0, none⟩) HZ6.out).trans HK6.out
            have hLi := HL2.out.grew hgi6
            have hcf := containsFunc_any 92 #[.pointer (some ⟨w1.heap.size, 0, none⟩), .pointer (some ⟨wr.heap.size, 0, none⟩)] (fun b => dep L (a : Int) b) u (nthL F q) wi entered92 (isInts_any hinq) (fun i hi => lay92_says B N _ _ a _ wi hN6 haN (hFlet.out q (by omega) _ (by rw [nth_lt hi]; exact List.getElem_mem _)) hLi kw6 kw10)
            obtain ⟨d, hd⟩ : ∃ d, (nthL F q).any (fun b => dep L (a : Int) b) = d := ⟨_, rfl⟩
            rw [hd] at hcf
            have HCF := hid hcf; have HD := hid hd
            have HQ := hid hq
            clear hgc0 hcell0 hqv hu hinq kw10 kw6 hgi6 hLi hcf hd hq
            cases d
            · go_wp2_with (go_at_call 70; (with_reducible refine HCF.out.mono ?_); rintro e w5 ⟨rfl, hx⟩; have HGA := hid (grew_trans HGI.out hx); clear hx)
              go_roundg q
              case measure => have := HGP.out; have := HQ.out; omega
              case rel =>
                have hq := HQ.out
                refine ⟨q, by omega, rfl, hid rfl, hid (fun t h1 h2 c hc => ?_), HGA⟩
                by_cases htq : t = q
                · subst htq
                  have h3 := HD.out
                  rw [List.any_eq_false] at h3
                  have h4 := h3 c hc
                  simpa using h4
                · exact HNO.out t (by omega) h2 c hc
            · have HCUT := hid (cutL_at (D := dep L) (a := (a : Int)) (L := F) (p := p) (by rw [HNL.out]; exact hpn) (fun t h1 h2 => HNO.out t h1 (by rw [← HNL.out]; exact h2)) (.inr (by rw [show p - 1 = q by have := HQ.out; omega]; exact HD.out)))
              by_cases hpe : p = n
              · have hn9 : n < 1000000000 := by omega
                have hpb : ((p : Int) == (n : Int)) = true := by simp; omega
                have hpn1 : p < n + 1 := by omega
                have HPE := hid hpe
                clear hpe
                go_wp2_with (first
                  | (go_at_call 70; (with_reducible refine HCF.out.mono ?_); rintro e w5 ⟨rfl, hx⟩; have HGA := hid (grew_trans HGI.out hx); replace HOI := hid (HOI.out.grew hx); clear hx)
                  | (at_builtin; go_loud (refine wpList_append_one rfl _ _ 28 rfl W2.heap.size 25 Try.underlying28 Try.info25 rfl (by decide) _ n _ rfl (HOI.out.alloc _) _ _ _ rfl (one_new _ _ _) rfl hn9 ?_ ?_); (have := HGA.out.size; have := HG3.out.size; simp only [World.size_alloc]; omega); intro v9 w9 hown9 hgrow9 hblk9; have HGR9 := hid hgrow9; have HOWN9 := hid hown9; obtain ⟨a9, c9, rfl, _⟩ := hown9.shape; clear hgrow9 hblk9 hown9))
                have hkq := ((Keeps.refl (fun i _ => (Value.slice (some ⟨g0, off0, none⟩) n oc).ownBlock = some i) w5).alloc (.cells #[.slice none 0 0] 25)).trans (keeps_of_grown HGR9.out)
                have hoi : ∀ i, (Value.slice (some ⟨g0, off0, none⟩) n oc).ownBlock = some i → W2.heap.size ≤ i := fun i e => (HOI.out.own i e).1
                have hlq := (HLST.out.grew HGA.out).push (v' := .slice a9 (n + 1) c9) (by rw [HNL.out]; exact HOWN9.out) hkq
                have HLQ := hid hlq
                have HNQ := hid (show (F ++ [[]]).length = n + 1 by rw [List.length_append, HNL.out]; rfl)
                have hpn0 : nthL (F ++ [[]]) p = [] := by
                  rw [HPE.out, ← HNL.out]; simp [nthL]
                have HW10 := hid (show (nthL (F ++ [[]]) p).length ≤ 10 by rw [hpn0]; simp)
                have HGQ := hid (show Grew W2 w9 from (grew_trans HG3.out HGA.out).trans (hkq.below (grew_trans HG3.out HGA.out).size (fun i o e => hoi i e)))
                have hz9 := Nat.lt_of_lt_of_le hz10 HGA.out.size
                have kq10 : w9.cell? ⟨wr.heap.size, 0, none⟩ = some (.int .i64 (a : Int)) := cell_keeps hkq (fun o ho e => by obtain ⟨_, _, cur, h2⟩ := HOI.out.own _ e; have h3 := (HGA.out.block _ hz10).trans HOB10.out; rw [h2] at h3; cases h3) ((HGA.out.cell (p := ⟨wr.heap.size, 0, none⟩) hz10).trans HK10.out)
                have hz99 := Nat.lt_of_lt_of_le hz9 hkq.size
                clear hkq hoi hlq hpn0 hz9
                have hos : Seg (w9) W2.heap.size 25 1 (.slice a9 (n + 1) c9) (n + 1) (vs ++ [Value.slice none 0 0]) := by have h := HLQ.out.outer; rw [HNQ.out] at h; exact h
                obtain ⟨g, off, cap, obj, hv, hbg, hgc, -, -, hcell⟩ := hos.at (by omega)
                simp only [Value.slice.injEq, true_and] at hv
                first
                  | obtain ⟨rfl, rfl⟩ := hv
                  | (simp only [Option.some.injEq, Addr.mk.injEq, and_true] at hv
                     obtain ⟨⟨hv1, hv2⟩, rfl⟩ := hv
                     replace hv1 := hv1.symm; replace hv2 := hv2.symm
                     subst hv1; subst hv2)
                have HOS := hid hos
                have hplen : p < (F ++ [[]]).length := by rw [HNQ.out]; omega
                have hpv : p < (vs ++ [Value.slice none 0 0]).length := by rw [HLQ.out.len]; exact hplen
                have huc := hcell p (by omega)
                obtain ⟨u, hu⟩ : ∃ u, (vs ++ [Value.slice none 0 0]).getD p undef = u := ⟨_, rfl⟩
                rw [show (vs ++ [Value.slice none 0 0])[p]? = some u by rw [← hu]; simp [List.getD, List.getElem?_eq_getElem hpv]] at huc
                have hin := HLQ.out.inner p hplen
                rw [hu] at hin
                obtain ⟨ua, uc, hus, -⟩ := hin.shape
                obtain ⟨k, hk⟩ : ∃ k, (nthL (F ++ [[]]) p).length = k := ⟨_, rfl⟩
                have hk9 : k < 1000000000 := by have h1 := HW10.out; rw [hk] at h1; omega
                obtain ⟨xs, hxs⟩ : ∃ xs, (nthL (F ++ [[]]) p).map (Value.int .i64) = xs := ⟨_, rfl⟩
                rw [hk, hxs] at hin
                rw [hk] at hus
                have HIN := hid hin; have HGC := hid hgc; have HHU := hid hu; have HKK := hid hk; have HXS := hid hxs; have HBG := hid hbg; have HPL := hid hplen
                have hgl := lt_of_obj hgc
                have hfz : (w9).frozen? ⟨g, off + p, none⟩ = false := frozen_of_row _ _ _ _ _ hgc
                have hpi : (p : Int) < ((n + 1 : Nat) : Int) := by omega
                subst hus
                have HUC := hid huc
                clear hin hgc hcell hu hk hxs hpv hbg hplen hos
                have hpi2 : (p : Int) < (n : Int) + 1 := by omega
                go_wp2
                go_region_law (refine step_append_one (by rfl) _ _ 25 (by rfl) W2.heap.size 3 Try.underlying25 Try.info3 rfl (by decide) (.slice ua k uc) k xs (by rfl) ((HIN.out.grew (grew_drew (grew_refl _))).alloc _) _ _ (.int .i64 (a : Int)) (by rfl) (one_new _ _ _) rfl hk9 (by have := HGQ.out.size; simp; omega) ?_; intro v8 w8 hown8 hgrow8 hblk8; obtain ⟨a8, c8, rfl, _⟩ := hown8.shape; have hk8 : Keeps (fun i o => (Value.slice ua k uc).ownBlock = some i ∧ ∃ cur, o = .cells cur 3 (0, 0)) (w9) w8 := (((Keeps.refl _ (w9)).drew).alloc _).grown hgrow8 (fun i o e ho => by obtain ⟨_, _, cur, hcur⟩ := HIN.out.own i e; have h2 := (Below.heap_alloc ((w9).drew) (.cells #[.int .i64 (a : Int)] 3) i (lt_of_obj hcur)).trans hcur; rw [h2] at ho; cases ho; exact ⟨e, _, rfl⟩); have hob8 := hk8.obj _ _ HGC.out (fun ⟨_, cur, h⟩ => by cases h); have hf8 : w8.frozen? ⟨g, off + p, none⟩ = false := frozen_of_row _ _ _ _ _ hob8; have hl8 := lt_of_obj hob8; have hcc8 : w8.cell? ⟨g, off + p, none⟩ = some (.slice ua k uc) := cell_of_obj HGC.out hob8 HUC.out; have HK8 := hid hk8; have HOWN8 := hid hown8; have HBLK8 := hid hblk8; have HOB8 := hid hob8; clear hk8 hown8 hblk8 hob8 hgrow8)
                all_goals (
                  have hset := segE_set (HOS.out.keeps HK8.out (fun i o e ⟨cur, hc⟩ h => by obtain ⟨_, cur2, h2⟩ := h; rw [h2] at hc; cases hc)) rfl (show p < n + 1 by omega) (.slice a8 (k + 1) c8)
                  have hkp : Keeps (fun i o => (((Value.slice ua k uc).ownBlock = some i ∧ ∃ cur, o = .cells cur 3 (0, 0)) ∨ (i = g ∧ ∃ cur, o = .cells cur 25 (0, 0)))) (w9) (w8.setCell ⟨g, off + p, none⟩ (.slice a8 (k + 1) c8)) :=
                    (HK8.out.mono (fun i o h => .inl h)).trans' (keeps_setB w8 g _ _) (fun i o ho h => by subst h; rw [HGC.out] at ho; cases ho; exact .inr ⟨rfl, _, rfl⟩)
                  have hown9 : Seg (w8.setCell ⟨g, off + p, none⟩ (.slice a8 (k + 1) c8)) W2.heap.size 3 1 (.slice a8 (k + 1) c8) (nthL (F ++ [[]]) p ++ [(a : Int)]).length ((nthL (F ++ [[]]) p ++ [(a : Int)]).map (.int .i64)) := by
                    rw [List.length_append, HKK.out, List.map_append, HXS.out]
                    refine HOWN8.out.keeps (keeps_setB w8 g _ _) (fun i o e ⟨cur, hc⟩ h => ?_)
                    subst h
                    obtain ⟨_, _, cur2, h2⟩ := HOWN8.out.own i e
                    rw [HOB8.out] at h2; cases h2
                  have hls9 := HLQ.out.upd HPL.out hown9 (hkp.mono (fun i o h => by
                    rw [HHU.out]
                    rcases h with h | ⟨_, h⟩
                    · exact .inl h
                    · exact .inr h)) (fun i e => by
                    rw [HHU.out]
                    rcases HBLK8.out with h | h
                    · exact .inl (h.symm.trans e)
                    · have e2 := h.symm.trans e; simp at e2; exact .inr (by omega)) (by rw [HNQ.out]; exact hset)
                  have HLS9 := hid hls9
                  have HG9 := hid (show Grew W2 (w8.setCell ⟨g, off + p, none⟩ (.slice a8 (k + 1) c8)) from HGQ.out.trans (hkp.below HGQ.out.size (fun i o h => by
                    rcases h with ⟨h, _⟩ | ⟨h, _⟩
                    · exact (HIN.out.own i h).1
                    · rw [h]; exact HBG.out)))
                  clear hset hkp hown9 hls9
                  go_wp2
                  go_roundg (m - (j + 1))
                  case measure => have := HGK.out; omega
                  case rel =>
                    have hd : fallL (dep L) (x.take (j + 1)) = (F ++ [[]]).set p (nthL (F ++ [[]]) p ++ [(a : Int)]) := by rw [HST.out]; exact by rw [HPE.out, ← HNL.out]; exact dropL_end (by rw [HNL.out, ← HPE.out]; exact HCUT.out)
                    have hd2 : ((F ++ [[]]).set p (nthL (F ++ [[]]) p ++ [(a : Int)])).length = n + 1 := by rw [List.length_set, HNQ.out]
                    refine ⟨j + 1, _, _, n + 1, by omega, by go_num, hid rfl, hid hd, hid hd2, ?_, HLS9, HG9⟩
                    rw [← hd2, ← hd]
                    have h1 := foatU_len (fallL_spec (dep_refl L) (dep_comm L) (x.take (j + 1)) [] trivial).1
                    have h2 := fallL_len (dep_refl L) (dep_comm L) (x.take (j + 1))
                    rw [List.length_take] at h2
                    unfold fallL at h2 ⊢
                    omega)
              · have hpb : ((p : Int) == (n : Int)) = false := by simp; omega
                go_wp2_with (go_at_call 70; (with_reducible refine HCF.out.mono ?_); rintro e w5 ⟨rfl, hx⟩; have HGA := hid (grew_trans HGI.out hx); replace HOI := hid (HOI.out.grew hx); clear hx)
                have HLQ := hid (HLST.out.grew HGA.out)
                have HNQ := HNL
                have HW10 := hid (show (nthL F p).length ≤ 10 from Nat.le_trans (nthL_le F p) hF10.out)
                have HGQ := hid (grew_trans HG3.out HGA.out)
                have kq10 := (HGA.out.cell (p := ⟨wr.heap.size, 0, none⟩) hz10).trans HK10.out
                have hz99 := Nat.lt_of_lt_of_le hz10 HGA.out.size
                have hos : Seg (w5) W2.heap.size 25 1 (.slice (some ⟨g0, off0, none⟩) (n) oc) (n) (vs) := by have h := HLQ.out.outer; rw [HNQ.out] at h; exact h
                obtain ⟨g, off, cap, obj, hv, hbg, hgc, -, -, hcell⟩ := hos.at (by omega)
                simp only [Value.slice.injEq, true_and] at hv
                first
                  | obtain ⟨rfl, rfl⟩ := hv
                  | (simp only [Option.some.injEq, Addr.mk.injEq, and_true] at hv
                     obtain ⟨⟨hv1, hv2⟩, rfl⟩ := hv
                     replace hv1 := hv1.symm; replace hv2 := hv2.symm
                     subst hv1; subst hv2)
                have HOS := hid hos
                have hplen : p < (F).length := by rw [HNQ.out]; omega
                have hpv : p < (vs).length := by rw [HLQ.out.len]; exact hplen
                have huc := hcell p (by omega)
                obtain ⟨u, hu⟩ : ∃ u, (vs).getD p undef = u := ⟨_, rfl⟩
                rw [show (vs)[p]? = some u by rw [← hu]; simp [List.getD, List.getElem?_eq_getElem hpv]] at huc
                have hin := HLQ.out.inner p hplen
                rw [hu] at hin
                obtain ⟨ua, uc, hus, -⟩ := hin.shape
                obtain ⟨k, hk⟩ : ∃ k, (nthL (F) p).length = k := ⟨_, rfl⟩
                have hk9 : k < 1000000000 := by have h1 := HW10.out; rw [hk] at h1; omega
                obtain ⟨xs, hxs⟩ : ∃ xs, (nthL (F) p).map (Value.int .i64) = xs := ⟨_, rfl⟩
                rw [hk, hxs] at hin
                rw [hk] at hus
                have HIN := hid hin; have HGC := hid hgc; have HHU := hid hu; have HKK := hid hk; have HXS := hid hxs; have HBG := hid hbg; have HPL := hid hplen
                have hgl := lt_of_obj hgc
                have hfz : (w5).frozen? ⟨g, off + p, none⟩ = false := frozen_of_row _ _ _ _ _ hgc
                have hpi : (p : Int) < ((n : Nat) : Int) := by omega
                subst hus
                have HUC := hid huc
                clear hin hgc hcell hu hk hxs hpv hbg hplen hos
                go_wp2
                go_region_law (refine step_append_one (by rfl) _ _ 25 (by rfl) W2.heap.size 3 Try.underlying25 Try.info3 rfl (by decide) (.slice ua k uc) k xs (by rfl) ((HIN.out.grew (grew_drew (grew_refl _))).alloc _) _ _ (.int .i64 (a : Int)) (by rfl) (one_new _ _ _) rfl hk9 (by have := HGQ.out.size; simp; omega) ?_; intro v8 w8 hown8 hgrow8 hblk8; obtain ⟨a8, c8, rfl, _⟩ := hown8.shape; have hk8 : Keeps (fun i o => (Value.slice ua k uc).ownBlock = some i ∧ ∃ cur, o = .cells cur 3 (0, 0)) (w5) w8 := (((Keeps.refl _ (w5)).drew).alloc _).grown hgrow8 (fun i o e ho => by obtain ⟨_, _, cur, hcur⟩ := HIN.out.own i e; have h2 := (Below.heap_alloc ((w5).drew) (.cells #[.int .i64 (a : Int)] 3) i (lt_of_obj hcur)).trans hcur; rw [h2] at ho; cases ho; exact ⟨e, _, rfl⟩); have hob8 := hk8.obj _ _ HGC.out (fun ⟨_, cur, h⟩ => by cases h); have hf8 : w8.frozen? ⟨g, off + p, none⟩ = false := frozen_of_row _ _ _ _ _ hob8; have hl8 := lt_of_obj hob8; have hcc8 : w8.cell? ⟨g, off + p, none⟩ = some (.slice ua k uc) := cell_of_obj HGC.out hob8 HUC.out; have HK8 := hid hk8; have HOWN8 := hid hown8; have HBLK8 := hid hblk8; have HOB8 := hid hob8; clear hk8 hown8 hblk8 hob8 hgrow8)
                all_goals (
                  have hset := segE_set (HOS.out.keeps HK8.out (fun i o e ⟨cur, hc⟩ h => by obtain ⟨_, cur2, h2⟩ := h; rw [h2] at hc; cases hc)) rfl (show p < n by omega) (.slice a8 (k + 1) c8)
                  have hkp : Keeps (fun i o => (((Value.slice ua k uc).ownBlock = some i ∧ ∃ cur, o = .cells cur 3 (0, 0)) ∨ (i = g ∧ ∃ cur, o = .cells cur 25 (0, 0)))) (w5) (w8.setCell ⟨g, off + p, none⟩ (.slice a8 (k + 1) c8)) :=
                    (HK8.out.mono (fun i o h => .inl h)).trans' (keeps_setB w8 g _ _) (fun i o ho h => by subst h; rw [HGC.out] at ho; cases ho; exact .inr ⟨rfl, _, rfl⟩)
                  have hown9 : Seg (w8.setCell ⟨g, off + p, none⟩ (.slice a8 (k + 1) c8)) W2.heap.size 3 1 (.slice a8 (k + 1) c8) (nthL (F) p ++ [(a : Int)]).length ((nthL (F) p ++ [(a : Int)]).map (.int .i64)) := by
                    rw [List.length_append, HKK.out, List.map_append, HXS.out]
                    refine HOWN8.out.keeps (keeps_setB w8 g _ _) (fun i o e ⟨cur, hc⟩ h => ?_)
                    subst h
                    obtain ⟨_, _, cur2, h2⟩ := HOWN8.out.own i e
                    rw [HOB8.out] at h2; cases h2
                  have hls9 := HLQ.out.upd HPL.out hown9 (hkp.mono (fun i o h => by
                    rw [HHU.out]
                    rcases h with h | ⟨_, h⟩
                    · exact .inl h
                    · exact .inr h)) (fun i e => by
                    rw [HHU.out]
                    rcases HBLK8.out with h | h
                    · exact .inl (h.symm.trans e)
                    · have e2 := h.symm.trans e; simp at e2; exact .inr (by omega)) (by rw [HNQ.out]; exact hset)
                  have HLS9 := hid hls9
                  have HG9 := hid (show Grew W2 (w8.setCell ⟨g, off + p, none⟩ (.slice a8 (k + 1) c8)) from HGQ.out.trans (hkp.below HGQ.out.size (fun i o h => by
                    rcases h with ⟨h, _⟩ | ⟨h, _⟩
                    · exact (HIN.out.own i h).1
                    · rw [h]; exact HBG.out)))
                  clear hset hkp hown9 hls9
                  go_wp2
                  go_roundg (m - (j + 1))
                  case measure => have := HGK.out; omega
                  case rel =>
                    have hd : fallL (dep L) (x.take (j + 1)) = (F).set p (nthL (F) p ++ [(a : Int)]) := by rw [HST.out]; exact dropL_in HPL.out HCUT.out
                    have hd2 : ((F).set p (nthL (F) p ++ [(a : Int)])).length = n := by rw [List.length_set, HNQ.out]
                    refine ⟨j + 1, _, _, n, by omega, by go_num, hid rfl, hid hd, hid hd2, ?_, HLS9, HG9⟩
                    rw [← hd2, ← hd]
                    have h1 := foatU_len (fallL_spec (dep_refl L) (dep_comm L) (x.take (j + 1)) [] trivial).1
                    have h2 := fallL_len (dep_refl L) (dep_comm L) (x.take (j + 1))
                    rw [List.length_take] at h2
                    unfold fallL at h2 ⊢
                    omega)
      · obtain rfl : m = j := by omega
        have hfall := HFALL.out
        rw [List.take_of_length_le (by rw [HM.out]; exact Nat.le_refl _)] at hfall
        have HFX := hid hfall
        clear hfall
        go_wp2
        go_loopg [13, 66] n (fun gk _ i wr2 => ∃ t : Nat, t ≤ n ∧ i = .int .i64 (t : Int) ∧ Hid (gk = n - t) ∧ Hid (LSt wr2 W2.heap.size (.slice oa n oc) (sortTo F t) vs) ∧ Hid (Grew W2 wr2))
        case atStart => exact ⟨0, by omega, rfl, hid rfl, hid (by rw [sortTo_zero]; exact HLST0.out), HGW⟩
        case round =>
          obtain ⟨t, ht, rfl, HGT, HLS, HGS⟩ := hrel
          rename World => wr2
          by_cases htn : t < n
          · have hFt : t < F.length := by rw [HNL.out]; exact htn
            have hSl : (sortTo F t).length = n := by rw [sortTo_length, HNL.out]
            have hos : Seg wr2 W2.heap.size 25 1 (.slice oa n oc) n vs := by have h := HLS.out.outer; rw [hSl] at h; exact h
            obtain ⟨g, off, cap, obj, hv, hbg, hgc, -, -, hcell⟩ := hos.at (by omega)
            simp only [Value.slice.injEq, true_and] at hv
            obtain ⟨rfl, rfl⟩ := hv
            have htv : t < vs.length := by rw [HLS.out.len, hSl]; exact htn
            have hut := hcell t (by omega)
            obtain ⟨u, hu⟩ : ∃ u, vs.getD t undef = u := ⟨_, rfl⟩
            have hvu : vs.set t u = vs := by rw [← hu]; simp [List.getD, List.getElem?_eq_getElem htv]
            rw [show vs[t]? = some u by rw [← hu]; simp [List.getD, List.getElem?_eq_getElem htv]] at hut
            have hin := HLS.out.inner t (by rw [hSl]; exact htn)
            rw [hu, sortTo_nth hFt] at hin
            have hlen : (nthL F t).length < 1000000 := by
              have h1 := nthL_le F t
              rw [← HFALL.out, fallL_len (dep_refl L) (dep_comm L), List.length_take] at h1
              rw [HFALL.out] at h1
              omega
            have hsort := sort_seg (nthL F t) u wr2 W2.heap.size 3 hlen hin
            have HSORT := hid hsort; have HIN := hid hin; have HU := hid hu; have HVU := hid hvu; have HOS := hid hos; have HSL := hid hSl; have HBG := hid hbg
            have hgl := lt_of_obj hgc
            have hti : (t : Int) < (n : Int) := by omega
            clear hsort hin hu hvu hos hSl hcell htv hlen hgc hFt hbg
            go_wp2_with (go_at_call 93; (with_reducible refine HSORT.out.mono ?_); rintro e w7 ⟨rfl, hs7, hgr7⟩; have HS7 := hid hs7; have HGR7 := hid hgr7; clear hs7 hgr7)
            have hk7 : Keeps (fun i o => u.ownBlock = some i ∧ ∃ cur, o = .cells cur 3 (0, 0)) wr2 w7 := (Keeps.refl _ wr2).grown HGR7.out (fun i o e ho => by obtain ⟨_, _, cur, hcur⟩ := HIN.out.own i e; rw [hcur] at ho; cases ho; exact ⟨e, _, rfl⟩)
            have hls := HLS.out.upd (i := t) (u' := u) (xs' := sortI (nthL F t)) (by rw [HSL.out]; exact htn) (by
              have h := HS7.out
              rw [show (nthL F t).length = (sortI (nthL F t)).length from (sortI_perm _).length_eq.symm] at h
              exact h) (hk7.mono (fun i o h => .inl (by rw [HU.out]; exact h))) (fun i e => .inl (by rw [HU.out]; exact e)) (by
              rw [HVU.out, HSL.out]
              exact HOS.out.keeps hk7 (fun i o e ⟨cur, hc⟩ h => by obtain ⟨_, cur2, h2⟩ := h; rw [h2] at hc; cases hc))
            rw [HVU.out] at hls
            have HLS2 := hid hls
            have HG7 := hid (show Grew W2 w7 from HGS.out.trans (hk7.below HGS.out.size (fun i o h => (HIN.out.own i h.1).1)))
            clear hk7 hls
            go_roundg (n - (t + 1))
            case measure => have := HGT.out; omega
            case rel => exact ⟨t + 1, by omega, by go_num, hid rfl, hid (by rw [sortTo_succ (by rw [HNL.out]; exact htn)]; exact HLS2.out), HG7⟩
          · obtain rfl : n = t := by omega
            have hlm := layers_fall (dep_refl L) (dep_comm L) HLW.out
            have hfin := HLS.out.ls
            rw [← HNL.out, sortTo_all, ← HFX.out, ← hlm.1, HFX.out, HNL.out] at hfin
            have HFIN := hid hfin
            clear hlm hfin
            go_wp2
            go_ret2
            refine ⟨.slice oa n oc, ?_, ?_, grew_trans HGW2.out HGS.out⟩
            · unfold layersA; rw [HR.out, if_pos rfl]; rfl
            · unfold layersA; rw [HR.out, if_pos rfl, HN.out, Int.toNat_natCast]; exact HFIN.out
  · have hbad := newLoom_bad _ L _ [x] W1 hn (HV.out.grew g01) (by rw [← hW1]; exact rows_one (Reads.grew hx.ints g0) 25) (by rw [hr]; exact hr0)
    rw [hr] at hbad
    have hne : (r != 0) = true := by simpa using hr0
    have HB := hid hbad; have HR0 := hid hr0
    rw [hm] at hW1 ⊢
    clear hr hx hm hbad hr0
    go_enter Try.func52, Try.ntmps52
    go_wp2_with (go_at_call 60; (with_reducible refine HB.out.mono ?_); rintro e w1 ⟨rfl, hg1⟩; have HG1 := hid (grew_trans HG01.out hg1); clear hg1)
    go_ret2
    exact ⟨_, by unfold layersA; rw [HR.out, if_neg HR0.out]; rfl, by unfold layersA; rw [HR.out, if_neg HR0.out]; exact ls_nil _, grew_alloc HG1.out _⟩

end Go.Proofs.Ytddnpooffcjhnaa
