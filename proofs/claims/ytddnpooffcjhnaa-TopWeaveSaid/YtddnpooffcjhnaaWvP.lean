/- The program's loom in memory; walks: letter, start. Walks: slices.Clone. Walk: slices.Grow of a nil slice. Walk: slices.Concat. Walk: without, of the program. Walk: the closure of newLoom that asks whether a number is no letter. Walks: slices.IndexFunc and ContainsFunc at ints with a pure function. -/
import Derived.Test.YtddnpooffcjhnaaWvL
import Derived.Lib.AppendZerosOnto
namespace Go.Proofs.Ytddnpooffcjhnaa
open Go.RowKit Go.Lin Go.Lin.Wv

/-- A loom: how many letters there are, and which of them depend. -/
structure Loom (w : World) (B : Nat) (D : Int → Int → Bool) (N : Nat) : Prop where
  lt : B < w.heap.size
  c0 : w.cell? ⟨B, 0, none⟩ = some (.int .i64 (N : Int))
  cs : ∀ a b : Nat, a < N → b < N → w.cell? ⟨B, 1 + a * 6 + b, none⟩ = some (.bool (D a b))

theorem Loom.grew {w w' : World} {B : Nat} {D : Int → Int → Bool} {N : Nat} (h : Loom w B D N) (hg : Grew w w') : Loom w' B D N :=
  ⟨Nat.lt_of_lt_of_le h.lt hg.size, (hg.cell (p := ⟨B, 0, none⟩) h.lt).trans h.c0, fun a b ha hb => (hg.cell (p := ⟨B, 1 + a * 6 + b, none⟩) h.lt).trans (h.cs a b ha hb)⟩

set_option maxHeartbeats 1000000 in
theorem letter_any {D : Int → Int → Bool} (B N : Nat) (a : Int) (w : World) (hN : N ≤ 6) (hL : Loom w B D N) : Calls Try.prog 78 #[.pointer (some ⟨B, 0, none⟩), .int .i64 a] w fun e w' => e = .returned (.bool (decide (0 ≤ a) && decide (a ≤ (N : Int) - 1))) ∧ Grew w w' := by
  have k0 := hL.c0
  have hlt := hL.lt
  have HB := hid (between_any 0 a ((N : Int) - 1) w)
  obtain ⟨r, hr⟩ : ∃ r, (decide (0 ≤ a) && decide (a ≤ (N : Int) - 1)) = r := ⟨_, rfl⟩
  rw [hr] at HB ⊢
  have hwr : IntKind.i64.wrap ((N : Int) - 1) = (N : Int) - 1 := IntWalk.i64_in _ (by omega)
  go_enter Try.func78, Try.ntmps78
  go_wp2_with (go_at_call 61; (with_reducible refine HB.out.mono ?_); rintro e w1 ⟨rfl, hx⟩; have HX := hid hx; clear hx)
  go_ret
  exact ⟨rfl, HX.out⟩

set_option maxHeartbeats 4000000 in
set_option maxRecDepth 20000 in
theorem start_any {D : Int → Int → Bool} (B N a : Nat) (wv : Value) (x : List Int) (w : World) (hN : N ≤ 6) (ha : a < N) (hw : ∀ z ∈ x, 0 ≤ z ∧ z < (N : Int)) (hL : Loom w B D N) (hx : IsInts Any w wv x) :
    Calls Try.prog 99 #[.pointer (some ⟨B, 0, none⟩), wv, .int .i64 (a : Int)] w fun e w' => e = .returned (.int .i64 (ix (free D x a))) ∧ Grew w w' := by
  obtain ⟨va, vc, rfl, hm, hc⟩ := hx
  obtain ⟨m, hmm⟩ : ∃ m, x.length = m := ⟨_, rfl⟩
  obtain ⟨r, hr⟩ : ∃ r, free D x a = r := ⟨_, rfl⟩
  rw [hr]
  rw [hmm] at hm hc ⊢
  have HM := hid hmm
  have HC := hid hc
  have HW := hid hw
  have HR := hid (show free D (x.drop 0) a = r by simpa using hr)
  have hg := grew_refl w
  have HL := hid hL
  clear hmm hc hr hw hL
  go_enter Try.func99, Try.ntmps99
  go_wp2
  go_loopg [7, 8, 11] m (fun k _ _ i wr => ∃ (j : Nat) (q : Option Nat), j ≤ m ∧ i = .int .i64 j ∧ k = m - j ∧ Hid (free D (x.drop j) a = q) ∧ Hid (r = q.map (· + j)) ∧ Hid (Grew w wr))
  case atStart => exact ⟨0, r, by omega, rfl, rfl, HR, hid (by simp), hid (grew_refl _)⟩
  case round =>
    obtain ⟨j, q, hj, rfl, hk, HQ, HRQ, HG⟩ := hrel
    have HK := hid hk; clear hk hg
    rename World => wr
    by_cases hlt : j < m
    · obtain ⟨b, off, o, hva, hob, -, hcc⟩ := HC.out j hlt
      subst hva
      have hbl := lt_of_obj hob
      have hjx : j < x.length := by rw [HM.out]; exact hlt
      have hxj : x[j]? = some (nth x j) := by rw [nth_lt hjx]; exact List.getElem?_eq_getElem _
      have hz := HW.out (nth x j) (by rw [nth_lt hjx]; exact List.getElem_mem _)
      replace hcc : _ = some (Value.int .i64 (nth x j)) := hcc
      have hfd := free_drop (D := D) (a := (a : Int)) hxj
      obtain ⟨y, hy⟩ : ∃ y, nth x j = y := ⟨_, rfl⟩
      rw [hy] at hcc hfd hz
      obtain ⟨z, rfl⟩ : ∃ z : Nat, y = (z : Int) := ⟨y.toNat, by omega⟩
      have hzN : z < N := by omega
      have hdc := (HL.out.grew HG.out).cs a z ha hzN
      have hBl := (HL.out.grew HG.out).lt
      have hcw := (HG.out.cell (p := ⟨b, off + j, none⟩) hbl).trans hcc
      have hbw := Nat.lt_of_lt_of_le hbl HG.out.size
      have ha6 : a < 6 := by omega
      have hz6 : z < 6 := by omega
      clear hob hxj hcc hy hjx hz
      cases hya : ((z : Int) == (a : Int))
      · have hne : ¬ ((z : Int) = (a : Int)) := by simpa using hya
        rw [if_neg hne] at hfd
        obtain ⟨d, hd⟩ : ∃ d, D (a : Int) (z : Int) = d := ⟨_, rfl⟩
        rw [hd] at hdc hfd
        cases d
        · have HFD := hid hfd
          clear hfd hd hne
          go_wp2
          go_roundg (m - (j + 1))
          case measure => have := HK.out; omega
          case rel =>
            refine ⟨j + 1, free D (x.drop (j + 1)) a, by omega, by go_num, rfl, hid rfl, hid ?_, HG⟩
            rw [HRQ.out, ← HQ.out, HFD.out]
            simp [Function.comp_def, Nat.add_comm, Nat.add_left_comm]
        · have hq : q = none := by rw [← HQ.out, hfd]; rfl
          have hrn : r = none := by rw [HRQ.out, hq]; rfl
          have HRN := hid hrn
          clear hfd hd hne hq hrn
          go_wp2
          go_ret
          exact ⟨by rw [HRN.out]; rfl, HG.out⟩
      · have he : (z : Int) = (a : Int) := by simpa using hya
        have hq : q = some 0 := by rw [← HQ.out, hfd, if_pos he]
        have hrn : r = some j := by rw [HRQ.out, hq]; simp
        have HRN := hid hrn
        clear hfd he hq hrn
        go_wp2
        go_ret
        exact ⟨by rw [HRN.out]; rfl, HG.out⟩
    · obtain rfl : m = j := by omega
      have hq : q = none := by rw [← HQ.out, List.drop_of_length_le (by rw [HM.out]; exact Nat.le_refl _)]; rfl
      have hrn : r = none := by rw [HRQ.out, hq]; rfl
      have HRN := hid hrn
      clear hq hrn
      go_wp2
      go_ret
      exact ⟨by rw [HRN.out]; rfl, HG.out⟩

end Go.Proofs.Ytddnpooffcjhnaa
namespace Go.Proofs.Ytddnpooffcjhnaa
open Go.RowKit Go.Lin Go.Lin.Wv

set_option maxHeartbeats 1000000 in
theorem clone_any (v : Value) (n : Nat) (f : Nat → Value) (w : World) (hn : n ≤ 1000000) (hv : Reads Any w v n f) (h1 : ∀ i, (f i).oneCell' = true) :
    Calls Try.prog 80 #[v] w fun e w' => ∃ u, e = .returned u ∧ Seg w' w.heap.size 3 1 u n ((List.range n).map f) ∧ Grew w w' := by
  obtain ⟨a, cap, rfl, hm, hc⟩ := hv
  have HC := hid hc; clear hc
  rcases a with _ | ad
  · have h0 : n = 0 := by
      rcases Nat.eq_zero_or_pos n with h | h
      · exact h
      · obtain ⟨_, _, _, h2, _⟩ := HC.out 0 h; cases h2
    subst h0
    have hnil := fun w => Lib.run_eql_slice_nil (P := Try.prog) w 25 3 none 0 cap 0 0 Try.underlying25
    go_enter Try.func80, Try.ntmps80
    go_wp2
    go_ret
    exact ⟨.slice none 0 0, rfl, Seg.nil _ _ _ _, grew_refl _⟩
  · have hnil := fun w => Lib.run_eql_slice_nil (P := Try.prog) w 25 3 (some ad) n cap 0 0 Try.underlying25
    obtain ⟨i0, hi, hz0, hz1, hz2⟩ := info_parts Try.info3
    have hsrc : Src Try.prog 1 25 (.slice (some ad) n cap) n ((List.range n).map f) (w.alloc (.cells #[] 3)) := by
      refine Src.ofSlice _ Try.underlying25 ad n cap _ (by simp) ?_ ?_
      · intro j u hj
        have hjn : j < n := by have := (List.getElem?_eq_some_iff.1 hj).1; simpa using this
        simp only [List.getElem?_map, List.getElem?_range hjn, Option.map_some, Option.some.injEq] at hj
        obtain ⟨b, off, o, h2, h3, _, h5⟩ := HC.out j hjn
        cases h2
        rw [Addr.add_lit, World.cell?_alloc_lt (a := ⟨b, off + j, none⟩) _ _ (lt_of_obj h3), h5, hj]
      · intro u hu
        obtain ⟨i, _, rfl⟩ := List.mem_map.1 hu
        exact h1 i
    have hseg : Seg (w.alloc (.cells #[] 3)) w.heap.size 3 1 (.slice (some ⟨w.heap.size, 0, none⟩) 0 0) 0 [] :=
      ⟨by simp, .inr ⟨w.heap.size, 0, 0, #[], rfl, Nat.le_refl _, heap_alloc_new w _, Nat.le_refl _, by unfold maxLen; omega, by simp, by simp⟩⟩
    have HSRC := hid hsrc; clear hsrc
    have HSEG := hid hseg; clear hseg
    clear HC
    go_enter Try.func80, Try.ntmps80
    go_wp2_with (at_builtin; refine wpList_append_seg rfl _ _ 25 25 rfl w.heap.size 3 i0 (.int .i64 0) 1 8 Try.underlying25 hi hz0 hz1 hz2 rfl _ 0 [] rfl HSEG.out _ rfl n _ HSRC.out (by unfold maxLen; omega) (by omega) ?_ ?_; simp; intro v1 w1 hown1 hgrow1 hblk1)
    go_ret
    have hg : Grew w w1 := ((grew_refl w).alloc (Nat.le_refl _) _).grown hgrow1 (by simp) (fun k e => by cases e; exact Nat.le_refl _)
    exact ⟨v1, rfl, by simpa using hown1, hg⟩
end Go.Proofs.Ytddnpooffcjhnaa
namespace Go.Proofs.Ytddnpooffcjhnaa
open Go.RowKit Go.Lin Go.Lin.Wv

set_option maxHeartbeats 1000000 in
set_option maxRecDepth 100000 in
theorem grow_nil (n : Nat) (w : World) (hn : n ≤ 1000) :
    Calls Try.prog 102 #[.slice none 0 0, .int .i64 (n : Int)] w fun e w' => ∃ u, e = .returned u ∧ Seg w' w.heap.size 3 1 u 0 [] ∧ Grew w w' := by
  rcases Nat.eq_zero_or_pos n with h0 | h0
  · subst h0
    go_enter Try.func102, Try.ntmps102
    go_wp2
    go_ret
    exact ⟨_, rfl, Seg.nil _ _ _ _, grew_refl _⟩
  · obtain ⟨i0, hi, hz0, hz1, hz2⟩ := info_parts Try.info3
    have hrz : ∀ ty, (Builtin.append_ #[25, 3] ty #[.slice none 0 0, .int .i64 (n : Int)]).run Try.prog w =
        .ok (.slice (some ⟨w.heap.size, 0, none⟩) n (grownCap w n 0 3)) (w.drew.alloc (.cells (#[] ++ Builtin.zeroCells (Value.int .i64 0).cells n ++ Builtin.zeroCells (Value.int .i64 0).cells (grownCap w n 0 3 - n)) 3)) := fun ty => by
      have h := Lib.run_append_grow_zeros w 25 3 ty 3 i0 (.int .i64 0) .i64 .i64 Try.underlying25 Try.underlying3 hi hz0 none 0 0 [] (run_firstCells_none w.drew i0.size 0 0 0) n h0 (by omega) (by omega) (by omega) (by rw [hz2]; omega)
        (by rw [hz2]; exact growslice_fits (by omega) (by omega))
      simpa using h
    have hG1 : n ≤ grownCap w n 0 3 := grownCap_ge w _ _ _
    have hG2 : grownCap w n 0 3 ≤ maxLen := grownCap_le_maxLen w n 0 3 (by unfold maxLen; omega)
    obtain ⟨G, hG⟩ : ∃ G, grownCap w n 0 3 = G := ⟨_, rfl⟩
    rw [hG] at hrz hG1 hG2
    have hG3 : G ≤ 9223372036854775807 := by unfold maxLen at hG2; omega
    have HG2 := hid hG2
    obtain ⟨C, hC⟩ : ∃ C, (#[] ++ Builtin.zeroCells (Value.int .i64 0).cells n ++ Builtin.zeroCells (Value.int .i64 0).cells (G - n)) = C := ⟨_, rfl⟩
    have hCs : C.size = G := by rw [← hC]; simp [Builtin.zeroCells, Value.cells]; omega
    rw [hC] at hrz
    have HCS := hid hCs
    clear hG hC hCs hG2 hz1 hz2
    go_enter Try.func102, Try.ntmps102
    go_wp2_with (at_builtin; refine Lib.wpList_append_run _ rfl _ _ _ _ rfl _ _ rfl rfl _ _ (hrz _) ?_)
    go_ret
    refine ⟨_, rfl, ⟨by simp, .inr ⟨w.heap.size, 0, G, C, rfl, Nat.le_refl _, ?_, Nat.zero_le _, HG2.out, by rw [HCS.out]; omega, by simp⟩⟩, ?_⟩
    · exact heap_alloc_new w.drew _
    · exact grew_alloc (grew_drew (grew_refl w)) _

end Go.Proofs.Ytddnpooffcjhnaa
namespace Go.Lin

def nthL (xss : List (List Int)) (i : Nat) : List Int := xss.getD i []

theorem nthL_lt {xss : List (List Int)} {i : Nat} (h : i < xss.length) : nthL xss i = xss[i] := by simp [nthL, h]

/-- Rows of ints. -/
def IsRows (S : Nat → Obj → Prop) (w : World) (v : Value) (rows : List (List Int)) : Prop :=
  ∃ V : Nat → Value, Reads S w v rows.length V ∧ ∀ i, i < rows.length → IsInts S w (V i) (nthL rows i)

theorem take_succ_nthL {rows : List (List Int)} {k : Nat} (h : k < rows.length) : rows.take (k + 1) = rows.take k ++ [nthL rows k] := by
  rw [List.take_succ_eq_append_getElem h, nthL_lt h]

theorem flat_succ {rows : List (List Int)} {k : Nat} (h : k < rows.length) : (rows.take (k + 1)).flatten = (rows.take k).flatten ++ nthL rows k := by
  rw [take_succ_nthL h, List.flatten_append]; simp

theorem flat_le {rows : List (List Int)} (h : ∀ i, i < rows.length → (nthL rows i).length ≤ 100) : ∀ k, k ≤ rows.length → (rows.take k).flatten.length ≤ 100 * k := by
  intro k
  induction k with
  | zero => intro _; simp
  | succ k ih =>
    intro hk
    rw [flat_succ (by omega), List.length_append]
    have := ih (by omega)
    have := h k (by omega)
    omega
end Go.Lin
namespace Go.Proofs.Ytddnpooffcjhnaa
open Go.RowKit Go.Lin Go.Lin.Wv

set_option maxHeartbeats 2000000 in
theorem concat_any (v : Value) (rows : List (List Int)) (w : World) (hv : IsRows Any w v rows) (h4 : rows.length ≤ 4) (hl : ∀ i, i < rows.length → (nthL rows i).length ≤ 100) :
    Calls Try.prog 73 #[v] w fun e w' => ∃ u, e = .returned u ∧ Seg w' w.heap.size 3 1 u rows.flatten.length (rows.flatten.map (.int .i64)) ∧ Grew w w' := by
  obtain ⟨V, ⟨a, cap, rfl, hm, hc⟩, hr⟩ := hv
  have HC := hid hc; have HR := hid hr; clear hc hr
  have hle := flat_le hl
  have HLE := hid hle; have HLEN := hid hl; clear hle hl
  go_enter Try.func73, Try.ntmps73
  go_wp2
  go_loopg [3, 11] rows.length (fun g s i wr => ∃ k t : Nat, k ≤ rows.length ∧ i = .int .i64 (k : Int) ∧ s = .int .i64 (t : Int) ∧ t ≤ 400 ∧ Hid ((rows.take k).flatten.length = t) ∧ Hid (g = rows.length - k) ∧ wr = w)
  case atStart => exact ⟨0, 0, Nat.zero_le _, rfl, rfl, by omega, hid rfl, hid rfl, rfl⟩
  case round =>
    obtain ⟨k, t, hk, rfl, rfl, ht, HT, HG, rfl⟩ := hrel
    by_cases hlt : k < rows.length
    · obtain ⟨b, off, o, rfl, ho, _, hck⟩ := HC.out k hlt
      obtain ⟨ra, rc, hrv⟩ := (show ∃ ra rc, V k = .slice ra (nthL rows k).length rc from by obtain ⟨ra, rc, h, _⟩ := HR.out k hlt; exact ⟨ra, rc, h⟩)
      rw [hrv] at hck
      have hrl := HLEN.out k hlt
      have hbl := lt_of_obj ho
      have hfs := flat_succ hlt
      have hfl := HLE.out (k + 1) (by omega)
      rw [hfs, List.length_append, HT.out] at hfl
      have hneg : decide ((t : Int) + ((nthL rows k).length : Int) < 0) = false := decide_eq_false (by omega)
      have HFS := hid hfs; clear hfs hrv ho
      go_wp2
      go_roundg (rows.length - (k + 1))
      case measure => have := HG.out; omega
      case rel => exact ⟨k + 1, t + (nthL rows k).length, by omega, by go_num, by go_num, by omega, hid (by rw [HFS.out, List.length_append, HT.out]), hid rfl, rfl⟩
    · obtain rfl : k = rows.length := by omega
      have hgn := grow_nil t wr (by omega)
      have HGN := hid hgn; clear hgn
      go_wp2_with (go_at_call 102; with_reducible refine HGN.out.mono ?_; rintro e w1 ⟨u, rfl, hseg, hg1⟩)
      have HS0 := hid hseg
      clear hseg
      obtain ⟨W, rfl⟩ : ∃ W : World, W = wr := ⟨_, rfl⟩
      go_loopg [6, 27] rows.length (fun g u i wr => ∃ k : Nat, k ≤ rows.length ∧ i = .int .i64 (k : Int) ∧ Hid (g = rows.length - k) ∧ Grew W wr ∧ Seg wr W.heap.size 3 1 u (rows.take k).flatten.length ((rows.take k).flatten.map (.int .i64)))
      case atStart => exact ⟨0, Nat.zero_le _, rfl, hid rfl, hg1, HS0.out⟩
      case round =>
        clear HS0
        obtain ⟨k, hk2, rfl, HG2, hgr, hseg⟩ := hrel
        obtain ⟨sa, sc, rfl, _⟩ := hseg.shape
        have hsz := hgr.size
        by_cases hlt2 : k < rows.length
        · obtain ⟨b, off, o, rfl, ho, _, hck⟩ := HC.out k hlt2
          have hi2 := HR.out k hlt2
          obtain ⟨ra, rc, hrv⟩ := (show ∃ ra rc, V k = .slice ra (nthL rows k).length rc from by obtain ⟨ra, rc, h, _⟩ := HR.out k hlt2; exact ⟨ra, rc, h⟩)
          rw [hrv] at hck hi2
          have l2 := HLEN.out k hlt2
          have hbl : b < wr.heap.size := Nat.lt_of_lt_of_le (lt_of_obj ho) hsz
          have hck2 := (hgr.cell (p := ⟨b, off + k, none⟩) (lt_of_obj ho)).trans hck
          have hsrc := src_ints (Reads.grew hi2 hgr)
          have hfs := flat_succ hlt2
          have hfl := HLE.out k (by omega)
          obtain ⟨i0, hi, hz0, hz1, hz2⟩ := info_parts Try.info3
          have HSRC := hid hsrc; have HSEG := hid hseg; have HFS := hid hfs
          have hfl2 : (rows.take k).flatten.length + (nthL rows k).length ≤ 1000 := by omega
          clear hsrc hseg hfs hrv hck ho hfl hi2
          obtain ⟨N, hN⟩ : ∃ N, (rows.take k).flatten.length = N := ⟨_, rfl⟩
          go_wp2_with (at_builtin; refine wpList_append_seg rfl _ _ 25 25 rfl W.heap.size 3 i0 (.int .i64 0) 1 8 Try.underlying25 hi hz0 hz1 hz2 rfl _ _ _ rfl HSEG.out _ rfl _ _ HSRC.out (by unfold maxLen; omega) (by omega) ?_ ?_; (omega); intro v1 w3 hown1 hgrow1 hblk1; have hg3 := hgr.grown hgrow1 hsz (fun k e => (HSEG.out.own k e).1))
          go_roundg (rows.length - (k + 1))
          case measure => have := HG2.out; omega
          case rel =>
            refine ⟨k + 1, by omega, by go_num, hid rfl, hg3, ?_⟩
            rw [HFS.out, List.map_append, List.length_append]
            exact hown1
        · obtain rfl : k = rows.length := by omega
          go_wp2
          go_ret
          have h : Seg wr W.heap.size 3 1 (.slice sa (List.take rows.length rows).flatten.length sc) rows.flatten.length (rows.flatten.map (.int .i64)) := by
            have h := hseg
            rw [List.take_length] at h ⊢
            exact h
          exact ⟨_, rfl, h, hgr⟩

end Go.Proofs.Ytddnpooffcjhnaa
namespace Go.Proofs.Ytddnpooffcjhnaa
open Go.RowKit Go.Lin Go.Lin.Wv

theorem two_rows {w : World} {g : Nat} {u v : Value} {xs ys : List Int} (h0 : w.cell? ⟨g, 0, none⟩ = some u) (h1 : w.cell? ⟨g, 1, none⟩ = some v) (hu : IsInts Any w u xs) (hv : IsInts Any w v ys) :
    IsRows Any w (.slice (some ⟨g, 0, none⟩) 2 2) [xs, ys] :=
  ⟨fun i => if i = 0 then u else v, ⟨_, _, rfl, by simp, fun i hi => by
    have hi' : i = 0 ∨ i = 1 := by simp at hi; omega
    have hz := World.block_lt_of_cell? w _ h0
    rcases hi' with rfl | rfl
    · exact ⟨_, _, _, rfl, Array.getElem?_eq_getElem hz, trivial, by simpa using h0⟩
    · exact ⟨_, _, _, rfl, Array.getElem?_eq_getElem hz, trivial, by simpa using h1⟩⟩, fun i hi => by
    have hi' : i = 0 ∨ i = 1 := by simp at hi; omega
    rcases hi' with rfl | rfl
    · simpa [nthL] using hu
    · simpa [nthL] using hv⟩


set_option maxHeartbeats 4000000 in
set_option maxRecDepth 20000 in
theorem without_any (wv : Value) (x : List Int) (i : Nat) (w : World) (hi : i < x.length) (hs : x.length ≤ 100) (hx : IsWd w wv x) : Calls Try.prog 100 #[wv, .int .i64 (i : Int)] w fun e w' => ∃ u, e = .returned u ∧ Seg w' w.heap.size 3 1 u (x.eraseIdx i).length ((x.eraseIdx i).map (.int .i64)) ∧ Grew w w' := by
  obtain ⟨va, vc, rfl, hcap, va0, vc0, hveq, hm, hc⟩ := hx
  obtain ⟨rfl, rfl⟩ : va = va0 ∧ vc = vc0 := by simp at hveq; exact ⟨hveq.1, hveq.2⟩
  clear hveq
  obtain ⟨m, hmm⟩ : ∃ m, x.length = m := ⟨_, rfl⟩
  rw [hmm] at hm hc hi hs hcap ⊢
  obtain ⟨b, off, o, hva, hob, -, -⟩ := hc 0 (by omega)
  subst hva
  have hiv : i ≤ vc := by omega
  have hiv2 : i + 1 ≤ vc := by omega
  have him : i + 1 ≤ m := by omega
  have hwr : IntKind.i64.wrap ((i : Int) + 1) = (i : Int) + 1 := IntWalk.i64_in _ (by omega)
  have htn : ((i : Int) + 1).toNat = i + 1 := by omega
  have hp0 : (0 : Int) ≤ (i : Int) + 1 := by omega
  have hR : Reads Any w (.slice (some ⟨b, off, none⟩) m vc) m (fun i => .int .i64 (nth x i)) := ⟨_, _, rfl, hm, hc⟩
  have hl1 : ((x.drop 0).take i).length = i := by simp; omega
  have hl2 : ((x.drop (i + 1)).take (m - (i + 1))).length = m - (i + 1) := by simp; omega
  have hgd : Grew w w.drew := grew_drew (grew_refl w)
  have he : (x.drop 0).take i ++ (x.drop (i + 1)).take (m - (i + 1)) = x.eraseIdx i := by
    rw [List.eraseIdx_eq_take_drop_succ, List.take_of_length_le (l := x.drop (i + 1)) (by rw [List.length_drop, hmm]; exact Nat.le_refl _)]; rfl
  obtain ⟨r, hr⟩ : ∃ r, m - (i + 1) = r := ⟨_, rfl⟩
  have hmr : m = i + 1 + r := by omega
  have hle : (i : Int) + 1 ≤ (i : Int) + 1 + (r : Int) := by omega
  have hlast : ∃ p2 : Addr, (if vc = i + 1 then (⟨b, off, none⟩ : Addr) else ⟨b, off + (i + 1), none⟩) = p2 := ⟨_, rfl⟩
  obtain ⟨p2, hp2⟩ := hlast
  obtain ⟨W8, hW8, g8, x0, x1, x2⟩ := box2 w.drew (.slice (some ⟨b, off, none⟩) i vc) (.slice (some p2) r (vc - (i + 1))) 25
  have r1 := part_ints hR hmm 0 i vc (by omega)
  have r2 : IsInts Any w (.slice (some p2) ((x.drop (i + 1)).take (m - (i + 1))).length (vc - (i + 1))) ((x.drop (i + 1)).take (m - (i + 1))) := by
    by_cases hv : vc = i + 1
    · have h0 : (x.drop (i + 1)).take (m - (i + 1)) = [] := List.length_eq_zero_iff.1 (by rw [hl2]; omega)
      rw [h0]; exact Reads.nil _ _ _ _ _
    · rw [if_neg hv] at hp2; subst hp2
      exact part_ints hR hmm (i + 1) (m - (i + 1)) _ (by omega)
  rw [Nat.add_zero] at r1
  rw [hr] at r2 hl2 he
  obtain ⟨X1, hX1⟩ : ∃ X1, (x.drop 0).take i = X1 := ⟨_, rfl⟩
  obtain ⟨X2, hX2⟩ : ∃ X2, (x.drop (i + 1)).take r = X2 := ⟨_, rfl⟩
  rw [hX1] at r1 hl1 he
  rw [hX2] at r2 hl2 he
  have y0 : W8.cell? ⟨w.drew.heap.size, 0, none⟩ = some (.slice (some ⟨b, off, none⟩) X1.length vc) := by rw [hl1]; exact x0
  have y1 : W8.cell? ⟨w.drew.heap.size, 1, none⟩ = some (.slice (some p2) X2.length (vc - (i + 1))) := by rw [hl2]; exact x1
  have hcc := concat_any _ _ W8 (two_rows y0 y1 (Reads.grew r1 (grew_trans hgd g8)) (Reads.grew r2 (grew_trans hgd g8))) (by simp) (fun j hj => by
    have hj' : j = 0 ∨ j = 1 := by simp at hj; omega
    rcases hj' with rfl | rfl
    · show X1.length ≤ 100; omega
    · show X2.length ≤ 100; omega)
  rw [show [X1, X2].flatten = x.eraseIdx i by simpa using he] at hcc
  obtain ⟨E, hE⟩ : ∃ E, x.eraseIdx i = E := ⟨_, rfl⟩
  rw [hE] at hcc ⊢
  have HCC := hid hcc
  have hgs : Grew w W8 := grew_trans hgd g8
  have HGS := hid hgs
  subst hmr
  clear hcc r1 r2 hl1 hl2 he hX1 hX2 y0 y1 hE hR hc hob hmm hr hgs hgd
  by_cases hvc : vc = i + 1
  all_goals (
    first
    | (rw [if_pos hvc] at hp2; subst hp2; obtain rfl : r = 0 := (by omega); subst hvc; rw [show i + 1 - (i + 1) = 0 by omega] at hW8; have hia : (i : Int) ≤ (i : Int) + 1 := (by omega))
    | (rw [if_neg hvc] at hp2; subst hp2; have hvc2 : ¬ vc ≤ i + 1 := (by omega))
    go_enter Try.func100, Try.ntmps100
    go_wp2
    go_region_law (go_simp; go_at_call 73; refine (show Calls _ _ _ _ _ from HCC.out).mono ?_; rintro e w7 ⟨cv, rfl, hseg7, hg7⟩)
    all_goals (
      go_wp2
      go_ret
      exact ⟨_, rfl, hseg7.mono HGS.out.size, grew_trans HGS.out hg7⟩))

end Go.Proofs.Ytddnpooffcjhnaa
namespace Go.Proofs.Ytddnpooffcjhnaa
open Go.RowKit Go.Lin Go.Lin.Wv

set_option maxHeartbeats 1000000 in
theorem bad_any {D : Int → Int → Bool} (B N c : Nat) (a : Int) (w : World) (hN : N ≤ 6) (hL : Loom w B D N) (hc : w.cell? ⟨c, 0, none⟩ = some (.pointer (some ⟨B, 0, none⟩))) :
    Calls Try.prog 96 #[.int .i64 a, .pointer (some ⟨c, 0, none⟩)] w fun e w' => e = .returned (.bool (!(decide (0 ≤ a) && decide (a ≤ (N : Int) - 1)))) ∧ Grew w w' := by
  have HB := hid (letter_any B N a w hN hL)
  obtain ⟨r, hr⟩ : ∃ r, (decide (0 ≤ a) && decide (a ≤ (N : Int) - 1)) = r := ⟨_, rfl⟩
  rw [hr] at HB ⊢
  cases r
  all_goals (
    go_enter Try.func96, Try.ntmps96
    go_wp2_with (go_at_call 78; (with_reducible refine HB.out.mono ?_); rintro e w1 ⟨rfl, hx⟩; have HX := hid hx; clear hx)
    go_ret
    exact ⟨rfl, HX.out⟩)

end Go.Proofs.Ytddnpooffcjhnaa
namespace Go.Proofs.Ytddnpooffcjhnaa
open Go.RowKit Go.Lin Go.Lin.Wv




/-- The function g, with what it has captured, says p of x, in whatever later world. -/
def Says (g : Nat) (caps : Array Value) (x : Value) (p : Bool) (w : World) : Prop :=
  ∀ w', Grew w w' → Calls Try.prog g (#[x] ++ caps) w' fun e w'' => e = .returned (.bool p) ∧ Grew w' w''

def Entered (g : Nat) : Prop := ∀ args w, (callFunc g args).run Try.prog w = .ok (.enter g args) w

theorem Says.grew {g : Nat} {caps : Array Value} {x : Value} {p : Bool} {w w' : World} (h : Says g caps x p w) (hg : Grew w w') : Says g caps x p w' := fun w2 h2 => h w2 (grew_trans hg h2)

set_option maxHeartbeats 1000000 in
theorem indexFunc_any (g : Nat) (caps : Array Value) (p : Int → Bool) (v : Value) (xs : List Int) (w : World) (hcf : Entered g) (hx : IsInts Any w v xs) (hp : ∀ i, i < xs.length → Says g caps (.int .i64 (nth xs i)) (p (nth xs i)) w) :
    Calls Try.prog 101 #[v, .func (.func g) #[] caps] w fun e w' => ∃ r : Int, e = .returned (.int .i64 r) ∧ Hid (decide (0 ≤ r) = xs.any p) ∧ Grew w w' := by
  obtain ⟨a, cap, rfl, hm, hc⟩ := hx
  have HC := hid hc; clear hc
  have HP := hid hp; clear hp
  have hcf' : ∀ args w, (callFunc g args).run Try.prog w = .ok (.enter g args) w := hcf
  clear hcf
  go_enter Try.func101, Try.ntmps101
  go_wp2
  go_loopg [5, 8] (xs.length) (fun k _ i wr => ∃ j : Nat, j ≤ xs.length ∧ i = .int .i64 j ∧ k = xs.length - j ∧ Hid (∀ t, t < j → p (nth xs t) = false) ∧ Grew w wr)
  case atStart => exact ⟨0, Nat.zero_le _, rfl, rfl, hid (fun t ht => by omega), grew_refl _⟩
  case round =>
    obtain ⟨j, hj, rfl, hk, HT, hg⟩ := hrel
    have HK := hid hk; clear hk
    by_cases hlt : j < xs.length
    · obtain ⟨b, off, o, rfl, hb, _, hcj⟩ := HC.out j hlt
      have hbl := lt_of_obj hb
      have hcj0 := (hg.cell (p := ⟨b, off + j, none⟩) hbl).trans hcj
      clear hb hcj
      have HS := hid (HP.out j hlt)
      by_cases hop : p (nth xs j) = true
      · have HOP := hid hop
        go_wp2_with (refine (show Calls _ _ _ _ _ from HS.out _ hg).mono ?_; rintro e w1 ⟨rfl, hx⟩; replace hg := grew_trans hg hx; have hc := (bcell hg).1)
        go_ret
        refine ⟨(j : Int), rfl, hid ?_, hg⟩
        rw [show decide ((0 : Int) ≤ (j : Int)) = true by simp]
        refine (List.any_eq_true.2 ⟨nth xs j, ?_, HOP.out⟩).symm
        rw [nth_lt hlt]; exact List.getElem_mem hlt
      · have hop' : p (nth xs j) = false := by simpa using hop
        go_wp2_with (refine (show Calls _ _ _ _ _ from HS.out _ hg).mono ?_; rintro e w1 ⟨rfl, hx⟩; replace hg := grew_trans hg hx; have hc := (bcell hg).1)
        go_roundg (xs.length - (j + 1))
        case measure => have := HK.out; omega
        case rel => exact ⟨j + 1, by omega, by go_num, rfl, hid (lt_succ_all HT.out hop'), hg⟩
    · obtain rfl : j = xs.length := by omega
      go_wp2
      go_ret
      refine ⟨-1, rfl, hid ?_, hg⟩
      rw [show decide ((0 : Int) ≤ -1) = false by decide]
      refine (List.any_eq_false.2 ?_).symm
      intro x hx
      obtain ⟨i, hi, rfl⟩ := List.getElem_of_mem hx
      have := HT.out i hi
      rw [nth_lt hi] at this
      simp [this]

set_option maxHeartbeats 1000000 in
theorem containsFunc_any (g : Nat) (caps : Array Value) (p : Int → Bool) (v : Value) (xs : List Int) (w : World) (hcf : Entered g) (hx : IsInts Any w v xs) (hp : ∀ i, i < xs.length → Says g caps (.int .i64 (nth xs i)) (p (nth xs i)) w) :
    Calls Try.prog 70 #[v, .func (.func g) #[] caps] w fun e w' => e = .returned (.bool (xs.any p)) ∧ Grew w w' := by
  have h := indexFunc_any g caps p v xs w hcf hx hp
  have H := hid h; clear h hcf hx hp
  go_enter Try.func70, Try.ntmps70
  go_wp2_with (go_at_call 101; with_reducible refine H.out.mono ?_; rintro e w1 ⟨r, rfl, hr, hg⟩)
  go_ret
  exact ⟨ret_bool hr.out, hg⟩

theorem entered55 : Entered 55 := fun _ _ => by kernel_rfl

end Go.Proofs.Ytddnpooffcjhnaa
