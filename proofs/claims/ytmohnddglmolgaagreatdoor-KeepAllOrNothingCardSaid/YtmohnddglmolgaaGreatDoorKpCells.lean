/- Walks of the law's helpers: cells (21), behind (22), the reference's within (92), IsNumber (56); a slice of bytes. -/
import Derived.Test.YtmohnddglmolgaaGreatDoorKpAon
import Derived.Test.YtmohnddglmolgaaGreatDoorKpCopy
namespace Go.Proofs.YtmohnddglmolgaaGreatDoor
open Go Go.RowKit Go.Lin Go.Lin.Kp

/-- A slice of bytes. -/
def IsBytes (w : World) (v : Value) (p : List Int) : Prop :=
  ∃ a c, v = .slice a p.length c ∧ p.length ≤ 9223372036854775807 ∧ ∀ i, i < p.length → ∃ b off o, a = some ⟨b, off, none⟩ ∧ w.heap[b]? = some o ∧ w.cell? ⟨b, off + i, none⟩ = some (.int .u8 (nth p i)) ∧ 0 ≤ nth p i ∧ nth p i ≤ 255

theorem IsBytes.grew {w w' : World} {v : Value} {p : List Int} (h : IsBytes w v p) (hg : Grew w w') : IsBytes w' v p := by
  obtain ⟨a, c, e, hl, hc⟩ := h
  refine ⟨a, c, e, hl, fun i hi => ?_⟩
  obtain ⟨b, off, o, e1, e2, e3, e4⟩ := hc i hi
  exact ⟨b, off, o, e1, (hg.block b (lt_of_obj e2)).trans e2, (hg.cell (p := ⟨b, off + i, none⟩) (lt_of_obj e2)).trans e3, e4⟩

theorem src_ints {w : World} {v : Value} {xs : List Int} (h : IsInts Any w v xs) : Src Tryz.prog 1 39 v xs.length (xs.map (.int .i64)) w := by
  obtain ⟨a, cap, rfl, hm, hc⟩ := h
  rcases a with _ | ad
  · have h0 : xs.length = 0 := by
      rcases Nat.eq_zero_or_pos xs.length with h | h
      · exact h
      · obtain ⟨_, _, _, h2, _⟩ := hc 0 h; cases h2
    have : xs = [] := List.length_eq_zero_iff.1 h0
    subst this
    exact Src.ofNil _ Tryz.underlying39 cap
  · refine Src.ofSlice _ Tryz.underlying39 ad _ cap _ (by simp) ?_ ?_
    · intro j u hj
      have hjn : j < xs.length := by have := (List.getElem?_eq_some_iff.1 hj).1; simpa using this
      simp only [List.getElem?_map, List.getElem?_eq_getElem hjn, Option.map_some, Option.some.injEq] at hj
      obtain ⟨b, off, o, h2, h3, _, h5⟩ := hc j hjn
      cases h2
      rw [Addr.add_lit, h5, ← hj]
      simp only [nth_lt hjn]
    · intro u hu
      obtain ⟨i, _, rfl⟩ := List.mem_map.1 hu
      rfl

/-- The cells that bytes stand for. -/
def cellsOf (l : List Int) : List Int := l.map (· % 64)

theorem cellsOf_len (l : List Int) : (cellsOf l).length = l.length := List.length_map _
theorem cellsOf_early {l : List Int} (h : l.length ≤ 10) : areEarly (cellsOf l) = true := by
  unfold areEarly
  rw [cellsOf_len, Bool.and_eq_true, decide_eq_true_eq, List.all_eq_true]
  refine ⟨h, fun x hx => ?_⟩
  obtain ⟨y, _, rfl⟩ := List.mem_map.1 hx
  exact isCell_iff.2 ⟨Int.emod_nonneg _ (by decide), by have := Int.emod_lt_of_pos y (show (0 : Int) < 64 by decide); omega⟩

set_option maxHeartbeats 1000000 in
theorem cells21_any (v : Value) (l : List Int) (w : World) (hv : IsBytes w v l) (hl : l.length ≤ 1000000) :
    Calls Tryz.prog 21 #[v] w fun e w' => ∃ u, e = .returned u ∧ Seg w' w.heap.size 3 1 u l.length ((cellsOf l).map (.int .i64)) ∧ Grew w w' := by
  obtain ⟨a, cap, rfl, hm, hc⟩ := hv
  have HC := hid hc; clear hc
  obtain ⟨n, hnn⟩ : ∃ n, l.length = n := ⟨_, rfl⟩
  rw [hnn] at HC hm hl ⊢
  have HN := hid hnn
  clear hnn
  go_enter Tryz.func21, Tryz.ntmps21
  go_wp2
  go_loopg [3, 4] n (fun gk nv iv wr => ∃ (j : Nat), j ≤ n ∧ iv = .int .i64 (j : Int) ∧ Hid (gk = n - j) ∧ Hid (Grew w wr) ∧ Hid (Seg wr w.heap.size 3 1 nv j ((cellsOf (l.take j)).map (.int .i64))))
  case atStart => exact ⟨0, Nat.zero_le _, rfl, hid rfl, hid (grew_refl _), hid (Seg.nil _ _ _ _)⟩
  case round =>
    obtain ⟨j, hj, rfl, HGK, HG, HSG⟩ := hrel
    rename World => wr
    by_cases hlt : j < n
    · obtain ⟨b, off, o, rfl, hb, hcj, h0, h255⟩ := HC.out j hlt
      have hcj0 := (HG.out.cell (p := ⟨b, off + j, none⟩) (lt_of_obj hb)).trans hcj
      have hjl : j < l.length := by rw [HN.out]; exact hlt
      have htk : (cellsOf (l.take (j + 1))).map (Value.int .i64) = (cellsOf (l.take j)).map (.int .i64) ++ [.int .i64 (nth l j % 64)] := by
        rw [take_succ_nth hjl]; simp [cellsOf]
      obtain ⟨x, hx⟩ : ∃ x, nth l j = x := ⟨_, rfl⟩
      rw [hx] at hcj0 htk h0 h255
      have hmod : x.tmod 64 = x % 64 := Int.tmod_eq_emod_of_nonneg h0
      have HTK := hid htk
      obtain ⟨na, nc, rfl, hsh⟩ := HSG.out.shape
      clear htk hx hjl hb hcj hsh
      go_wp2_with (at_builtin; refine wpList_append_one rfl _ _ 39 rfl w.heap.size 3 Tryz.underlying39 Tryz.info3 rfl (by decide) (.slice na j nc) j _ rfl (HSG.out.alloc _) _ _ _ rfl (one_new _ _ _) rfl (by omega) ?_ ?_; (have := HG.out.size; (try simp only [World.size_alloc]); omega); intro v9 w9 hown9 hgrow9 hblk9; have hg9 : Grew w w9 := (HG.out.alloc HG.out.size _).grown hgrow9 (HG.out.alloc HG.out.size _).size (fun k e => (HSG.out.own k e).1); have HG9 := hid hg9; have HS9 := hid hown9; clear hown9 hgrow9 hblk9 hg9)
      go_roundg (n - (j + 1))
      case measure => have := HGK.out; omega
      case rel => exact ⟨j + 1, by omega, by go_num, hid rfl, HG9, hid (by rw [HTK.out]; exact HS9.out)⟩
    · obtain rfl : j = n := by omega
      have hS := HSG.out
      rw [List.take_of_length_le (by rw [HN.out]; exact Nat.le_refl _)] at hS
      have HS := hid hS
      clear hS
      go_wp2
      go_ret
      exact ⟨_, rfl, HS.out, HG.out⟩

theorem within92_any (a n b : Int) (w : World) : Calls Tryz.prog 92 #[.int .i64 a, .int .i64 n, .int .i64 b] w fun e w' => e = .returned (.bool (decide (a ≤ n) && decide (n ≤ b))) ∧ w = w' := by
  obtain ⟨x, hx⟩ : ∃ x, decide (a ≤ n) = x := ⟨_, rfl⟩
  rw [hx]
  cases x
  all_goals
    go_enter Tryz.func92, Tryz.ntmps92
    go_wp2
    go_ret
    exact ⟨by simp, rfl⟩

theorem isNumber56_any (n : Int) (w : World) : Calls Tryz.prog 56 #[.int .i64 n] w fun e w' => e = .returned (.bool (isNum n)) ∧ w = w' := by
  have HB := hid (within92_any 0 n 999)
  go_enter Tryz.func56, Tryz.ntmps56
  go_wp2_with (go_at_call 92; (with_reducible refine (HB.out _).mono ?_); rintro e w1 ⟨rfl, rfl⟩)
  go_ret
  exact ⟨rfl, rfl⟩

/-- What 'behind' returns. -/
def BehindLeft (w : World) (l : List Int) (k n : Int) (e : Ending) (w' : World) : Prop :=
  Grew w w' ∧ ∃ u L, e = .returned (.tuple #[u, .bool (mayD l k n)]) ∧ Seg w' w.heap.size 3 1 u L.length (L.map (.int .i64)) ∧ (mayD l k n = true → L = nextD l k n)

set_option maxHeartbeats 4000000 in
set_option maxRecDepth 20000 in
theorem behind22_any (v : Value) (l : List Int) (k n : Int) (w : World) (hv : IsInts Any w v l) (hl : l.length ≤ 1000) :
    Calls Tryz.prog 22 #[v, .agg #[.int .i64 k, .int .i64 n]] w (BehindLeft w l k n) := by
  obtain ⟨w1, hw1, g1, k0, k1, hz1⟩ := box2 w (.int .i64 k) (.int .i64 n) 49
  have HI := hid (fun W => isNumber56_any n W)
  have hsrc := src_ints (Reads.grew hv (grew_alloc g1 (.cells #[] 3)))
  obtain ⟨va, vc, rfl, hm, -⟩ := hv
  obtain ⟨i0, hi, hz0, hzz, hz2⟩ := info_parts Tryz.info3
  have hseg : Seg (w1.alloc (.cells #[] 3)) w1.heap.size 3 1 (.slice (some ⟨w1.heap.size, 0, none⟩) 0 0) 0 [] :=
    ⟨by simp, .inr ⟨w1.heap.size, 0, 0, #[], rfl, Nat.le_refl _, heap_alloc_new w1 _, Nat.le_refl _, by unfold maxLen; omega, by simp, by simp⟩⟩
  have HSRC := hid hsrc; have HSEG := hid hseg; have HG1 := hid g1
  clear hsrc hseg g1
  unfold BehindLeft
  obtain ⟨m, hmm⟩ : ∃ m, l.length = m := ⟨_, rfl⟩
  have HM := hid hmm
  rw [hmm] at hm hl HSRC ⊢
  clear hmm
  obtain ⟨q, hq⟩ : ∃ q, isNum n = q := ⟨_, rfl⟩
  rw [hq] at HI
  have HQ := hid hq
  clear hq
  have hw1s := HG1.out.size
  cases q with
  | false =>
    have hmay : mayD l k n = false := by unfold mayD; rw [HQ.out]; rfl
    rw [hmay]
    clear hmay
    go_enter Tryz.func22, Tryz.ntmps22
    go_wp2_with (first
      | (at_builtin; refine wpList_append_seg rfl _ _ 39 39 rfl w1.heap.size 3 i0 (.int .i64 0) 1 8 Tryz.underlying39 hi hz0 hzz hz2 rfl _ 0 [] rfl HSEG.out _ rfl m _ HSRC.out (by unfold maxLen; omega) (by omega) ?_ ?_; simp; intro v2 w2 hown2 hgrow2 hblk2; have hg2 : Grew w1 w2 := ((grew_refl w1).alloc (Nat.le_refl _) _).grown hgrow2 (by simp) (fun k e => by cases e; exact Nat.le_refl _); have HS2 := hid hown2; have HG2 := hid hg2; have e0 := (hg2.cell (p := ⟨w.heap.size, 0, none⟩) hz1).trans k0; have e1 := (hg2.cell (p := ⟨w.heap.size, 1, none⟩) hz1).trans k1; clear hown2 hgrow2 hblk2 hg2)
      | (go_at_call 56; (with_reducible refine (HI.out _).mono ?_); rintro e w3 ⟨rfl, rfl⟩))
    go_ret2
    refine ⟨grew_trans HG1.out HG2.out, _, l, rfl, ?_, fun h => by cases h⟩
    rw [HM.out]; simpa using HS2.out.mono hw1s
  | true =>
    by_cases hk : k = 0
    · subst hk
      have hmay : mayD l 0 n = decide (m < 20) := by unfold mayD; rw [HQ.out, HM.out]; simp
      have hmI : decide ((m : Int) < 20) = decide (m < 20) := by rw [decide_eq_decide]; omega
      rw [hmay]
      obtain ⟨d, hd⟩ : ∃ d, decide (m < 20) = d := ⟨_, rfl⟩
      rw [hd] at hmI ⊢
      clear hmay hd
      go_enter Tryz.func22, Tryz.ntmps22
      go_wp2_with (first
        | (at_builtin; refine wpList_append_seg rfl _ _ 39 39 rfl w1.heap.size 3 i0 (.int .i64 0) 1 8 Tryz.underlying39 hi hz0 hzz hz2 rfl _ 0 [] rfl HSEG.out _ rfl m _ HSRC.out (by unfold maxLen; omega) (by omega) ?_ ?_; simp; intro v2 w2 hown2 hgrow2 hblk2; have hg2 : Grew w1 w2 := ((grew_refl w1).alloc (Nat.le_refl _) _).grown hgrow2 (by simp) (fun k e => by cases e; exact Nat.le_refl _); rw [Nat.zero_add, List.nil_append] at hown2; obtain ⟨na, nc, rfl, hnl⟩ := hown2.shape; have HS2 := hid hown2; have HG2 := hid hg2; have e0 := (hg2.cell (p := ⟨w.heap.size, 0, none⟩) hz1).trans k0; have e1 := (hg2.cell (p := ⟨w.heap.size, 1, none⟩) hz1).trans k1; clear hown2 hgrow2 hblk2 hg2 hnl)
        | (go_at_call 56; (with_reducible refine (HI.out _).mono ?_); rintro e w3 ⟨rfl, rfl⟩)
        | (at_builtin; refine wpList_append_one rfl _ _ 39 rfl w1.heap.size 3 Tryz.underlying39 Tryz.info3 rfl (by decide) (.slice na m nc) m _ rfl (HS2.out.alloc _) _ _ _ rfl (one_new _ _ _) rfl (by omega) ?_ ?_; (have := HG2.out.size; (try simp only [World.size_alloc]); omega); intro v9 w9 hown9 hgrow9 hblk9; have hg9 : Grew w1 w9 := (HG2.out.alloc HG2.out.size _).grown hgrow9 (HG2.out.alloc HG2.out.size _).size (fun k e => (HS2.out.own k e).1); have HG9 := hid hg9; have HS9 := hid hown9; clear hown9 hgrow9 hblk9 hg9))
      go_ret2
      refine ⟨grew_trans HG1.out HG9.out, _, l ++ [n], rfl, ?_, fun _ => by unfold nextD; rw [if_pos rfl]⟩
      have h := HS9.out.mono hw1s
      rw [List.length_append, HM.out, List.map_append]
      simpa using h
    · have e0' : (k == 0) = false := by rw [beq_eq_false_iff_ne]; exact hk
      by_cases hr : 1 ≤ k ∧ k ≤ (m : Int)
      · have hmay : mayD l k n = true := by unfold mayD; rw [HQ.out, HM.out, if_neg hk]; simp [hr.1, hr.2]
        rw [hmay]
        have d1 : decide (k < 1) = false := by simp; omega
        have d2 : decide ((m : Int) < k) = false := by simp; omega
        obtain ⟨j, rfl⟩ : ∃ j : Nat, k = (j : Int) + 1 := ⟨(k - 1).toNat, by omega⟩
        have hjm : j < m := by omega
        have hnx : nextD l ((j : Int) + 1) n = l.set j n := by unfold nextD; rw [if_neg hk, show ((j : Int) + 1 - 1).toNat = j by omega]
        have HNX := hid hnx
        have hwr : IntKind.i64.wrap ((j : Int) + 1 - 1) = (j : Int) := by rw [show (j : Int) + 1 - 1 = j by omega]; exact IntWalk.i64_in _ (by omega)
        clear hmay hr hk hnx
        go_enter Tryz.func22, Tryz.ntmps22
        go_wp2_with (first
          | (at_builtin; refine wpList_append_seg rfl _ _ 39 39 rfl w1.heap.size 3 i0 (.int .i64 0) 1 8 Tryz.underlying39 hi hz0 hzz hz2 rfl _ 0 [] rfl HSEG.out _ rfl m _ HSRC.out (by unfold maxLen; omega) (by omega) ?_ ?_; simp; intro v2 w2 hown2 hgrow2 hblk2; have hg2 : Grew w1 w2 := ((grew_refl w1).alloc (Nat.le_refl _) _).grown hgrow2 (by simp) (fun k e => by cases e; exact Nat.le_refl _); rw [Nat.zero_add, List.nil_append] at hown2; obtain ⟨ng, no, nc, cur, rfl, hngb, hngo, hnlc, hncm, hnat⟩ := hown2.at (by omega); have HS2 := hid hown2; have HG2 := hid hg2; have e0 := (hg2.cell (p := ⟨w.heap.size, 0, none⟩) hz1).trans k0; have e1 := (hg2.cell (p := ⟨w.heap.size, 1, none⟩) hz1).trans k1; have nf := frozen_of_row w2 ng (no + j) _ _ hngo; have ncl := hnat j (by omega); rw [List.getElem?_map, List.getElem?_eq_getElem (by rw [HM.out]; exact hjm)] at ncl; simp only [Option.map_some] at ncl; have HNG := hid hngb; clear hown2 hgrow2 hblk2 hg2 hngo hnat hngb)
          | (go_at_call 56; (with_reducible refine (HI.out _).mono ?_); rintro e w3 ⟨rfl, rfl⟩))
        go_ret2
        refine ⟨?_, _, l.set j n, rfl, ?_, fun _ => HNX.out.symm⟩
        · exact grew_setB (grew_trans HG1.out HG2.out) (Nat.le_trans hw1s HNG.out) _ _
        · rw [List.length_set, HM.out, List.map_set]
          exact (Seg.set HS2.out rfl hjm _).mono hw1s
      · have hmay : mayD l k n = false := by
          unfold mayD; rw [HQ.out, HM.out, if_neg hk, Bool.true_and, Bool.and_eq_false_iff, decide_eq_false_iff_not, decide_eq_false_iff_not]; omega
        rw [hmay]
        clear hmay hk
        rcases (show k < 1 ∨ (¬ k < 1 ∧ (m : Int) < k) by omega) with h1 | ⟨h1, h2⟩
        · have d1 : decide (k < 1) = true := by simpa using h1
          clear hr
          go_enter Tryz.func22, Tryz.ntmps22
          go_wp2_with (first
            | (at_builtin; refine wpList_append_seg rfl _ _ 39 39 rfl w1.heap.size 3 i0 (.int .i64 0) 1 8 Tryz.underlying39 hi hz0 hzz hz2 rfl _ 0 [] rfl HSEG.out _ rfl m _ HSRC.out (by unfold maxLen; omega) (by omega) ?_ ?_; simp; intro v2 w2 hown2 hgrow2 hblk2; have hg2 : Grew w1 w2 := ((grew_refl w1).alloc (Nat.le_refl _) _).grown hgrow2 (by simp) (fun k e => by cases e; exact Nat.le_refl _); have HS2 := hid hown2; have HG2 := hid hg2; have e0 := (hg2.cell (p := ⟨w.heap.size, 0, none⟩) hz1).trans k0; have e1 := (hg2.cell (p := ⟨w.heap.size, 1, none⟩) hz1).trans k1; clear hown2 hgrow2 hblk2 hg2)
            | (go_at_call 56; (with_reducible refine (HI.out _).mono ?_); rintro e w3 ⟨rfl, rfl⟩))
          go_ret2
          refine ⟨grew_trans HG1.out HG2.out, _, l, rfl, ?_, fun h => by cases h⟩
          rw [HM.out]; simpa using HS2.out.mono hw1s
        · have d1 : decide (k < 1) = false := by simpa using h1
          have d2 : decide ((m : Int) < k) = true := by simpa using h2
          clear hr
          go_enter Tryz.func22, Tryz.ntmps22
          go_wp2_with (first
            | (at_builtin; refine wpList_append_seg rfl _ _ 39 39 rfl w1.heap.size 3 i0 (.int .i64 0) 1 8 Tryz.underlying39 hi hz0 hzz hz2 rfl _ 0 [] rfl HSEG.out _ rfl m _ HSRC.out (by unfold maxLen; omega) (by omega) ?_ ?_; simp; intro v2 w2 hown2 hgrow2 hblk2; have hg2 : Grew w1 w2 := ((grew_refl w1).alloc (Nat.le_refl _) _).grown hgrow2 (by simp) (fun k e => by cases e; exact Nat.le_refl _); have HS2 := hid hown2; have HG2 := hid hg2; have e0 := (hg2.cell (p := ⟨w.heap.size, 0, none⟩) hz1).trans k0; have e1 := (hg2.cell (p := ⟨w.heap.size, 1, none⟩) hz1).trans k1; clear hown2 hgrow2 hblk2 hg2)
            | (go_at_call 56; (with_reducible refine (HI.out _).mono ?_); rintro e w3 ⟨rfl, rfl⟩))
          go_ret2
          refine ⟨grew_trans HG1.out HG2.out, _, l, rfl, ?_, fun h => by cases h⟩
          rw [HM.out]; simpa using HS2.out.mono hw1s

end Go.Proofs.YtmohnddglmolgaaGreatDoor
