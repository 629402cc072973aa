/- The law WeaveLeads: a path leads there, paths between two words differ in their lengths by even numbers, an exchange stays in the class. -/
import Derived.Test.YtddnpooffcjhnaaWvLeadsP
import Derived.Test.YtddnpooffcjhnaaWvExchB
import Derived.Test.YtddnpooffcjhnaaWvYes
import Derived.Test.YtddnpooffcjhnaaWvLayP
import Derived.Deep.RegionHeld3
namespace Go.Proofs.Ytddnpooffcjhnaa
open Go.RowKit Go.Lin Go.Lin.Wv

theorem later_bothL {W w' : World} (h : Grew W w') : Grew W w' ∧ ∀ b o, b < W.heap.size → w'.cell? ⟨b, o, none⟩ = W.cell? ⟨b, o, none⟩ := ⟨h, (bcell h).1⟩

theorem swap_good {N : Nat} {y : List Int} {k : Nat} (hk : k + 1 < y.length) (h : GoodW N y) : GoodW N (swapM y k) := ⟨by rw [swapM_length]; exact h.len, fun z hz => h.ok z ((swap_perm k y hk).mem_iff.1 hz)⟩

set_option maxHeartbeats 16000000 in
set_option maxRecDepth 20000 in
theorem weaveLeads_law (L : Lt) (x ps : List Int) (b : Int) (v uv pv : Value) (w : World) (hn : L.n ≤ 9223372036854775807) (hv : IsLt w v L) (hx : IsWd w uv x) (hps : IsBytes w pv ps) :
    Calls Try.prog 10 #[v, uv, pv, .int .u8 b] w fun e w' => e = .returned (.bool true) ∧ Grew w w' := by
  obtain ⟨ua, uc, rfl⟩ := isWd_slice hx
  obtain ⟨pa, pc, rfl, hpm, hpc⟩ := hps
  have HV := hid hv
  obtain ⟨s, rfl, -⟩ := hv
  obtain ⟨W0, hW0, g0, k0, k1, hz⟩ := box2 w (.int .i64 L.n) s 24
  have hvp := validP_any _ L _ [x] (W0.alloc (.cells #[.slice ua x.length uc] 25)) ((HV.out.grew g0).grew (grew_alloc (grew_refl _) _)) (rows_one (hx.grew g0).ints 25)
  have HA := hid (fun (W : World) => awake_any W)
  obtain ⟨p, hp⟩ : ∃ p, validM L [x] = p := ⟨_, rfl⟩
  rw [hp] at hvp
  have HVP := hid hvp
  have HX := hid hx
  have HPC := hid hpc
  obtain ⟨n, hn'⟩ : ∃ n, ps.length = n := ⟨_, rfl⟩
  rw [hn'] at hpm HPC ⊢
  have hg := grew_refl W0
  clear hvp hx hpc hn'
  by_cases hq : p = true ∧ n ≤ 200
  · obtain ⟨rfl, hn2⟩ := hq
    obtain ⟨N, hN, hN1, hN6, hall⟩ := validM_spec hp
    have gx : GoodW N x := let ⟨_, h1, h2⟩ := hall x (by simp); ⟨h1, h2⟩
    have hvl : valid L = true := by unfold validM at hp; simp only [Bool.and_eq_true] at hp; exact hp.1.2
    have hd200 : decide ((200 : Int) < (n : Int)) = false := by rw [decide_eq_false_iff_not]; omega
    have hn200 : ¬ (200 : Int) < (n : Int) := by omega
    obtain ⟨m, hm⟩ : ∃ m, x.length = m := ⟨_, rfl⟩
    have hm10 : m ≤ 10 := by rw [← hm]; exact gx.len
    have HM := hid hm; have HN := hid hN; have HVL := hid hvl; have GX := hid gx
    rw [hm] at HVP HX ⊢
    clear hp hall hm hN hvl gx
    have hseg0 : ∀ W : World, Seg (W.alloc (.cells #[] 3)) W.heap.size 3 1 (.slice (some ⟨W.heap.size, 0, none⟩) 0 0) 0 [] := fun W =>
      ⟨by simp, .inr ⟨W.heap.size, 0, 0, #[], rfl, Nat.le_refl _, heap_alloc_new W _, Nat.le_refl _, by unfold maxLen; omega, by simp, by simp⟩⟩
    have HSEG0 := hid hseg0
    obtain ⟨i0, hi0, hi1, hi2, hi3⟩ := info_parts Try.info3
    clear hseg0
    go_enter Try.func10, Try.ntmps10
    go_wp2_with (first
      | (go_at_call 32; (with_reducible refine HVP.out.mono ?_); rintro e w2 ⟨rfl, hx⟩; replace hg := grew_trans (grew_alloc (grew_refl W0) _) hx; have hc := (bcell hg).1; have HSRC := hid (src_ints (((HX.out.grew (grew_trans g0 hg)).grew (grew_alloc (grew_refl w2) (.cells #[] 3))).ints)); rw [HM.out] at HSRC; have HG2 := hid hg; clear hx)
      | (at_builtin; refine wpList_append_seg rfl _ _ 25 25 rfl w2.heap.size 3 i0 (.int .i64 0) 1 8 Try.underlying25 hi0 hi1 hi2 hi3 rfl _ 0 [] rfl (HSEG0.out w2) _ rfl m _ HSRC.out (by unfold maxLen; omega) (by omega) (by simp) ?_; intro v3 w3 hown3 hgrow3 hblk3; rw [Nat.zero_add, List.nil_append] at hown3; have HG3 := hid (((grew_refl w2).alloc (Nat.le_refl _) (.cells #[] 3)).grown hgrow3 (by simp) (fun k e => ((HSEG0.out w2).own k e).1)); have HOWN3 := hid hown3; obtain ⟨a3, c3, rfl, _⟩ := hown3.shape; clear hown3 hgrow3 hblk3 hg hc))
    have HG03 := hid (grew_trans HG2.out HG3.out)
    have HX3 := hid (show WdOff (fun k _ => (Value.slice none 0 0).ownBlock ≠ some k) w3 (.slice a3 m c3) x from (IsWd.off (by have h := HOWN3.out; exact wd_seg h HM.out)).re (fun k o _ _ e => by simp [Value.ownBlock] at e))
    go_loopg [9, 10, 12, 13, 14, 15, 16, 17, 42, 55, 62] n (fun gk vv st _ _ _ _ _ _ j _ _ wr => ∃ (i c : Nat) (va : Option Addr) (vc : Nat) (y steps : List Int), i ≤ n ∧ j = .int .i64 (i : Int) ∧ Hid (gk = n - i) ∧ vv = .slice va m vc ∧ c ≤ i ∧ Hid (y.length = m ∧ GoodW N y) ∧ Hid (WdOff (fun k _ => st.ownBlock ≠ some k) wr (.slice va m vc) y) ∧ Hid (steps.length = c) ∧ Hid (Seg wr w3.heap.size 3 1 st c (steps.map (.int .i64))) ∧ Hid (runP (dep L) x steps = some y) ∧ Hid (Grew w3 wr))
    case atStart => exact ⟨0, 0, a3, c3, x, [], by omega, rfl, hid rfl, rfl, by omega, hid ⟨HM.out, GX.out⟩, HX3, hid rfl, hid (Seg.nil _ _ _ _), hid rfl, hid (grew_refl w3)⟩
    case round =>
      clear HX3
      obtain ⟨i, c, va, vc, y, steps, hi, rfl, HGK, rfl, hci, HY, HYO, HSL, HSS, HRUN, HGR⟩ := hrel
      rename World => wr
      have hg := grew_trans HG03.out HGR.out
      have hc := (bcell hg).1
      obtain ⟨ta, tc, rfl, -⟩ := HSS.out.shape
      by_cases hin : i < n
      · have hii : (i : Int) < (n : Int) := by omega
        obtain ⟨bb, boff, bo, rfl, hbo, hbc, hb1, hb2⟩ := HPC.out i hin
        have hbl := lt_of_obj hbo
        have hg1 := grew_trans g0 hg
        have hbc1 := (hg1.cell (p := ⟨bb, boff + i, none⟩) hbl).trans hbc
        have hbl1 := Nat.lt_of_lt_of_le hbl hg1.size
        obtain ⟨q, hq⟩ : ∃ q : Nat, nth ps i = q := ⟨(nth ps i).toNat, by omega⟩
        rw [hq] at hbc1 hb2
        have hcv : IntKind.i64.wrap (q : Int) = (q : Int) := IntWalk.i64_in _ (by omega)
        clear hbo hbc hb1 hg1 hq
        by_cases hm2 : m < 2
        · have hm2i : (m : Int) < 2 := by omega
          have gy := HY.out.2
          have HYW := hid HYO.out.wd
          have HSW := hid (show IsWd wr (.slice ta c tc) steps from wd_seg HSS.out HSL.out)
          have hal := runP_alike (dep_refl L) (dep_comm L) _ _ _ HRUN.out
          have hsl : steps.length ≤ 1000 := by rw [HSL.out]; omega
          have H47 := hid (fun (W : World) (hW : Grew wr W) => isPath_yes HN.out HVL.out hn GX.out gy hsl HRUN.out (HV.out.grew (grew_trans (grew_trans g0 hg) hW)) (HX.out.grew (grew_trans (grew_trans g0 hg) hW)) (HYW.out.grew hW) (HSW.out.grew hW))
          have H43 := hid (fun (W : World) (hW : Grew wr W) => equal_yes HN.out HVL.out hn GX.out gy hal (HV.out.grew (grew_trans (grew_trans g0 hg) hW)) (HX.out.grew (grew_trans (grew_trans g0 hg) hW)) (HYW.out.grew hW))
          have H45 := hid (fun (W : World) (hW : Grew wr W) => path_yes HN.out HVL.out hn GX.out gy hal (HV.out.grew (grew_trans (grew_trans g0 hg) hW)) (HX.out.grew (grew_trans (grew_trans g0 hg) hW)) (HYW.out.grew hW))
          have H47p := hid (fun (W : World) (hW : Grew wr W) (u : Value) (p : List Int) (hu : IsWd W u p) (hp : p.length ≤ 45) (hr : runP (dep L) x p = some y) => isPath_yes HN.out HVL.out hn GX.out gy (by omega) hr (HV.out.grew (grew_trans (grew_trans g0 hg) hW)) (HX.out.grew (grew_trans (grew_trans g0 hg) hW)) (HYW.out.grew hW) hu)
          have HGQ := hid (grew_refl wr)
          clear hal hsl gy
          go_wp2_with (first
            | (go_at_call 47; (with_reducible refine (H47.out _ HGQ.out).mono ?_); rintro e w4 ⟨rfl, hx⟩; replace hg := grew_trans hg hx; replace hc := (bcell hg).1; replace HGQ := hid (grew_trans HGQ.out hx); clear hx H47)
            | (go_at_call 43; (with_reducible refine (H43.out _ HGQ.out).mono ?_); rintro e w5 ⟨rfl, hx⟩; replace hg := grew_trans hg hx; replace hc := (bcell hg).1; replace HGQ := hid (grew_trans HGQ.out hx); clear hx H43)
            | (go_at_call 45; (with_reducible refine (H45.out _ HGQ.out).mono ?_); rintro e w6 ⟨u6, p6, rfl, hu6, hp6, hr6, hx⟩; obtain ⟨a6, c6, rfl⟩ := isWd_slice hu6; obtain ⟨l6, hl6⟩ : ∃ l, p6.length = l := ⟨_, rfl⟩; rw [hl6] at hu6 ⊢; replace hg := grew_trans hg hx; replace hc := (bcell hg).1; replace HGQ := hid (grew_trans HGQ.out hx); have hev := paths_even (dep_refl L) hr6 HRUN.out; rw [hl6, HSL.out] at hev; have hl45 : l6 ≤ 45 := (by rw [← hl6]; exact hp6); have hwl : IntKind.i64.wrap ((l6 : Int) - (c : Int)) = (l6 : Int) - (c : Int) := IntWalk.i64_in _ (by omega); have HU6 := hid hu6; have HP6 := hid hp6; have HR6 := hid hr6; clear hx hu6 hp6 hr6 hl6)
            | (go_at_call 47; (with_reducible refine (H47p.out _ HGQ.out _ p6 HU6.out HP6.out HR6.out).mono ?_); rintro e w7 ⟨rfl, hx⟩; replace hg := grew_trans hg hx; replace hc := (bcell hg).1; replace HGQ := hid (grew_trans HGQ.out hx); clear hx)
            | (go_at_call 17; (with_reducible refine (HA.out _).mono ?_); rintro e w9 ⟨rfl, hx⟩; replace hg := grew_trans hg hx; replace hc := (bcell hg).1; clear hx))
          go_ret
          exact ⟨rfl, grew_trans g0 hg⟩
        · have hm2i : ¬ (m : Int) < 2 := by omega
          have hwm : IntKind.i64.wrap ((m : Int) - 1) = ((m - 1 : Nat) : Int) := by rw [IntWalk.i64_in _ (by omega)]; omega
          obtain ⟨m1, hm1⟩ : ∃ m1, m - 1 = m1 := ⟨_, rfl⟩
          rw [hm1] at hwm
          have hm0 : ((m1 : Int) == 0) = false := by simp; omega
          have hm0' : (m1 : Int) ≠ 0 := by omega
          obtain ⟨k, hk⟩ : ∃ k, q % m1 = k := ⟨_, rfl⟩
          have hkm : k < m1 := by rw [← hk]; exact Nat.mod_lt _ (by omega)
          have htm : ((q : Int)).tmod (m1 : Int) = (k : Int) := by rw [← hk]; rfl
          have hwk0 : IntKind.i64.wrap (k : Int) = (k : Int) := IntWalk.i64_in _ (by omega)
          have hwr2 : IntKind.i64.wrap ((k : Int) + 1) = (k : Int) + 1 := IntWalk.i64_in _ (by omega)
          have htn : ((k : Int) + 1).toNat = k + 1 := by omega
          have hp0 : (0 : Int) ≤ (k : Int) + 1 := by omega
          have hkl : (k : Int) + 1 < (m : Int) := by omega
          have hkl0 : (k : Int) < (m : Int) := by omega
          have hky : k + 1 < y.length := by rw [HY.out.1]; omega
          obtain ⟨a0, ha0⟩ : ∃ a : Nat, nth y k = (a : Int) := ⟨(nth y k).toNat, by have := HY.out.2.ok _ (nth_memI (show k < y.length by omega)); omega⟩
          obtain ⟨a1, ha1⟩ : ∃ a : Nat, nth y (k + 1) = (a : Int) := ⟨(nth y (k + 1)).toNat, by have := HY.out.2.ok _ (nth_memI hky); omega⟩
          have hN0 : a0 < N := by have := HY.out.2.ok _ (nth_memI (show k < y.length by omega)); omega
          have hN1' : a1 < N := by have := HY.out.2.ok _ (nth_memI hky); omega
          obtain ⟨d, hd⟩ : ∃ d, dep L a0 a1 = d := ⟨_, rfl⟩
          have hcan : canM (dep L) y (k : Int) = !d := by rw [can_at hky, ha0, ha1, hd]
          have HCAN := hid hcan
          have h39 := exchanged39_seg _ L _ y (k : Int) wr hn (HV.out.grew (grew_trans g0 hg)) HYO.out.wd
          rw [exchangedM_good HN.out HVL.out HY.out.2, hcan] at h39
          have H35 := hid (fun (W : World) (hW : Grew w W) => depend35_any _ L a0 a1 W hn (HV.out.grew hW))
          rw [dependM_good HN.out HVL.out hN0 hN1', hd] at H35
          obtain ⟨yb, yoff, yo, rfl, hyo, cy0⟩ := wd_cell HYO.out.wd k (by omega)
          obtain ⟨yb', yoff', yo', hye, -, cy1⟩ := wd_cell HYO.out.wd (k + 1) (by omega)
          simp only [Option.some.injEq, Addr.mk.injEq, and_true] at hye
          obtain ⟨rfl, rfl⟩ := hye
          rw [ha0] at cy0; rw [ha1] at cy1
          have hyl := lt_of_obj hyo
          clear hyo ha0 ha1 hd hcan hk hm1
          cases d
          · simp only [Bool.not_false, if_true, Int.toNat_natCast] at h39
            rw [swapM_length, HY.out.1] at h39
            have H39 := hid h39
            have HGY := hid (swap_good hky HY.out.2)
            have HRN := hid (runP_more HRUN.out HCAN.out)
            clear h39
            obtain ⟨vs, hvs⟩ : ∃ vs, steps.map (Value.int .i64) = vs := ⟨_, rfl⟩
            have HVS := hid hvs
            have hss := HSS.out
            rw [hvs] at hss
            have HSS2 := hid hss
            clear hvs hss
            go_wp2_with (go_at_call 39; (with_reducible refine H39.out.mono ?_); rintro e w4 ⟨u4, rfl, hs4, hx⟩; obtain ⟨a4, c4, rfl, -⟩ := hs4.shape; replace hg := grew_trans hg hx; replace hc := (bcell hg).1; have kw0 := (hg.cell (p := ⟨w.heap.size, 0, none⟩) hz).trans k0; have kw1 := (hg.cell (p := ⟨w.heap.size, 1, none⟩) hz).trans k1; have hzw := Nat.lt_of_lt_of_le hz hg.size; have d0 := (hx.cell (p := ⟨yb, yoff + k, none⟩) hyl).trans cy0; have d1 := (hx.cell (p := ⟨yb, yoff + (k + 1), none⟩) hyl).trans cy1; have hyl4 := Nat.lt_of_lt_of_le hyl hx.size; have HS4 := hid hs4; have HG4 := hid hx; clear hx hs4)
            go_region_held3 (fun w' => Grew w4 w' ∧ ∀ b o, b < w4.heap.size → w'.cell? ⟨b, o, none⟩ = w4.cell? ⟨b, o, none⟩) (exact later_bothL (by repeat' (first | assumption | exact grew_refl _ | refine grew_drew ?_ | refine grew_alloc ?_ _)))
              (first | (go_at_call 35; (with_reducible refine (H35.out _ (grew_trans (grew_trans g0 hg) (by repeat' (first | assumption | exact grew_refl _ | refine grew_drew ?_)))).mono ?_); rintro e w6 ⟨rfl, hx⟩; have G6 : Grew w4 w6 := grew_trans (by repeat' (first | assumption | exact grew_refl _ | refine grew_drew ?_)) hx; clear hx))
            all_goals (
              have hc := (bcell (grew_trans hg G6)).1
              have HG6 := hid (grew_trans HG4.out G6)
              have HS6 := hid (HS4.out.grew G6)
              have HSS6 := hid (HSS2.out.grew (grew_trans HG4.out G6))
              clear G6 kw0 kw1 hzw d0 d1
              go_wp2_with (at_builtin; refine wpList_append_one rfl _ _ 25 rfl w3.heap.size 3 Try.underlying25 Try.info3 rfl (by decide) _ c _ rfl (HSS6.out.alloc _) _ _ _ rfl (one_new _ _ _) rfl (by omega) ?_ ?_; (have := HG6.out.size; have := HGR.out.size; simp only [World.size_alloc]; omega); intro v9 w9 hown9 hgrow9 hblk9; have HGR9 := hid hgrow9; have HOWN9 := hid hown9; have HBLK9 := hid hblk9; obtain ⟨a9, c9, rfl, _⟩ := hown9.shape; clear hown9 hgrow9 hblk9)
              have hk9 := ((Keeps.refl (fun i _ => (Value.slice ta c tc).ownBlock = some i) w6).alloc (.cells #[.int .i64 (k : Int)] 3)).trans (keeps_of_grown HGR9.out)
              have hb9 : Below w3.heap.size w6 w9 := hk9.below (by have := HG6.out.size; have := HGR.out.size; omega) (fun i o e => (HSS6.out.own i e).1)
              have hwo : WdOff (fun i _ => (Value.slice a9 (c + 1) c9).ownBlock ≠ some i) w9 (.slice a4 m c4) (swapM y k) := by
                have h1 : WdOff (fun i _ => wr.heap.size ≤ i) w6 (.slice a4 m c4) (swapM y k) := WdOff.of_seg HS6.out
                have h2 := h1.re (S' := fun i _ => (Value.slice a9 (c + 1) c9).ownBlock ≠ some i ∧ (Value.slice ta c tc).ownBlock ≠ some i) (fun i o ho hi => by
                  have hlt6 := lt_of_obj ho
                  have hne : (Value.slice ta c tc).ownBlock ≠ some i := fun e => by have := (HSS2.out.own i e).2.1; omega
                  refine ⟨fun e => ?_, hne⟩
                  rcases HBLK9.out with h9 | h9
                  · exact hne (h9.symm.trans e)
                  · have e2 := h9.symm.trans e; simp at e2; omega)
                exact (h2.keeps hk9 (fun i o h e => h.2 e)).re (fun _ _ _ h => h.1)
              have HWO := hid hwo
              have HGN := hid ((grew_trans HGR.out HG6.out).trans hb9)
              clear hk9 hb9 hwo hc
              go_roundg (n - (i + 1))
              case measure => have := HGK.out; omega
              case rel => exact ⟨i + 1, c + 1, a4, c4, swapM y k, steps ++ [(k : Int)], by omega, by go_num, hid rfl, rfl, by omega, hid ⟨(swapM_length _ _).trans HY.out.1, HGY.out⟩, HWO, hid (by rw [List.length_append, HSL.out]; rfl), hid (by rw [List.map_append, HVS.out]; exact HOWN9.out), HRN, HGN⟩)
          · simp only [Bool.not_true, Bool.false_eq_true, if_false] at h39
            have H39 := hid h39
            clear h39
            go_wp2_with (go_at_call 39; (with_reducible refine H39.out.mono ?_); rintro e w4 ⟨u4, rfl, hs4, hx⟩; replace hg := grew_trans hg hx; replace hc := (bcell hg).1; have kw0 := (hg.cell (p := ⟨w.heap.size, 0, none⟩) hz).trans k0; have kw1 := (hg.cell (p := ⟨w.heap.size, 1, none⟩) hz).trans k1; have hzw := Nat.lt_of_lt_of_le hz hg.size; have d0 := (hx.cell (p := ⟨yb, yoff + k, none⟩) hyl).trans cy0; have d1 := (hx.cell (p := ⟨yb, yoff + (k + 1), none⟩) hyl).trans cy1; have hyl4 := Nat.lt_of_lt_of_le hyl hx.size; have HG4 := hid hx; clear hx hs4)
            go_region_held3 (fun w' => Grew w4 w' ∧ ∀ b o, b < w4.heap.size → w'.cell? ⟨b, o, none⟩ = w4.cell? ⟨b, o, none⟩) (exact later_bothL (by repeat' (first | assumption | exact grew_refl _ | refine grew_drew ?_ | refine grew_alloc ?_ _)))
              (first | (go_at_call 35; (with_reducible refine (H35.out _ (grew_trans (grew_trans g0 hg) (by repeat' (first | assumption | exact grew_refl _ | refine grew_drew ?_)))).mono ?_); rintro e w6 ⟨rfl, hx⟩; have G6 : Grew w4 w6 := grew_trans (by repeat' (first | assumption | exact grew_refl _ | refine grew_drew ?_)) hx; clear hx))
            all_goals (
              have hc := (bcell (grew_trans hg G6)).1
              have HG6 := hid (grew_trans HG4.out G6)
              clear G6 kw0 kw1 hzw d0 d1
              go_wp2
              go_roundg (n - (i + 1))
              case measure => have := HGK.out; omega
              case rel => exact ⟨i + 1, c, _, vc, y, steps, by omega, by go_num, hid rfl, rfl, by omega, HY, hid (HYO.out.grew HG6.out), HSL, hid (HSS.out.grew HG6.out), HRUN, hid (grew_trans HGR.out HG6.out)⟩)
      · obtain rfl : i = n := by omega
        have hni : ¬ (i : Int) < (i : Int) := by omega
        have gy := HY.out.2
        have HYW := hid HYO.out.wd
        have HSW := hid (show IsWd wr (.slice ta c tc) steps from wd_seg HSS.out HSL.out)
        have hal := runP_alike (dep_refl L) (dep_comm L) _ _ _ HRUN.out
        have hsl : steps.length ≤ 1000 := by rw [HSL.out]; omega
        have H47 := hid (fun (W : World) (hW : Grew wr W) => isPath_yes HN.out HVL.out hn GX.out gy hsl HRUN.out (HV.out.grew (grew_trans (grew_trans g0 hg) hW)) (HX.out.grew (grew_trans (grew_trans g0 hg) hW)) (HYW.out.grew hW) (HSW.out.grew hW))
        have H43 := hid (fun (W : World) (hW : Grew wr W) => equal_yes HN.out HVL.out hn GX.out gy hal (HV.out.grew (grew_trans (grew_trans g0 hg) hW)) (HX.out.grew (grew_trans (grew_trans g0 hg) hW)) (HYW.out.grew hW))
        have H45 := hid (fun (W : World) (hW : Grew wr W) => path_yes HN.out HVL.out hn GX.out gy hal (HV.out.grew (grew_trans (grew_trans g0 hg) hW)) (HX.out.grew (grew_trans (grew_trans g0 hg) hW)) (HYW.out.grew hW))
        have H47p := hid (fun (W : World) (hW : Grew wr W) (u : Value) (p : List Int) (hu : IsWd W u p) (hp : p.length ≤ 45) (hr : runP (dep L) x p = some y) => isPath_yes HN.out HVL.out hn GX.out gy (by omega) hr (HV.out.grew (grew_trans (grew_trans g0 hg) hW)) (HX.out.grew (grew_trans (grew_trans g0 hg) hW)) (HYW.out.grew hW) hu)
        have HGQ := hid (grew_refl wr)
        clear hal hsl gy
        go_wp2_with (first
          | (go_at_call 47; (with_reducible refine (H47.out _ HGQ.out).mono ?_); rintro e w4 ⟨rfl, hx⟩; replace hg := grew_trans hg hx; replace hc := (bcell hg).1; replace HGQ := hid (grew_trans HGQ.out hx); clear hx H47)
          | (go_at_call 43; (with_reducible refine (H43.out _ HGQ.out).mono ?_); rintro e w5 ⟨rfl, hx⟩; replace hg := grew_trans hg hx; replace hc := (bcell hg).1; replace HGQ := hid (grew_trans HGQ.out hx); clear hx H43)
          | (go_at_call 45; (with_reducible refine (H45.out _ HGQ.out).mono ?_); rintro e w6 ⟨u6, p6, rfl, hu6, hp6, hr6, hx⟩; obtain ⟨a6, c6, rfl⟩ := isWd_slice hu6; obtain ⟨l6, hl6⟩ : ∃ l, p6.length = l := ⟨_, rfl⟩; rw [hl6] at hu6 ⊢; replace hg := grew_trans hg hx; replace hc := (bcell hg).1; replace HGQ := hid (grew_trans HGQ.out hx); have hev := paths_even (dep_refl L) hr6 HRUN.out; rw [hl6, HSL.out] at hev; have hl45 : l6 ≤ 45 := (by rw [← hl6]; exact hp6); have hwl : IntKind.i64.wrap ((l6 : Int) - (c : Int)) = (l6 : Int) - (c : Int) := IntWalk.i64_in _ (by omega); have HU6 := hid hu6; have HP6 := hid hp6; have HR6 := hid hr6; clear hx hu6 hp6 hr6 hl6)
          | (go_at_call 47; (with_reducible refine (H47p.out _ HGQ.out _ p6 HU6.out HP6.out HR6.out).mono ?_); rintro e w7 ⟨rfl, hx⟩; replace hg := grew_trans hg hx; replace hc := (bcell hg).1; replace HGQ := hid (grew_trans HGQ.out hx); clear hx)
          | (go_at_call 17; (with_reducible refine (HA.out _).mono ?_); rintro e w9 ⟨rfl, hx⟩; replace hg := grew_trans hg hx; replace hc := (bcell hg).1; clear hx))
        go_ret
        exact ⟨rfl, grew_trans g0 hg⟩
  · have hg200 : p = false ∨ (200 : Int) < (n : Int) := by
      cases p
      · exact .inl rfl
      · right
        have : ¬ n ≤ 200 := fun h => hq ⟨rfl, h⟩
        omega
    clear hp hq
    rcases hg200 with rfl | hn2
    · go_enter Try.func10, Try.ntmps10
      go_wp2_with (first
        | (go_at_call 32; (with_reducible refine HVP.out.mono ?_); rintro e w2 ⟨rfl, hx⟩; replace hg := grew_trans (grew_alloc (grew_refl W0) _) hx; have hc := (bcell hg).1; clear hx)
        | (go_at_call 17; (with_reducible refine (HA.out _).mono ?_); rintro e w2 ⟨rfl, hx⟩; replace hg := grew_trans hg hx; replace hc := (bcell hg).1; clear hx))
      go_ret
      exact ⟨rfl, grew_trans g0 hg⟩
    · have hd200 : decide ((200 : Int) < (n : Int)) = true := by rw [decide_eq_true_iff]; exact hn2
      cases p
      all_goals (
        go_enter Try.func10, Try.ntmps10
        go_wp2_with (first
          | (go_at_call 32; (with_reducible refine HVP.out.mono ?_); rintro e w2 ⟨rfl, hx⟩; replace hg := grew_trans (grew_alloc (grew_refl W0) _) hx; have hc := (bcell hg).1; clear hx)
          | (go_at_call 17; (with_reducible refine (HA.out _).mono ?_); rintro e w2 ⟨rfl, hx⟩; replace hg := grew_trans hg hx; replace hc := (bcell hg).1; clear hx))
        go_ret
        exact ⟨rfl, grew_trans g0 hg⟩)
end Go.Proofs.Ytddnpooffcjhnaa
