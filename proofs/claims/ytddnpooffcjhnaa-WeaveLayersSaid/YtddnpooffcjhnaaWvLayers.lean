/- The law WeaveLayers: the letters of one layer do not depend on each other, each letter behind the first layer depends on one of the layer in front of it, all layers one after the other are a word of the class. -/
import Derived.Test.YtddnpooffcjhnaaWvLayP
namespace Go.Proofs.Ytddnpooffcjhnaa
open Go.RowKit Go.Lin Go.Lin.Wv

set_option maxRecDepth 20000 in
/-- depends. -/
theorem depends54_ok (v : Value) (L : Lt) (N a b : Nat) (r : Bool) (w : World) (hn : L.n ≤ 9223372036854775807) (hN : L.n = N) (hvl : valid L = true) (ha : a < N) (hb : b < N) (hv : IsLt w v L) (hr : dep L a b = r) :
    Calls Try.prog 54 #[v, .int .i64 a, .int .i64 b] w fun e w' => e = .returned (.bool r) ∧ Grew w w' := by
  have HV := hid hv
  obtain ⟨s, rfl, -⟩ := hv
  obtain ⟨W0, hW0, g0, k0, k1, hz⟩ := box2 w (.int .i64 L.n) s 24
  have H35 := hid (depend35_any _ L a b W0 hn (HV.out.grew g0))
  rw [dependM_good hN hvl ha hb, hr] at H35
  clear hN hr ha hb hvl
  have hg := grew_refl W0
  go_enter Try.func54, Try.ntmps54
  go_wp2_with (go_at_call 35; (with_reducible refine H35.out.mono ?_); rintro e w3 ⟨rfl, hx⟩; replace hg := grew_trans hg hx; have hc := (bcell hg).1; clear hx)
  go_ret
  exact ⟨rfl, grew_trans g0 hg⟩

set_option maxHeartbeats 16000000 in
set_option maxRecDepth 20000 in
theorem weaveLayers_law (L : Lt) (x : List Int) (v uv : Value) (w : World) (hn : L.n ≤ 9223372036854775807) (hv : IsLt w v L) (hx : IsWd w uv x) :
    Calls Try.prog 12 #[v, uv] w fun e w' => e = .returned (.bool true) ∧ Grew w w' := by
  obtain ⟨ua, uc, rfl⟩ := isWd_slice hx
  have HV := hid hv
  obtain ⟨s, rfl, -⟩ := hv
  obtain ⟨W0, hW0, g0, k0, k1, hz⟩ := box2 w (.int .i64 L.n) s 24
  have hvp := validP_any _ L _ [x] (W0.alloc (.cells #[.slice ua x.length uc] 25)) ((HV.out.grew g0).grew (grew_alloc (grew_refl _) _)) (rows_one (hx.grew g0).ints 25)
  have HA := hid (fun (W : World) => awake_any W)
  obtain ⟨p, hp⟩ : ∃ p, validM L [x] = p := ⟨_, rfl⟩
  rw [hp] at hvp
  have HVP := hid hvp
  have HX := hid hx
  have hg := grew_refl W0
  clear hvp hx
  cases p with
  | false =>
    clear hp
    go_enter Try.func12, Try.ntmps12
    go_wp2_with (first
      | (go_at_call 32; (with_reducible refine HVP.out.mono ?_); rintro e w2 ⟨rfl, hx⟩; replace hg := grew_trans (grew_alloc (grew_refl W0) _) hx; have hc := (bcell hg).1; clear hx)
      | (go_at_call 17; (with_reducible refine (HA.out _).mono ?_); rintro e w2 ⟨rfl, hx⟩; replace hg := grew_trans hg hx; replace hc := (bcell hg).1; clear hx))
    go_ret
    exact ⟨rfl, grew_trans g0 hg⟩
  | true =>
    obtain ⟨N, hN, hN1, hN6, hall⟩ := validM_spec hp
    have gx : GoodW N x := let ⟨_, h1, h2⟩ := hall x (by simp); ⟨h1, h2⟩
    have hvl : valid L = true := by unfold validM at hp; simp only [Bool.and_eq_true] at hp; exact hp.1.2
    have H52 := hid (fun (W : World) (hW : Grew w W) => layers52_any _ L _ x W hn (HV.out.grew hW) (HX.out.grew hW))
    rw [layersA_good hN hvl gx] at H52
    obtain ⟨hlo, gf, hal⟩ := lay_ok (L := L) gx
    obtain ⟨F, hF⟩ : ∃ F, layersM (dep L) N x = F := ⟨_, rfl⟩
    rw [hF] at H52 hlo gf hal
    have h43 := fun (W : World) (hW : Grew w W) (u : Value) (hu : IsWd W u F.flatten) => equal43_any _ L _ _ x F.flatten W hn (HV.out.grew hW) (HX.out.grew hW) hu
    rw [eqM_good hN hvl gx gf, (first_iff (dep_refl L) (dep_comm L) gx.ok gf.ok).2 hal, beq_self_eq_true] at h43
    have H43 := hid h43
    have H53 := hid (fun (W : World) (hW : Grew w W) (u : Value) (i : Nat) (hi : i < F.length) (hu : IsWd W u (nthL F i)) => (isW_any _ L u (nthL F i) W (HV.out.grew hW) hu.ints).mono (fun e w' ⟨h1, h2⟩ => And.intro (h1.trans (by rw [isW_mk hN (hlo.good i hi).len (hlo.good i hi).ok])) h2))
    have H54 := hid (fun (W : World) (hW : Grew w W) (a b : Nat) (r : Bool) (ha : a < N) (hb : b < N) (hr : dep L a b = r) => depends54_ok _ L N a b r W hn hN hvl ha hb (HV.out.grew hW) hr)
    have HLO := hid hlo; have GF := hid gf
    obtain ⟨m, hm⟩ : ∃ m, F.length = m := ⟨_, rfl⟩
    have HM := hid hm
    have HN := hid hN
    clear hp hall hF hvl gx hlo gf hal h43 hm hN
    go_enter Try.func12, Try.ntmps12
    go_wp2_with (first
      | (go_at_call 32; (with_reducible refine HVP.out.mono ?_); rintro e w2 ⟨rfl, hx⟩; replace hg := grew_trans (grew_alloc (grew_refl W0) _) hx; have hc := (bcell hg).1; clear hx)
      | (go_at_call 52; (with_reducible refine (H52.out _ (grew_trans g0 hg)).mono ?_); rintro e w3 ⟨u3, rfl, hu3, hx⟩; obtain ⟨la, lc, rfl, hlm⟩ := isLs_slice hu3; replace hg := grew_trans hg hx; rw [HM.out] at hu3 hlm ⊢; replace hc := (bcell hg).1; have HU3 := hid hu3; have HLM := hid hlm; clear hx hu3 hlm))
    have HG3 := hid hg
    clear hc hg
    go_loopg [7, 8, 9, 10, 11, 12, 14, 16, 34] m (fun gi all _ _ _ _ _ _ _ i wr => ∃ (j c : Nat), j ≤ m ∧ i = .int .i64 (j : Int) ∧ Hid (gi = m - j) ∧ c ≤ 10 ∧ Hid (c = (F.take j).flatten.length) ∧ Hid (Seg wr w3.heap.size 3 1 all c ((F.take j).flatten.map (.int .i64))) ∧ Hid (Grew w3 wr))
    case atStart => exact ⟨0, 0, by omega, rfl, hid rfl, by omega, hid rfl, hid (Seg.nil _ _ _ _), hid (grew_refl _)⟩
    case round =>
      obtain ⟨j, c, hj, rfl, HGI, hc10, HC, HSEG, HGR⟩ := hrel
      rename World => wr
      by_cases hlt : j < m
      · have hji : (j : Int) < (m : Int) := by omega
        have hlm := HLM.out
        obtain ⟨ob, ooff, oo, u, rfl, hoo, houc, hwd⟩ := HU3.out.at hlt
        obtain ⟨wa, wcp, hu⟩ := isWd_slice hwd
        obtain ⟨nj, hnj⟩ : ∃ n, (nthL F j).length = n := ⟨_, rfl⟩
        rw [hnj] at hu
        subst hu
        have hol := lt_of_obj hoo
        have hnj1 : 0 < nj := by rw [← hnj]; exact HLO.out.ne j (by rw [HM.out]; exact hlt)
        have hnj10 : nj ≤ 10 := by rw [← hnj]; exact (HLO.out.good j (by rw [HM.out]; exact hlt)).len
        have hnj0 : ((nj : Int) == 0) = false := by simp; omega
        have huc1 := (HGR.out.cell (p := ⟨ob, ooff + j, none⟩) hol).trans houc
        have HOUC := hid houc
        have hol1 := Nat.lt_of_lt_of_le hol HGR.out.size
        have HWD := hid (hwd.grew HGR.out)
        have HNJ := hid hnj
        have hg := grew_trans HG3.out HGR.out
        have hc := (bcell hg).1
        have HLET := hid (fun t (ht : t < nj) => (by have h := (HLO.out.good j (by rw [HM.out]; exact hlt)).ok _ (nth_memI (by rw [hnj]; exact ht)); exact ⟨(nth (nthL F j) t).toNat, by omega, by omega⟩ : ∃ b : Nat, nth (nthL F j) t = (b : Int) ∧ b < N))
        have HUW := hid (hwd.grew HGR.out)
        clear hoo houc hwd hnj
        go_wp2_with (go_at_call 53; (with_reducible refine (H53.out _ (grew_trans g0 hg) _ j (by rw [HM.out]; exact hlt) HUW.out).mono ?_); rintro e w5 ⟨rfl, hx⟩; have HX5 := hid hx; clear hx)
        obtain ⟨wb, woff, woo, rfl, hwoo, -⟩ := wd_cell HWD.out 0 hnj1
        have hwl := lt_of_obj hwoo
        have HCELL := hid (fun t (ht : t < nj) (W : World) (hW : Grew wr W) => (by obtain ⟨b', off', o', e1, e2, e3⟩ := wd_cell HWD.out t ht; simp only [Option.some.injEq, Addr.mk.injEq, and_true] at e1; obtain ⟨rfl, rfl⟩ := e1; exact (hW.cell (p := ⟨_, _, none⟩) hwl).trans e3 : W.cell? ⟨wb, woff + t, none⟩ = some (.int .i64 (nth (nthL F j) t))))
        obtain ⟨wcap, hwcap⟩ : ∃ c, c = wcp := ⟨_, rfl⟩
        subst hwcap
        have hcapn : nj ≤ wcap := by obtain ⟨_, _, e, h1, _⟩ := HWD.out; simp only [Value.slice.injEq] at e; obtain ⟨-, -, rfl⟩ := e; rw [HNJ.out] at h1; exact h1
        clear hwoo huc1
        go_loopg [10, 11, 12, 14, 16, 50] nj (fun gk _ _ _ _ _ i wk => ∃ k : Nat, k ≤ nj ∧ i = .int .i64 (k : Int) ∧ Hid (gk = nj - k) ∧ Hid (Grew wr wk))
        case atStart => exact ⟨0, by omega, rfl, hid rfl, HX5⟩
        case round =>
          clear hg hc HX5
          obtain ⟨k, hk, rfl, HGK, HGQ⟩ := hrel
          rename World => wq
          have hg := grew_trans HG3.out (grew_trans HGR.out HGQ.out)
          have hc := (bcell hg).1
          by_cases hkl : k < nj
          · have hkli : (k : Int) < (nj : Int) := by omega
            obtain ⟨a, ha, haN⟩ := HLET.out k hkl
            have HAK := hid ha
            have hca := HCELL.out k hkl wq HGQ.out
            rw [ha] at hca
            have hwlq := Nat.lt_of_lt_of_le hwl HGQ.out.size
            clear ha
            rcases Nat.eq_zero_or_pos j with hj0 | hjp
            · have hji0 : ((j : Int) == 0) = true := by simp; omega
              have hjn : ¬ (0 : Int) < (j : Int) := by omega
              have hjn2 : ¬ 0 < j := by omega
              have hjd : decide (0 < j) = false := by simp; omega
              clear hj0
              have hg := grew_trans HG3.out (grew_trans HGR.out HGQ.out)
              have hc := (bcell hg).1
              have HGA := hid hg
              rcases Nat.eq_zero_or_pos k with hk0 | hkp
              · have hki : ¬ (0 : Int) < (k : Int) := by omega
                have hkn : ¬ 0 < k := by omega
                have hkd : decide (0 < k) = false := by simp; omega
                have hkd2 : decide ((0 : Int) < (k : Int)) = false := by rw [decide_eq_false_iff_not]; omega
                clear hk0
                go_wp2
                go_loopg [16, 96] k (fun gb _ i wb => ∃ t : Nat, t ≤ k ∧ i = .int .i64 (t : Int) ∧ Hid (gb = k - t) ∧ Hid (Grew wr wb))
                case atStart => exact ⟨0, by omega, rfl, hid rfl, HGQ⟩
                case round =>
                  clear hg hc HGA HGQ
                  obtain ⟨t, ht, rfl, HGB, HGQ⟩ := hrel
                  rename World => wb
                  have hg := grew_trans HG3.out (grew_trans HGR.out HGQ.out)
                  have hc := (bcell hg).1
                  by_cases htk : t < k
                  · have hti : (t : Int) < (k : Int) := by omega
                    obtain ⟨b3, hb3, hbN3⟩ := HLET.out t (by omega)
                    have hcb := HCELL.out t (by omega) wb HGQ.out
                    rw [hb3] at hcb
                    have hap := HLO.out.apart j t k (by rw [HM.out]; exact hlt) htk (by rw [HNJ.out]; exact hkl)
                    rw [hb3, HAK.out] at hap
                    have H54a := hid (fun (W : World) (hW : Grew w W) => H54.out W hW a b3 false haN hbN3 hap)
                    clear hb3 hap
                    go_wp2_with (go_at_call 54; (with_reducible refine (H54a.out _ (grew_trans g0 hg)).mono ?_); rintro e w8 ⟨rfl, hx⟩; have HX8 := hid hx; clear hx)
                    go_roundg (k - (t + 1))
                    case measure => have := HGB.out; omega
                    case rel => exact ⟨t + 1, by omega, by go_num, hid rfl, hid (grew_trans HGQ.out HX8.out)⟩
                  · obtain rfl : t = k := by omega
                    go_wp2
                    go_roundg (nj - (t + 1))
                    case measure => have := HGK.out; omega
                    case rel => exact ⟨t + 1, by omega, by go_num, hid rfl, HGQ⟩
              · obtain ⟨k1, hk1⟩ : ∃ k1, k = k1 + 1 := ⟨k - 1, by omega⟩
                have hki : (0 : Int) < (k : Int) := by omega
                have hkd : decide (0 < k) = true := by simp; omega
                have hkd2 : decide ((0 : Int) < (k : Int)) = true := by rw [decide_eq_true_iff]; omega
                have hwr : IntKind.i64.wrap ((k : Int) - 1) = (k1 : Int) := by rw [IntWalk.i64_in _ (by omega)]; omega
                have hcp := HCELL.out k1 (by omega) wq HGQ.out
                have hup := HLO.out.up j k1 (by rw [HM.out]; exact hlt) (by rw [HNJ.out]; omega)
                rw [show k1 + 1 = k from hk1.symm, HAK.out] at hup
                obtain ⟨y1, hy1⟩ : ∃ y1, nth (nthL F j) k1 = y1 := ⟨_, rfl⟩
                rw [hy1] at hcp hup
                have hupn : ¬ (a : Int) ≤ y1 := by omega
                have hk1k : (k1 : Int) < (nj : Int) := by omega
                have HK1 := hid hk1
                clear hk1 hy1
                go_wp2
                go_loopg [16, 96] k (fun gb _ i wb => ∃ t : Nat, t ≤ k ∧ i = .int .i64 (t : Int) ∧ Hid (gb = k - t) ∧ Hid (Grew wr wb))
                case atStart => exact ⟨0, by omega, rfl, hid rfl, HGQ⟩
                case round =>
                  clear hg hc HGA HGQ
                  obtain ⟨t, ht, rfl, HGB, HGQ⟩ := hrel
                  rename World => wb
                  have hg := grew_trans HG3.out (grew_trans HGR.out HGQ.out)
                  have hc := (bcell hg).1
                  by_cases htk : t < k
                  · have hti : (t : Int) < (k : Int) := by omega
                    obtain ⟨b3, hb3, hbN3⟩ := HLET.out t (by omega)
                    have hcb := HCELL.out t (by omega) wb HGQ.out
                    rw [hb3] at hcb
                    have hap := HLO.out.apart j t k (by rw [HM.out]; exact hlt) htk (by rw [HNJ.out]; exact hkl)
                    rw [hb3, HAK.out] at hap
                    have H54a := hid (fun (W : World) (hW : Grew w W) => H54.out W hW a b3 false haN hbN3 hap)
                    clear hb3 hap
                    go_wp2_with (go_at_call 54; (with_reducible refine (H54a.out _ (grew_trans g0 hg)).mono ?_); rintro e w8 ⟨rfl, hx⟩; have HX8 := hid hx; clear hx)
                    go_roundg (k - (t + 1))
                    case measure => have := HGB.out; omega
                    case rel => exact ⟨t + 1, by omega, by go_num, hid rfl, hid (grew_trans HGQ.out HX8.out)⟩
                  · obtain rfl : t = k := by omega
                    go_wp2
                    go_roundg (nj - (t + 1))
                    case measure => have := HGK.out; omega
                    case rel => exact ⟨t + 1, by omega, by go_num, hid rfl, HGQ⟩
            · obtain ⟨j1, hj1⟩ : ∃ j1, j = j1 + 1 := ⟨j - 1, by omega⟩
              have hji0 : ((j : Int) == 0) = false := by simp; omega
              have hjp1 : (0 : Int) < (j : Int) := by omega
              have hwrj : IntKind.i64.wrap ((j : Int) - 1) = (j1 : Int) := by have := HLM.out; rw [IntWalk.i64_in _ (by omega)]; omega
              have hj1m : (j1 : Int) < (m : Int) := by omega
              obtain ⟨ob2, ooff2, oo2, u2, hoe, hoo2, houc2, hwd2⟩ := HU3.out.at (show j1 < m by omega)
              simp only [Option.some.injEq, Addr.mk.injEq, and_true] at hoe
              obtain ⟨rfl, rfl⟩ := hoe
              obtain ⟨wa2, wcp2, hu2⟩ := isWd_slice hwd2
              obtain ⟨n2, hn2⟩ : ∃ n, (nthL F j1).length = n := ⟨_, rfl⟩
              rw [hn2] at hu2
              subst hu2
              have huc2 := ((grew_trans HGR.out HGQ.out).cell (p := ⟨ob, ooff + j1, none⟩) hol).trans houc2
              have holq := Nat.lt_of_lt_of_le hol1 HGQ.out.size
              have HW2 := hid (hwd2.grew HGR.out)
              have hn210 : n2 ≤ 10 := by rw [← hn2]; exact (HLO.out.good j1 (by rw [HM.out]; omega)).len
              have HN2 := hid hn2
              have HPV := hid (HLO.out.prev j1 k (by rw [HM.out]; omega) (by rw [show j1 + 1 = j from hj1.symm, HNJ.out]; exact hkl))
              have HLET2 := hid (fun t (ht : t < n2) => (by have h := (HLO.out.good j1 (by rw [HM.out]; omega)).ok _ (nth_memI (by rw [hn2]; exact ht)); exact ⟨(nth (nthL F j1) t).toNat, by omega, by omega⟩ : ∃ b : Nat, nth (nthL F j1) t = (b : Int) ∧ b < N))
              have HJ1 := hid hj1
              clear hoo2 houc2 hwd2 hn2 hj1
              go_wp2
              go_loopg [12, 14, 65] n2 (fun gb some' _ i wb2 => ∃ (t : Nat) (s2 : Bool), t ≤ n2 ∧ i = .int .i64 (t : Int) ∧ Hid (gb = n2 - t) ∧ some' = .bool s2 ∧ Hid (((nthL F j1).take t).any (dep L a) = s2) ∧ Hid (Grew wr wb2))
              case atStart => exact ⟨0, false, by omega, rfl, hid rfl, rfl, hid rfl, HGQ⟩
              case round =>
                clear hg hc HGQ huc2 hca hwlq holq
                obtain ⟨t, s2, ht, rfl, HGB, rfl, HS2, HGQ⟩ := hrel
                rename World => wq2
                have hg := grew_trans HG3.out (grew_trans HGR.out HGQ.out)
                have hc := (bcell hg).1
                by_cases htn : t < n2
                · have hti : (t : Int) < (n2 : Int) := by omega
                  obtain ⟨b3, hb3, hbN3⟩ := HLET2.out t htn
                  obtain ⟨vb, voff, vo, rfl, hvo, hvc⟩ := wd_cell HW2.out t htn
                  have hvl := lt_of_obj hvo
                  have hvc1 := (HGQ.out.cell (p := ⟨vb, voff + t, none⟩) hvl).trans hvc
                  have hvl1 := Nat.lt_of_lt_of_le hvl HGQ.out.size
                  rw [hb3] at hvc1
                  obtain ⟨r, hr⟩ : ∃ r, dep L a b3 = r := ⟨_, rfl⟩
                  have H54a := hid (fun (W : World) (hW : Grew w W) => H54.out W hW a b3 r haN hbN3 hr)
                  have hst := any_take_succ (f := dep L a) (l := nthL F j1) (j := t) (by rw [HN2.out]; exact htn)
                  rw [hb3, hr, HS2.out] at hst
                  have HST := hid hst
                  clear hb3 hr hst hvo hvc HS2
                  cases s2
                  all_goals (
                    go_wp2_with (go_at_call 54; (with_reducible refine (H54a.out _ (grew_trans g0 hg)).mono ?_); rintro e w8 ⟨rfl, hx⟩; replace HGQ := hid (grew_trans HGQ.out hx); clear hx)
                    go_roundg (n2 - (t + 1))
                    case measure => have := HGB.out; omega
                    case rel => exact ⟨t + 1, _, by omega, by go_num, hid rfl, rfl, hid (by simpa using HST.out), HGQ⟩)
                · obtain rfl : t = n2 := by omega
                  have hs2 := HS2.out
                  rw [List.take_of_length_le (by rw [HN2.out]; exact Nat.le_refl _)] at hs2
                  have hpv := HPV.out
                  rw [show j1 + 1 = j from HJ1.out.symm, HAK.out, hs2] at hpv
                  subst hpv
                  have hca := HCELL.out k hkl wq2 HGQ.out
                  rw [HAK.out] at hca
                  have hwlq := Nat.lt_of_lt_of_le hwl HGQ.out.size
                  clear hs2 HS2
                  have hg := grew_trans HG3.out (grew_trans HGR.out HGQ.out)
                  have hc := (bcell hg).1
                  have HGA := hid hg
                  rcases Nat.eq_zero_or_pos k with hk0 | hkp
                  · have hki : ¬ (0 : Int) < (k : Int) := by omega
                    have hkn : ¬ 0 < k := by omega
                    have hkd : decide (0 < k) = false := by simp; omega
                    have hkd2 : decide ((0 : Int) < (k : Int)) = false := by rw [decide_eq_false_iff_not]; omega
                    clear hk0
                    go_wp2
                    go_loopg [16, 96] k (fun gb _ i wb => ∃ t : Nat, t ≤ k ∧ i = .int .i64 (t : Int) ∧ Hid (gb = k - t) ∧ Hid (Grew wr wb))
                    case atStart => exact ⟨0, by omega, rfl, hid rfl, HGQ⟩
                    case round =>
                      clear hg hc HGA HGQ
                      obtain ⟨t, ht, rfl, HGB, HGQ⟩ := hrel
                      rename World => wb
                      have hg := grew_trans HG3.out (grew_trans HGR.out HGQ.out)
                      have hc := (bcell hg).1
                      by_cases htk : t < k
                      · have hti : (t : Int) < (k : Int) := by omega
                        obtain ⟨b3, hb3, hbN3⟩ := HLET.out t (by omega)
                        have hcb := HCELL.out t (by omega) wb HGQ.out
                        rw [hb3] at hcb
                        have hap := HLO.out.apart j t k (by rw [HM.out]; exact hlt) htk (by rw [HNJ.out]; exact hkl)
                        rw [hb3, HAK.out] at hap
                        have H54a := hid (fun (W : World) (hW : Grew w W) => H54.out W hW a b3 false haN hbN3 hap)
                        clear hb3 hap
                        go_wp2_with (go_at_call 54; (with_reducible refine (H54a.out _ (grew_trans g0 hg)).mono ?_); rintro e w8 ⟨rfl, hx⟩; have HX8 := hid hx; clear hx)
                        go_roundg (k - (t + 1))
                        case measure => have := HGB.out; omega
                        case rel => exact ⟨t + 1, by omega, by go_num, hid rfl, hid (grew_trans HGQ.out HX8.out)⟩
                      · obtain rfl : t = k := by omega
                        go_wp2
                        go_roundg (nj - (t + 1))
                        case measure => have := HGK.out; omega
                        case rel => exact ⟨t + 1, by omega, by go_num, hid rfl, HGQ⟩
                  · obtain ⟨k1, hk1⟩ : ∃ k1, k = k1 + 1 := ⟨k - 1, by omega⟩
                    have hki : (0 : Int) < (k : Int) := by omega
                    have hkd : decide (0 < k) = true := by simp; omega
                    have hkd2 : decide ((0 : Int) < (k : Int)) = true := by rw [decide_eq_true_iff]; omega
                    have hwr : IntKind.i64.wrap ((k : Int) - 1) = (k1 : Int) := by rw [IntWalk.i64_in _ (by omega)]; omega
                    have hcp := HCELL.out k1 (by omega) wq2 HGQ.out
                    have hup := HLO.out.up j k1 (by rw [HM.out]; exact hlt) (by rw [HNJ.out]; omega)
                    rw [show k1 + 1 = k from hk1.symm, HAK.out] at hup
                    obtain ⟨y1, hy1⟩ : ∃ y1, nth (nthL F j) k1 = y1 := ⟨_, rfl⟩
                    rw [hy1] at hcp hup
                    have hupn : ¬ (a : Int) ≤ y1 := by omega
                    have hk1k : (k1 : Int) < (nj : Int) := by omega
                    have HK1 := hid hk1
                    clear hk1 hy1
                    go_wp2
                    go_loopg [16, 96] k (fun gb _ i wb => ∃ t : Nat, t ≤ k ∧ i = .int .i64 (t : Int) ∧ Hid (gb = k - t) ∧ Hid (Grew wr wb))
                    case atStart => exact ⟨0, by omega, rfl, hid rfl, HGQ⟩
                    case round =>
                      clear hg hc HGA HGQ
                      obtain ⟨t, ht, rfl, HGB, HGQ⟩ := hrel
                      rename World => wb
                      have hg := grew_trans HG3.out (grew_trans HGR.out HGQ.out)
                      have hc := (bcell hg).1
                      by_cases htk : t < k
                      · have hti : (t : Int) < (k : Int) := by omega
                        obtain ⟨b3, hb3, hbN3⟩ := HLET.out t (by omega)
                        have hcb := HCELL.out t (by omega) wb HGQ.out
                        rw [hb3] at hcb
                        have hap := HLO.out.apart j t k (by rw [HM.out]; exact hlt) htk (by rw [HNJ.out]; exact hkl)
                        rw [hb3, HAK.out] at hap
                        have H54a := hid (fun (W : World) (hW : Grew w W) => H54.out W hW a b3 false haN hbN3 hap)
                        clear hb3 hap
                        go_wp2_with (go_at_call 54; (with_reducible refine (H54a.out _ (grew_trans g0 hg)).mono ?_); rintro e w8 ⟨rfl, hx⟩; have HX8 := hid hx; clear hx)
                        go_roundg (k - (t + 1))
                        case measure => have := HGB.out; omega
                        case rel => exact ⟨t + 1, by omega, by go_num, hid rfl, hid (grew_trans HGQ.out HX8.out)⟩
                      · obtain rfl : t = k := by omega
                        go_wp2
                        go_roundg (nj - (t + 1))
                        case measure => have := HGK.out; omega
                        case rel => exact ⟨t + 1, by omega, by go_num, hid rfl, HGQ⟩
          · obtain rfl : k = nj := by omega
            have hsrc := src_ints ((HUW.out.grew HGQ.out).ints)
            rw [HNJ.out] at hsrc
            have hfl : c + k ≤ 10 := by
              have h1 := flat_take_le F (j + 1)
              rw [flatten_take_succ (by rw [HM.out]; exact hlt), List.length_append, ← HC.out, HNJ.out] at h1
              have := GF.out.len
              omega
            have HSRC := hid hsrc
            have HFL := hid hfl
            obtain ⟨i0, hi0, hi1, hi2, hi3⟩ := info_parts Try.info3
            clear hsrc hfl
            go_wp2_with (at_builtin; go_loud (refine wpList_append_seg rfl _ _ 25 25 rfl w3.heap.size 3 i0 (.int .i64 0) 1 8 Try.underlying25 hi0 hi1 hi2 hi3 rfl _ c _ rfl (HSEG.out.grew HGQ.out) _ rfl k _ HSRC.out (by unfold maxLen; omega) (by omega) (by have := HGR.out.size; have := HGQ.out.size; omega) ?_); intro v9 w9 hown9 hgrow9 hblk9; have HOWN9 := hid hown9; have HGR9 := hid ((grew_trans HGR.out HGQ.out).grown hgrow9 (grew_trans HGR.out HGQ.out).size (fun k e => (HSEG.out.own k e).1)); clear hown9 hgrow9 hblk9)
            go_roundg (m - (j + 1))
            case measure => have := HGI.out; omega
            case rel =>
              have hfe := flatten_take_succ (F := F) (i := j) (by rw [HM.out]; exact hlt)
              exact ⟨j + 1, c + k, by omega, by go_num, hid rfl, HFL.out, hid (by rw [hfe, List.length_append, ← HC.out, HNJ.out]), hid (by rw [hfe, List.map_append]; exact HOWN9.out), HGR9⟩
      · obtain rfl : j = m := by omega
        have hseg := HSEG.out
        have hc' := HC.out
        rw [List.take_of_length_le (by rw [HM.out]; exact Nat.le_refl _)] at hseg hc'
        rw [hc'] at hseg
        have hg := grew_trans HG3.out HGR.out
        have hc := (bcell hg).1
        have HWA := hid (IsWd.of_seg hseg)
        clear hseg hc'
        go_wp2_with (first
          | (go_at_call 43; (with_reducible refine (H43.out _ (grew_trans g0 hg) _ HWA.out).mono ?_); rintro e w3 ⟨rfl, hx⟩; replace hg := grew_trans hg hx; replace hc := (bcell hg).1; clear hx)
          | (go_at_call 17; (with_reducible refine (HA.out _).mono ?_); rintro e w9 ⟨rfl, hx⟩; replace hg := grew_trans hg hx; replace hc := (bcell hg).1; clear hx))
        go_ret
        exact ⟨rfl, grew_trans g0 hg⟩
end Go.Proofs.Ytddnpooffcjhnaa
