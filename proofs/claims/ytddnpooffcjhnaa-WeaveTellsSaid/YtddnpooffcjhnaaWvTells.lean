/- The law WeaveTells: words are equal in class exactly if all their projections to letters that depend on each other are, exactly if their layers are, exactly if their first forms are. -/
import Derived.Test.YtddnpooffcjhnaaWvGood
namespace Go.Proofs.Ytddnpooffcjhnaa
open Go.RowKit Go.Lin Go.Lin.Wv

theorem same23_is {a b : Value} {l m : List Int} {q : Bool} (hq : (l == m) = q) (W : World) (ha : IsInts Any W a l) (hb : IsInts Any W b m) : Calls Try.prog 23 #[a, b] W fun e w' => e = .returned (.bool q) ∧ Grew W w' :=
  (sameInts_any a b l m W ha hb).mono fun e w' ⟨h1, h2⟩ => ⟨by rw [h1, hq], h2⟩
theorem same20_is {a b : Value} {l m : List (List Int)} {q : Bool} (hq : (l == m) = q) (W : World) (ha : IsLs W a l) (hb : IsLs W b m) : Calls Try.prog 20 #[a, b] W fun e w' => e = .returned (.bool q) ∧ Grew W w' :=
  (same20_any a b l m W ha hb).mono fun e w' ⟨h1, h2⟩ => ⟨by rw [h1, hq], h2⟩

set_option maxHeartbeats 16000000 in
set_option maxRecDepth 20000 in
theorem weaveTells_law (L : Lt) (x y : List Int) (v uv tv : Value) (w : World) (hn : L.n ≤ 9223372036854775807) (hv : IsLt w v L) (hx : IsWd w uv x) (hy : IsWd w tv y) :
    Calls Try.prog 14 #[v, uv, tv] w fun e w' => e = .returned (.bool true) ∧ Grew w w' := by
  obtain ⟨ua, uc, rfl⟩ := isWd_slice hx
  obtain ⟨ya, yc, rfl⟩ := isWd_slice hy
  have HV := hid hv
  obtain ⟨s, rfl, -⟩ := hv
  obtain ⟨W0, hW0, g0, k0, k1, hz⟩ := box2 w (.int .i64 L.n) s 24
  have hvp := validP_any _ L _ [x, y] (W0.alloc (.cells #[.slice ua x.length uc, .slice ya y.length yc] 25)) ((HV.out.grew g0).grew (grew_alloc (grew_refl _) _)) (rows_two (hx.grew g0).ints (hy.grew g0).ints 25)
  have HA := hid (fun (W : World) => awake_any W)
  obtain ⟨p, hp⟩ : ∃ p, validM L [x, y] = p := ⟨_, rfl⟩
  rw [hp] at hvp
  have HVP := hid hvp
  have HX := hid hx; have HY := hid hy
  have hg := grew_refl W0
  clear hvp hx hy
  cases p with
  | false =>
    clear hp
    go_enter Try.func14, Try.ntmps14
    go_wp2_with (first
      | (go_at_call 32; (with_reducible refine HVP.out.mono ?_); rintro e w2 ⟨rfl, hx⟩; replace hg := grew_trans (grew_alloc (grew_refl W0) _) hx; have hc := (bcell hg).1; clear hx)
      | (go_at_call 17; (with_reducible refine (HA.out _).mono ?_); rintro e w2 ⟨rfl, hx⟩; replace hg := grew_trans hg hx; replace hc := (bcell hg).1; clear hx))
    go_ret
    exact ⟨rfl, grew_trans g0 hg⟩
  | true =>
    obtain ⟨N, hN, hN1, hN6, hall⟩ := validM_spec hp
    have gx : GoodW N x := let ⟨_, h1, h2⟩ := hall x (by simp); ⟨h1, h2⟩
    have gy : GoodW N y := let ⟨_, h1, h2⟩ := hall y (by simp); ⟨h1, h2⟩
    have hvl : valid L = true := by unfold validM at hp; simp only [Bool.and_eq_true] at hp; exact hp.1.2
    obtain ⟨q, hq⟩ : ∃ q, (first (dep L) N x == first (dep L) N y) = q := ⟨_, rfl⟩
    have hql : (layersM (dep L) N x == layersM (dep L) N y) = q := by
      rw [← hq, Bool.eq_iff_iff, beq_iff_eq, beq_iff_eq, layers_iff (dep_refl L) (dep_comm L) gx.ok gy.ok, first_iff (dep_refl L) (dep_comm L) gx.ok gy.ok]
    have hqa : q = true ↔ Wv.Alike (dep L) x y := by rw [← hq, beq_iff_eq, first_iff (dep_refl L) (dep_comm L) gx.ok gy.ok]
    have e43 := eqM_good hN hvl gx gy
    rw [hq] at e43
    have H43 := hid (fun (W : World) (hW : Grew w W) => equal43_any _ L _ _ x y W hn (HV.out.grew hW) (HX.out.grew hW) (HY.out.grew hW))
    rw [e43] at H43
    have H52x := hid (fun (W : World) (hW : Grew w W) => layers52_any _ L _ x W hn (HV.out.grew hW) (HX.out.grew hW))
    rw [layersA_good hN hvl gx] at H52x
    have H52y := hid (fun (W : World) (hW : Grew w W) => layers52_any _ L _ y W hn (HV.out.grew hW) (HY.out.grew hW))
    rw [layersA_good hN hvl gy] at H52y
    have H33x := hid (fun (W : World) (hW : Grew w W) => first33_any _ L _ x W hn (HV.out.grew hW) (HX.out.grew hW))
    rw [firstM_good hN hvl gx] at H33x
    have H33y := hid (fun (W : World) (hW : Grew w W) => first33_any _ L _ y W hn (HV.out.grew hW) (HY.out.grew hW))
    rw [firstM_good hN hvl gy] at H33y
    obtain ⟨Lx, hLx⟩ : ∃ l, layersM (dep L) N x = l := ⟨_, rfl⟩
    obtain ⟨Ly, hLy⟩ : ∃ l, layersM (dep L) N y = l := ⟨_, rfl⟩
    obtain ⟨Fx, hFx⟩ : ∃ l, first (dep L) N x = l := ⟨_, rfl⟩
    obtain ⟨Fy, hFy⟩ : ∃ l, first (dep L) N y = l := ⟨_, rfl⟩
    rw [hLx] at hql H52x; rw [hLy] at hql H52y; rw [hFx] at hq H33x; rw [hFy] at hq H33y
    have HQ := hid hq; have HQL := hid hql; have HQA := hid (fun (t : Bool) (h : t = true ↔ Wv.Alike (dep L) x y) => (Bool.eq_iff_iff.2 (h.trans hqa.symm) : t = q)); have HN := hid hN; have HVL := hid hvl; have GX := hid gx; have GY := hid gy
    clear hq hql hqa e43 hp hall hLx hLy hFx hFy hvl gx gy hN
    cases q
    all_goals (
      go_enter Try.func14, Try.ntmps14
      go_wp2_with (first
        | (go_at_call 32; (with_reducible refine HVP.out.mono ?_); rintro e w2 ⟨rfl, hx⟩; replace hg := grew_trans (grew_alloc (grew_refl W0) _) hx; have hc := (bcell hg).1; clear hx)
        | (go_at_call 43; (with_reducible refine (H43.out _ (grew_trans g0 hg)).mono ?_); rintro e w3 ⟨rfl, hx⟩; replace hg := grew_trans hg hx; replace hc := (bcell hg).1; clear hx)
        | (go_at_call 52; (with_reducible refine (H52x.out _ (grew_trans g0 hg)).mono ?_); rintro e w4 ⟨u4, rfl, hu4, hx⟩; replace hg := grew_trans hg hx; replace hc := (bcell hg).1; have HU4 := hid hu4; clear hx hu4)
        | (go_at_call 52; (with_reducible refine (H52y.out _ (grew_trans g0 hg)).mono ?_); rintro e w5 ⟨u5, rfl, hu5, hx⟩; replace hg := grew_trans hg hx; replace hc := (bcell hg).1; have HS := hid (And.intro (HU4.out.grew hx) hu5); have HGS := hid (grew_refl w5); clear hx hu5 HU4)
        | (go_at_call 33; (with_reducible refine (H33x.out _ (grew_trans g0 hg)).mono ?_); rintro e w6 ⟨u6, rfl, hu6, hx⟩; replace hg := grew_trans hg hx; replace hc := (bcell hg).1; have HU6 := hid hu6; have HG6 := hid (grew_trans HGS.out hx); clear hx hu6 HGS)
        | (go_at_call 33; (with_reducible refine (H33y.out _ (grew_trans g0 hg)).mono ?_); rintro e w7 ⟨u7, rfl, hu7, hx⟩; replace hg := grew_trans hg hx; replace hc := (bcell hg).1; have HS20 := hid (same20_is HQL.out w7 (HS.out.1.grew (grew_trans HG6.out hx)) (HS.out.2.grew (grew_trans HG6.out hx))); have HS23 := hid (fun (W : World) (hW : Grew w7 W) => same23_is HQ.out W ((HU6.out.grew hx).grew hW).ints (hu7.grew hW).ints); clear hx hu7 HU6 HS)
        | (go_at_call 20; (with_reducible refine HS20.out.mono ?_); rintro e w8 ⟨rfl, hx⟩; replace hg := grew_trans hg hx; replace hc := (bcell hg).1; have HG8 := hid hx; clear hx HS20)
        | (go_at_call 23; (with_reducible refine (HS23.out _ HG8.out).mono ?_); rintro e w9 ⟨rfl, hx⟩; replace hg := grew_trans hg hx; replace hc := (bcell hg).1; clear hx HS23))
      have HG9 := hid hg
      go_loopg [17, 18, 19, 20, 21, 22, 23, 24, 25, 98, 103, 106, 113, 121] N (fun gk t _ _ _ _ _ _ _ _ i _ _ _ _ wr => ∃ (a : Nat) (tt : Bool), a ≤ N ∧ i = .int .i64 (a : Int) ∧ Hid (gk = N - a) ∧ t = .bool tt ∧ Hid (ToldTo L x y a 0 tt) ∧ Hid (Grew W0 wr))
      case atStart => exact ⟨0, true, by omega, rfl, hid rfl, rfl, hid (ToldTo.zero L x y), HG9⟩
      case round =>
        clear hg
        try clear hc
        obtain ⟨a, tt, ha, rfl, HGK, rfl, HT, HG⟩ := hrel
        rename World => wr
        have hc := (bcell HG.out).1
        by_cases hlt : a < N
        · have hai : (a : Int) < L.n := by rw [HN.out]; omega
          go_wp2
          go_loopg [17, 19, 20, 21, 22, 23, 24, 25, 103, 106, 113, 121] (a + 1) (fun gj t _ _ _ _ _ _ _ j _ _ _ wt => ∃ (b : Nat) (t2 : Bool), b ≤ a + 1 ∧ j = .int .i64 (b : Int) ∧ Hid (gj = a + 1 - b) ∧ t = .bool t2 ∧ Hid (ToldTo L x y a b t2) ∧ Hid (Grew W0 wt))
          case atStart => exact ⟨0, tt, by omega, rfl, hid rfl, rfl, HT, HG⟩
          case round =>
            clear hc HT HG
            obtain ⟨b, t2, hb, rfl, HGJ, rfl, HT2, HG2⟩ := hrel
            rename World => wt
            have hg := HG2.out
            have hc := (bcell hg).1
            by_cases hbl : b < a + 1
            · have hbi : (b : Int) < (a : Int) + 1 := by omega
              obtain ⟨d, hd⟩ : ∃ d, dep L a b = d := ⟨_, rfl⟩
              obtain ⟨r, hr⟩ : ∃ r, (pr a b x == pr a b y) = r := ⟨_, rfl⟩
              have hst := HT2.out.step (show b ≤ a by omega)
              rw [hd, hr] at hst
              have H35 := hid (fun (W : World) (hW : Grew w W) => depend35_any _ L a b W hn (HV.out.grew hW))
              rw [dependM_good HN.out HVL.out hlt (show b < N by omega), hd] at H35
              have H41x := hid (fun (W : World) (hW : Grew w W) => proj41_any _ L _ x a b W hn (HV.out.grew hW) (HX.out.grew hW))
              rw [projM_good HN.out HVL.out GX.out hlt (show b < N by omega)] at H41x
              have H41y := hid (fun (W : World) (hW : Grew w W) => proj41_any _ L _ y a b W hn (HV.out.grew hW) (HY.out.grew hW))
              rw [projM_good HN.out HVL.out GY.out hlt (show b < N by omega)] at H41y
              obtain ⟨Px, hPx⟩ : ∃ l, pr a b x = l := ⟨_, rfl⟩
              obtain ⟨Py, hPy⟩ : ∃ l, pr a b y = l := ⟨_, rfl⟩
              rw [hPx] at hr H41x; rw [hPy] at hr H41y
              have HR := hid hr; have HST := hid hst
              clear hr hst hd hPx hPy HT2
              cases t2
              all_goals (
                cases d
                all_goals (
                  go_wp2_with (first
                    | (go_at_call 35; (with_reducible refine (H35.out _ (grew_trans g0 hg)).mono ?_); rintro e w3 ⟨rfl, hx⟩; replace hg := grew_trans hg hx; replace hc := (bcell hg).1; clear hx)
                    | (go_at_call 41; (with_reducible refine (H41x.out _ (grew_trans g0 hg)).mono ?_); rintro e w4 ⟨u4, rfl, hu4, hx⟩; replace hg := grew_trans hg hx; replace hc := (bcell hg).1; have HU4 := hid hu4; clear hx hu4)
                    | (go_at_call 41; (with_reducible refine (H41y.out _ (grew_trans g0 hg)).mono ?_); rintro e w5 ⟨u5, rfl, hu5, hx⟩; replace hg := grew_trans hg hx; replace hc := (bcell hg).1; have HS := hid (same23_is HR.out w5 (HU4.out.grew hx).ints hu5.ints); clear hx hu5 HU4)
                    | (go_at_call 23; (with_reducible refine HS.out.mono ?_); rintro e w6 ⟨rfl, hx⟩; replace hg := grew_trans hg hx; replace hc := (bcell hg).1; clear hx HS))
                  have HG5 := hid hg
                  go_roundg (a + 1 - (b + 1))
                  case measure => have := HGJ.out; omega
                  case rel => exact ⟨b + 1, _, by omega, by go_num, hid rfl, rfl, hid (by simpa using HST.out), HG5⟩))
            · obtain rfl : b = a + 1 := by omega
              have HT3 := hid HT2.out.row
              have HG5 := hid hg
              clear HT2
              go_wp2
              go_roundg (N - (a + 1))
              case measure => have := HGK.out; omega
              case rel => exact ⟨a + 1, t2, by omega, by go_num, hid rfl, rfl, HT3, HG5⟩
        · obtain rfl : a = N := by omega
          have hai : ¬ (a : Int) < L.n := by rw [HN.out]; omega
          have hte := HQA.out tt (HT.out.all GX.out.ok GY.out.ok)
          subst hte
          have hg := HG.out
          clear HT HG
          go_wp2_with (go_at_call 17; (with_reducible refine (HA.out _).mono ?_); rintro e w9 ⟨rfl, hx⟩; replace hg := grew_trans hg hx; replace hc := (bcell hg).1; clear hx)
          go_ret
          exact ⟨rfl, grew_trans g0 hg⟩)
end Go.Proofs.Ytddnpooffcjhnaa
