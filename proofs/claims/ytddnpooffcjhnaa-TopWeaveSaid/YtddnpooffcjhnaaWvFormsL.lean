/- The law WeaveForms: Layers, First, Starts, Turned and Size, of the program and of the reference. -/
import Derived.Test.YtddnpooffcjhnaaWvForms2
import Derived.Test.YtddnpooffcjhnaaWvJ
namespace Go.Proofs.Ytddnpooffcjhnaa
open Go.RowKit Go.Lin Go.Lin.Wv

theorem same20_true (a b : Value) (l : List (List Int)) (W : World) (ha : IsLs W a l) (hb : IsLs W b l) : Calls Try.prog 20 #[a, b] W fun e w' => e = .returned (.bool true) ∧ Grew W w' :=
  (same20_any a b l l W ha hb).mono fun e w' ⟨h1, h2⟩ => ⟨by rw [h1, beq_self_eq_true], h2⟩

theorem size48_a (v : Value) (L : Lt) (wv : Value) (xs : List Int) (w : World) (hn : L.n ≤ 9223372036854775807) (hv : IsLt w v L) (hx : IsWd w wv xs) :
    Calls Try.prog 48 #[v, wv] w fun e w' => e = .returned (.tuple #[.int .i64 (sizeA L xs).1, .int .i64 (sizeA L xs).2]) ∧ Grew w w' :=
  (size48_any v L wv xs w hn hv hx).mono fun e w' ⟨h1, h2⟩ => ⟨by rw [h1]; unfold sizeA; rfl, h2⟩

set_option maxHeartbeats 8000000 in
set_option maxRecDepth 20000 in
theorem weaveForms_law (L : Lt) (x : List Int) (v uv : Value) (w : World) (hn : L.n ≤ 9223372036854775807) (hv : IsLt w v L) (hx : IsWd w uv x) :
    Calls Try.prog 13 #[v, uv] w fun e w' => e = .returned (.bool true) ∧ Grew w w' := by
  obtain ⟨ua, uc, rfl⟩ := isWd_slice hx
  have HA := hid (fun (W : World) => awake_any W)
  have H52 := hid (fun (W : World) (hW : Grew w W) => layers52_any v L _ x W hn (hv.grew hW) (hx.grew hW))
  have H55 := hid (fun (W : World) (hW : Grew w W) => rLayers55_any v L _ x W (hv.grew hW) (hx.grew hW))
  have H33 := hid (fun (W : World) (hW : Grew w W) => first33_any v L _ x W hn (hv.grew hW) (hx.grew hW))
  have H56 := hid (fun (W : World) (hW : Grew w W) => rFirst56_any v L _ x W (hv.grew hW) (hx.grew hW))
  have H49 := hid (fun (W : World) (hW : Grew w W) => starts49_ok v L _ x W hn (hv.grew hW) (hx.grew hW))
  have H57 := hid (fun (W : World) (hW : Grew w W) => rStarts57_any v L _ x W (hv.grew hW) (hx.grew hW))
  have H50 := hid (fun (W : World) (hW : Grew w W) => turned50_any v L _ x W hn (hv.grew hW) (hx.grew hW))
  have H58 := hid (fun (W : World) (hW : Grew w W) => rTurned58_any v L _ x W (hv.grew hW) (hx.grew hW))
  have H48 := hid (fun (W : World) (hW : Grew w W) => size48_a v L _ x W hn (hv.grew hW) (hx.grew hW))
  have H59 := hid (fun (W : World) (hW : Grew w W) => rSize59_any v L _ x W (hv.grew hW) (hx.grew hW))
  obtain ⟨⟨Ll, Le⟩, hJ⟩ : ∃ J, layersA L x = J := ⟨_, rfl⟩
  rw [hJ] at H52 H55; clear hJ
  obtain ⟨⟨Fl, Fe⟩, hJ⟩ : ∃ J, firstM L x = J := ⟨_, rfl⟩
  rw [hJ] at H33 H56; clear hJ
  obtain ⟨⟨Sl, Se⟩, hJ⟩ : ∃ J, startsM L x = J := ⟨_, rfl⟩
  rw [hJ] at H49 H57; clear hJ
  obtain ⟨⟨Tl, Te⟩, hJ⟩ : ∃ J, turnedM L x = J := ⟨_, rfl⟩
  rw [hJ] at H50 H58; clear hJ
  obtain ⟨⟨Zl, Ze⟩, hJ⟩ : ∃ J, sizeA L x = J := ⟨_, rfl⟩
  rw [hJ] at H48 H59; clear hJ
  have HV := hid hv
  obtain ⟨s, rfl, -⟩ := hv
  obtain ⟨W0, hW0, g0, k0, k1, hz⟩ := box2 w (.int .i64 L.n) s 24
  have hl := long_any _ L _ [x] (W0.alloc (.cells #[.slice ua x.length uc] 25)) ((HV.out.grew g0).grew (grew_alloc (grew_refl _) _)) (rows_one (hx.grew g0).ints 25)
  obtain ⟨q, hq⟩ : ∃ q, longM L [x] = q := ⟨_, rfl⟩
  rw [hq] at hl
  have HL := hid hl
  have hg := grew_refl W0
  clear hq hl hx
  cases q
  · go_enter Try.func13, Try.ntmps13
    go_wp2_with (first
      | (go_at_call 16; (with_reducible refine HL.out.mono ?_); rintro e w1 ⟨rfl, hx⟩; replace hg := grew_trans (grew_alloc (grew_refl W0) _) hx; have hc := (bcell hg).1; clear hx)
      | (go_at_call 17; (with_reducible refine (HA.out _).mono ?_); rintro e w9 ⟨rfl, hx⟩; replace hg := grew_trans hg hx; replace hc := (bcell hg).1; clear hx)
      | (go_at_call 52; (with_reducible refine (H52.out _ (grew_trans g0 hg)).mono ?_); rintro e w2 ⟨u2, rfl, hu2, hx⟩; replace hg := grew_trans hg hx; replace hc := (bcell hg).1; have HU := hid hu2; clear hx hu2)
      | (go_at_call 55; (with_reducible refine (H55.out _ (grew_trans g0 hg)).mono ?_); rintro e w3 ⟨u3, rfl, hu3, hx⟩; replace hg := grew_trans hg hx; replace hc := (bcell hg).1; have HS := hid (same20_true u2 u3 Ll w3 (HU.out.grew hx) hu3); clear hx hu3 HU)
      | (go_at_call 20; (with_reducible refine HS.out.mono ?_); rintro e w4 ⟨rfl, hx⟩; replace hg := grew_trans hg hx; replace hc := (bcell hg).1; clear hx HS)
      | (go_at_call 33; (with_reducible refine (H33.out _ (grew_trans g0 hg)).mono ?_); rintro e w5 ⟨u5, rfl, hu5, hx⟩; replace hg := grew_trans hg hx; replace hc := (bcell hg).1; have HU := hid hu5; clear hx hu5)
      | (go_at_call 56; (with_reducible refine (H56.out _ (grew_trans g0 hg)).mono ?_); rintro e w6 ⟨u6, rfl, hu6, hx⟩; replace hg := grew_trans hg hx; replace hc := (bcell hg).1; have HS := hid (same_true u5 u6 Fl w6 (HU.out.grew hx).ints hu6.ints); clear hx hu6 HU)
      | (go_at_call 49; (with_reducible refine (H49.out _ (grew_trans g0 hg)).mono ?_); rintro e w5 ⟨u7, rfl, hu5, hx⟩; replace hg := grew_trans hg hx; replace hc := (bcell hg).1; have HU := hid hu5; clear hx hu5)
      | (go_at_call 57; (with_reducible refine (H57.out _ (grew_trans g0 hg)).mono ?_); rintro e w6 ⟨u8, rfl, hu6, hx⟩; replace hg := grew_trans hg hx; replace hc := (bcell hg).1; have HS := hid (same_true u7 u8 Sl w6 (HU.out.grew hx).ints hu6.ints); clear hx hu6 HU)
      | (go_at_call 50; (with_reducible refine (H50.out _ (grew_trans g0 hg)).mono ?_); rintro e w5 ⟨u9, rfl, hu5, hx⟩; replace hg := grew_trans hg hx; replace hc := (bcell hg).1; have HU := hid hu5; clear hx hu5)
      | (go_at_call 58; (with_reducible refine (H58.out _ (grew_trans g0 hg)).mono ?_); rintro e w6 ⟨u10, rfl, hu6, hx⟩; replace hg := grew_trans hg hx; replace hc := (bcell hg).1; have HS0 := hid ((And.intro (HU.out.grew hx) hu6 : IsWd w6 u9 Tl ∧ IsWd w6 u10 Tl)); have HGS := hid (grew_refl w6); clear hx hu6 HU)
      | (go_at_call 48; (with_reducible refine (H48.out _ (grew_trans g0 hg)).mono ?_); rintro e w7 ⟨rfl, hx⟩; replace hg := grew_trans hg hx; replace hc := (bcell hg).1; have HG7 := hid (grew_trans HGS.out hx); clear hx HGS; have HGS := HG7; clear HG7)
      | (go_at_call 59; (with_reducible refine (H59.out _ (grew_trans g0 hg)).mono ?_); rintro e w8 ⟨rfl, hx⟩; replace hg := grew_trans hg hx; replace hc := (bcell hg).1; have HG8 := grew_trans HGS.out hx; have HS := hid (same_true u9 u10 Tl w8 (HS0.out.1.grew HG8).ints (HS0.out.2.grew HG8).ints); clear hx HG8 HGS)
      | (go_at_call 23; (with_reducible refine HS.out.mono ?_); rintro e w10 ⟨rfl, hx⟩; replace hg := grew_trans hg hx; replace hc := (bcell hg).1; clear hx HS))
    go_ret
    exact ⟨rfl, grew_trans g0 hg⟩
  · go_enter Try.func13, Try.ntmps13
    go_wp2_with (first
      | (go_at_call 16; (with_reducible refine HL.out.mono ?_); rintro e w1 ⟨rfl, hx⟩; replace hg := grew_trans (grew_alloc (grew_refl W0) _) hx; have hc := (bcell hg).1; clear hx)
      | (go_at_call 17; (with_reducible refine (HA.out _).mono ?_); rintro e w9 ⟨rfl, hx⟩; replace hg := grew_trans hg hx; replace hc := (bcell hg).1; clear hx))
    go_ret
    exact ⟨rfl, grew_trans g0 hg⟩

end Go.Proofs.Ytddnpooffcjhnaa
