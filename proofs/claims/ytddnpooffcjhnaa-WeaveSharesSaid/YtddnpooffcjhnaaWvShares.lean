/- The law WeaveShares: what two words have in common, and the word that both begin. -/
import Derived.Test.YtddnpooffcjhnaaWvRBoth
namespace Go.Proofs.Ytddnpooffcjhnaa
open Go.RowKit Go.Lin Go.Lin.Wv

set_option maxHeartbeats 8000000 in
set_option maxRecDepth 20000 in
theorem weaveShares_law (L : Lt) (x y : List Int) (v uv wv : Value) (w : World) (hn : L.n ≤ 9223372036854775807) (hv : IsLt w v L) (hx : IsWd w uv x) (hy : IsWd w wv y) :
    Calls Try.prog 4 #[v, uv, wv] w fun e w' => e = .returned (.bool true) ∧ Grew w w' := by
  obtain ⟨ua, uc, rfl⟩ := isWd_slice hx
  obtain ⟨xa, xc, rfl⟩ := isWd_slice hy
  have HA := hid (fun (W : World) => awake_any W)
  have H21 := hid (fun (W : World) (hW : Grew w W) => common21_any v L _ _ x y W hn (hv.grew hW) (hx.grew hW) (hy.grew hW))
  have H22 := hid (fun (W : World) (hW : Grew w W) => rCommon22_any v L _ _ x y W (hv.grew hW) (hx.grew hW) (hy.grew hW))
  have H24 := hid (fun (W : World) (hW : Grew w W) => both24_any v L _ _ x y W hn (hv.grew hW) (hx.grew hW) (hy.grew hW))
  have H25 := hid (fun (W : World) (hW : Grew w W) => rBoth25_any v L _ _ x y W (hv.grew hW) (hx.grew hW) (hy.grew hW))
  obtain ⟨⟨Jl, Je⟩, hJ⟩ : ∃ J, commonM L x y = J := ⟨_, rfl⟩
  obtain ⟨⟨Rl, Re⟩, hR⟩ : ∃ J, bothM L x y = J := ⟨_, rfl⟩
  rw [hJ] at H21 H22; rw [hR] at H24 H25
  clear hJ hR
  have HV := hid hv
  obtain ⟨s, rfl, -⟩ := hv
  obtain ⟨W0, hW0, g0, k0, k1, hz⟩ := box2 w (.int .i64 L.n) s 24
  have hl := long_any _ L _ [x, y] (W0.alloc (.cells #[.slice ua x.length uc, .slice xa y.length xc] 25)) ((HV.out.grew g0).grew (grew_alloc (grew_refl _) _)) (rows_two (hx.grew g0).ints (hy.grew g0).ints 25)
  obtain ⟨q, hq⟩ : ∃ q, longM L [x, y] = q := ⟨_, rfl⟩
  rw [hq] at hl
  have HL := hid hl
  have hg := grew_refl W0
  clear hq hl hx hy
  cases q
  · go_enter Try.func4, Try.ntmps4
    go_wp2_with (first
      | (go_at_call 16; (with_reducible refine HL.out.mono ?_); rintro e w1 ⟨rfl, hx⟩; replace hg := grew_trans (grew_alloc (grew_refl W0) _) hx; have hc := (bcell hg).1; clear hx)
      | (go_at_call 17; (with_reducible refine (HA.out _).mono ?_); rintro e w9 ⟨rfl, hx⟩; replace hg := grew_trans hg hx; replace hc := (bcell hg).1; clear hx)
      | (go_at_call 21; (with_reducible refine (H21.out _ (grew_trans g0 hg)).mono ?_); rintro e w2 ⟨u2, rfl, hu2, hx⟩; replace hg := grew_trans hg hx; replace hc := (bcell hg).1; have HU2 := hid hu2; clear hx hu2)
      | (go_at_call 22; (with_reducible refine (H22.out _ (grew_trans g0 hg)).mono ?_); rintro e w3 ⟨u3, rfl, hu3, hx⟩; replace hg := grew_trans hg hx; replace hc := (bcell hg).1; have HS := hid (sameInts_any u2 u3 Jl Jl w3 (HU2.out.grew hx).ints hu3.ints); clear hx hu3)
      | (go_at_call 23; (with_reducible refine HS.out.mono ?_); rintro e w4 ⟨rfl, hx⟩; replace hg := grew_trans hg hx; replace hc := (bcell hg).1; clear hx)
      | (go_at_call 24; (with_reducible refine (H24.out _ (grew_trans g0 hg)).mono ?_); rintro e w7 ⟨u7, rfl, hu7, hx⟩; replace hg := grew_trans hg hx; replace hc := (bcell hg).1; have HU7 := hid hu7; clear hx hu7)
      | (go_at_call 25; (with_reducible refine (H25.out _ (grew_trans g0 hg)).mono ?_); rintro e w8 ⟨u8, rfl, hu8, hx⟩; replace hg := grew_trans hg hx; replace hc := (bcell hg).1; have HS := hid (sameInts_any u7 u8 Rl Rl w8 (HU7.out.grew hx).ints hu8.ints); clear hx hu8))
    go_ret
    exact ⟨rfl, grew_trans g0 hg⟩
  · go_enter Try.func4, Try.ntmps4
    go_wp2_with (first
      | (go_at_call 16; (with_reducible refine HL.out.mono ?_); rintro e w1 ⟨rfl, hx⟩; replace hg := grew_trans (grew_alloc (grew_refl W0) _) hx; have hc := (bcell hg).1; clear hx)
      | (go_at_call 17; (with_reducible refine (HA.out _).mono ?_); rintro e w9 ⟨rfl, hx⟩; replace hg := grew_trans hg hx; replace hc := (bcell hg).1; clear hx))
    go_ret
    exact ⟨rfl, grew_trans g0 hg⟩

end Go.Proofs.Ytddnpooffcjhnaa
