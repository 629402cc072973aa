/- The law WeaveExchanges: Depend, Valid, Exchanged and Projection, of the program and of the reference. -/
import Derived.Test.YtddnpooffcjhnaaWvProjR
import Derived.Test.YtddnpooffcjhnaaWvLong
import Derived.Test.YtddnpooffcjhnaaWvAns
namespace Go.Proofs.Ytddnpooffcjhnaa
open Go.RowKit Go.Lin Go.Lin.Wv

theorem later_both {W w' : World} (h : Grew W w') : Grew W w' ∧ ∀ b o, b < W.heap.size → w'.cell? ⟨b, o, none⟩ = W.cell? ⟨b, o, none⟩ := ⟨h, (bcell h).1⟩

set_option maxHeartbeats 8000000 in
set_option maxRecDepth 20000 in
theorem weaveExchanges_law (L : Lt) (x : List Int) (i a b : Int) (v uv : Value) (w : World) (hn : L.n ≤ 9223372036854775807) (hv : IsLt w v L) (hx : IsWd w uv x) :
    Calls Try.prog 8 #[v, uv, .int .i64 i, .int .i64 a, .int .i64 b] w fun e w' => e = .returned (.bool true) ∧ Grew w w' := by
  obtain ⟨ua, uc, rfl⟩ := isWd_slice hx
  have HA := hid (fun (W : World) => awake_any W)
  have HSI := hid (fun (a b : Value) (l : List Int) (W : World) (ha : IsInts Any W a l) (hb : IsInts Any W b l) => same_true a b l W ha hb)
  have H35 := hid (fun (W : World) (hW : Grew w W) => depend35_any v L a b W hn (hv.grew hW))
  have H36 := hid (fun (W : World) (hW : Grew w W) => rDepend36_any v L a b W (hv.grew hW))
  have H37 := hid (fun (W : World) (hW : Grew w W) => valid_any v L W hn (hv.grew hW))
  have H38 := hid (fun (W : World) (hW : Grew w W) => rValid_any v L W (hv.grew hW))
  have H39 := hid (fun (W : World) (hW : Grew w W) => exchanged39_any v L _ x i W hn (hv.grew hW) (hx.grew hW))
  have H40 := hid (fun (W : World) (hW : Grew w W) => rExchanged40_any v L _ x i W (hv.grew hW) (hx.grew hW))
  have H41 := hid (fun (W : World) (hW : Grew w W) => proj41_any v L _ x a b W hn (hv.grew hW) (hx.grew hW))
  have H42 := hid (fun (W : World) (hW : Grew w W) => rProj42_any v L _ x a b W (hv.grew hW) (hx.grew hW))
  obtain ⟨⟨Jl, Je⟩, hJ⟩ : ∃ J, exchangedM L x i = J := ⟨_, rfl⟩
  obtain ⟨⟨Rl, Re⟩, hR⟩ : ∃ J, projM L x a b = J := ⟨_, rfl⟩
  obtain ⟨⟨Db, De⟩, hD⟩ : ∃ J, dependM L a b = J := ⟨_, rfl⟩
  obtain ⟨p, hp⟩ : ∃ p, valid L = p := ⟨_, rfl⟩
  rw [hJ] at H39 H40; rw [hR] at H41 H42; rw [hD] at H35 H36; rw [hp] at H37 H38
  clear hJ hR hD hp
  have HV := hid hv
  obtain ⟨s, rfl, -⟩ := hv
  obtain ⟨W0, hW0, g0, k0, k1, hz⟩ := box2 w (.int .i64 L.n) s 24
  have hl := long_any _ L _ [x] (W0.alloc (.cells #[.slice ua x.length uc] 25)) ((HV.out.grew g0).grew (grew_alloc (grew_refl _) _)) (rows_one (hx.grew g0).ints 25)
  obtain ⟨q, hq⟩ : ∃ q, longM L [x] = q := ⟨_, rfl⟩
  rw [hq] at hl
  have HL := hid hl
  have hg := grew_refl W0
  clear hq hl hx
  cases q
  · cases Db <;> cases p
    all_goals
      go_enter Try.func8, Try.ntmps8
      go_wp2_with (first
        | (go_at_call 16; (with_reducible refine HL.out.mono ?_); rintro e w1 ⟨rfl, hx⟩; replace hg := grew_trans (grew_alloc (grew_refl W0) _) hx; have hc := (bcell hg).1; clear hx)
        | (go_at_call 35; (with_reducible refine (H35.out _ (grew_trans g0 hg)).mono ?_); rintro e w2 ⟨rfl, hx⟩; replace hg := grew_trans hg hx; replace hc := (bcell hg).1; clear hx)
        | (go_at_call 36; (with_reducible refine (H36.out _ (grew_trans g0 hg)).mono ?_); rintro e w6 ⟨rfl, hx⟩; replace hg := grew_trans hg hx; have kw0 := (hg.cell (p := ⟨w.heap.size, 0, none⟩) hz).trans k0; have kw1 := (hg.cell (p := ⟨w.heap.size, 1, none⟩) hz).trans k1; have hzw := Nat.lt_of_lt_of_le hz hg.size; clear hx hc))
      go_region_held3 (fun w' => Grew w6 w' ∧ ∀ b o, b < w6.heap.size → w'.cell? ⟨b, o, none⟩ = w6.cell? ⟨b, o, none⟩) (exact later_both (by repeat' (first | assumption | exact grew_refl _ | refine grew_drew ?_ | refine grew_alloc ?_ _)))
        (first
          | (go_at_call 37; (with_reducible refine (H37.out _ (grew_trans (grew_trans g0 hg) (by repeat' (first | assumption | exact grew_refl _ | refine grew_drew ?_)))).mono ?_); rintro e w7 ⟨rfl, hx2⟩; have G2 : Grew w6 w7 := grew_trans (by repeat' (first | exact grew_refl _ | refine grew_drew ?_)) hx2; clear hx2)
          | (go_at_call 38; (with_reducible refine (H38.out _ (grew_trans (grew_trans g0 hg) (by repeat' (first | assumption | exact grew_refl _ | refine grew_drew ?_)))).mono ?_); rintro e w8 ⟨rfl, hx3⟩; have G3 : Grew w6 w8 := grew_trans (by repeat' (first | assumption | exact grew_refl _ | refine grew_drew ?_)) hx3; clear hx3))
      all_goals (
        replace hg := grew_trans hg G3
        clear kw0 kw1 hzw G2 G3
        have hc := (bcell hg).1
        go_wp2_with (first
          | (go_at_call 17; (with_reducible refine (HA.out _).mono ?_); rintro e w9 ⟨rfl, hx⟩; replace hg := grew_trans hg hx; replace hc := (bcell hg).1; clear hx)
          | (go_at_call 39; (with_reducible refine (H39.out _ (grew_trans g0 hg)).mono ?_); rintro e w2 ⟨u2, rfl, hu2, hx⟩; replace hg := grew_trans hg hx; replace hc := (bcell hg).1; have HU2 := hid hu2; clear hx hu2)
          | (go_at_call 40; (with_reducible refine (H40.out _ (grew_trans g0 hg)).mono ?_); rintro e w3 ⟨u3, rfl, hu3, hx⟩; replace hg := grew_trans hg hx; replace hc := (bcell hg).1; have HS := hid (sameInts_any u2 u3 Jl Jl w3 (HU2.out.grew hx).ints hu3.ints); clear hx hu3)
          | (go_at_call 23; (with_reducible refine HS.out.mono ?_); rintro e w4 ⟨rfl, hx⟩; replace hg := grew_trans hg hx; replace hc := (bcell hg).1; clear hx)
          | (go_at_call 41; (with_reducible refine (H41.out _ (grew_trans g0 hg)).mono ?_); rintro e w5 ⟨u7, rfl, hu7, hx⟩; replace hg := grew_trans hg hx; replace hc := (bcell hg).1; have HU7 := hid hu7; clear hx hu7)
          | (go_at_call 42; (with_reducible refine (H42.out _ (grew_trans g0 hg)).mono ?_); rintro e w10 ⟨u8, rfl, hu8, hx⟩; replace hg := grew_trans hg hx; replace hc := (bcell hg).1; have HS := hid (sameInts_any u7 u8 Rl Rl w10 (HU7.out.grew hx).ints hu8.ints); clear hx hu8))
        go_ret
        exact ⟨rfl, grew_trans g0 hg⟩)
  · go_enter Try.func8, Try.ntmps8
    go_wp2_with (first
      | (go_at_call 16; (with_reducible refine HL.out.mono ?_); rintro e w1 ⟨rfl, hx⟩; replace hg := grew_trans (grew_alloc (grew_refl W0) _) hx; have hc := (bcell hg).1; clear hx)
      | (go_at_call 17; (with_reducible refine (HA.out _).mono ?_); rintro e w9 ⟨rfl, hx⟩; replace hg := grew_trans hg hx; replace hc := (bcell hg).1; clear hx))
    go_ret
    exact ⟨rfl, grew_trans g0 hg⟩

end Go.Proofs.Ytddnpooffcjhnaa
