/- The law SpecRuns: it answers true of every input. -/
import Derived.Test.YtnebpcpihldllaaWTells
import Derived.Test.YtnebpcpihldllaaWAwake
namespace Go.Proofs.Ytnebpcpihldllaa
open Go.RowKit Go.Lin

theorem ints_shape {w : World} {u : Value} {xs : List Int} (h : IsInts Any w u xs) : ∃ a c, u = .slice a xs.length c := by
  obtain ⟨a, c, rfl, _, _⟩ := h
  exact ⟨a, c, rfl⟩

theorem sameInts_same (u v : Value) (R : List Int) (w : World) (hu : IsInts Any w u R) (hv : IsInts Any w v R) : Calls Try.prog 25 #[u, v] w fun e w' => e = .returned (.bool true) ∧ Grew w w' := by
  have h := sameInts_any u v R R w hu hv
  rwa [show sameL R R = true by simp [sameL]] at h

set_option maxHeartbeats 4000000 in
theorem specRuns_law (s : RSpec) (a b : Int) (ws : List Int) (sv v : Value) (w : World) (hs : IsSpec w sv s) (hx : IsInts Any w v ws) :
    Calls Try.prog 5 #[sv, .int .i64 a, .int .i64 b, v] w fun e w' => e = .returned (.bool true) ∧ Grew w w' := by
  have HS := hs
  have HX := hx
  have hlen : ws.length ≤ 9223372036854775807 := by obtain ⟨_, _, _, h, _⟩ := hx; exact h
  obtain ⟨va, vc, rfl⟩ := ints_shape hx
  obtain ⟨na, nc, ya, yc, rfl⟩ := isSpec_open' hs
  obtain ⟨W0, hW0, g0, k0, k1, k2, k3, hz⟩ := box4 w (.int .i64 s.st) (.int .i64 s.ops) (.slice na s.next.length nc) (.slice ya s.says.length yc) 24
  have hg := grew_refl W0
  have HR := hid (fun (y : World) (hy : Grew w y) => runOf_any s a ws _ _ y (HS.grew hy) (HX.grew hy))
  have HRR := hid (fun (y : World) (hy : Grew w y) => refRunOf_any s a ws _ _ y (HS.grew hy) (HX.grew hy))
  have HT := hid (fun (y : World) (hy : Grew w y) => tells_any s a b ws _ _ y (HS.grew hy) (HX.grew hy))
  have HRT := hid (fun (y : World) (hy : Grew w y) => refTells_any s a b ws _ _ y (HS.grew hy) (HX.grew hy))
  have HV := hid (fun (y : World) (hy : Grew w y) => valid_any s _ y (HS.grew hy))
  have HRV := hid (fun (y : World) (hy : Grew w y) => refValid_any s _ y (HS.grew hy))
  have HLO := hid (fun (y : World) (hy : Grew w y) => long_any s _ y (HS.grew hy))
  obtain ⟨R, hR⟩ : ∃ R, runL s a ws = R := ⟨_, rfl⟩
  obtain ⟨to, hto⟩ : ∃ to, runTo s a ws = to := ⟨_, rfl⟩
  obtain ⟨re, hre⟩ : ∃ re, runE s a ws = re := ⟨_, rfl⟩
  obtain ⟨tb, htb⟩ : ∃ tb, tellsB s a b ws = tb := ⟨_, rfl⟩
  obtain ⟨te, hte⟩ : ∃ te, tellsE s a b ws = te := ⟨_, rfl⟩
  obtain ⟨vb, hvb⟩ : ∃ vb, validM s = vb := ⟨_, rfl⟩
  rw [hR, hto, hre] at HR HRR
  rw [htb, hte] at HT HRT
  rw [hvb] at HV HRV
  clear hR hto hre htb hte hvb hs hx
  by_cases h100 : (100 : Int) < (ws.length : Int)
  · go_enter Try.func5, Try.ntmps5
    go_wp2_with (first
      | (go_at_call 16; with_reducible refine (HLO.out _ (grew_trans g0 hg)).mono ?_; rintro e w1 ⟨x1, rfl, hx1, hx⟩; replace hg := grew_trans hg hx; have hc := (bcell hg).1; clear hx; rcases hx1 with rfl | rfl)
      | (go_at_call 17; with_reducible refine (awake_any _).mono ?_; rintro e w6 ⟨rfl, hx6⟩))
    all_goals
      go_ret
      exact ⟨rfl, grew_trans (grew_trans g0 hg) hx6⟩
  · go_enter Try.func5, Try.ntmps5
    go_wp2_with (first
      | (go_at_call 16; with_reducible refine (HLO.out _ (grew_trans g0 hg)).mono ?_; rintro e w1 ⟨x1, rfl, hx1, hx⟩; replace hg := grew_trans hg hx; have hc := (bcell hg).1; clear hx; rcases hx1 with rfl | rfl)
      | (go_at_call 17; with_reducible refine (awake_any _).mono ?_; rintro e w6 ⟨rfl, hx6⟩)
      | (go_at_call 28; with_reducible refine (HR.out _ (grew_trans g0 hg)).mono ?_; rintro e w2 ⟨u, rfl, hu, hx⟩; have HU := hid hu; obtain ⟨ua, uc, rfl⟩ := ints_shape hu; clear hu; replace hg := grew_trans hg hx; have hc := (bcell hg).1; clear hx; have hg2 := grew_refl w2)
      | (go_at_call 29; with_reducible refine (HRR.out _ (grew_trans g0 hg)).mono ?_; rintro e w3 ⟨u2, rfl, hu2, hx⟩; have HU2 := hid hu2; obtain ⟨ub, ud, rfl⟩ := ints_shape hu2; clear hu2; replace hg := grew_trans hg hx; replace hg2 := grew_trans hg2 hx; have hc := (bcell hg).1; clear hx; have hg3 := grew_refl w3)
      | (go_at_call 30; with_reducible refine (HT.out _ (grew_trans g0 hg)).mono ?_; rintro e w4 ⟨rfl, hx⟩; replace hg := grew_trans hg hx; replace hg2 := grew_trans hg2 hx; replace hg3 := grew_trans hg3 hx; have hc := (bcell hg).1; clear hx)
      | (go_at_call 31; with_reducible refine (HRT.out _ (grew_trans g0 hg)).mono ?_; rintro e w5 ⟨rfl, hx⟩; replace hg := grew_trans hg hx; replace hg2 := grew_trans hg2 hx; replace hg3 := grew_trans hg3 hx; have hc := (bcell hg).1; have hzz := Nat.lt_of_lt_of_le hz hg.size; clear hx))
    · go_ret
      exact ⟨rfl, grew_trans (grew_trans g0 hg) hx6⟩
    · refine wp_region_later (by kernel_rfl) (by kernel_rfl) (fun hL => ?_)
      repeat (go_big_quiet_step ((first
        | (go_at_call 32; exact calls_later (HV.out _ (grew_trans (grew_trans g0 hg) (Subtype.property _))))
        | (go_at_call 33; exact calls_later (HRV.out _ (grew_trans (grew_trans g0 hg) (Subtype.property _))))
        | (go_at_call 25; exact calls_later (sameInts_same _ _ R _ (HU.out.grew (grew_trans hg2 (Subtype.property _))) (HU2.out.grew (grew_trans hg3 (Subtype.property _)))))
        | (go_at_call 17; exact calls_later (awake_any _)))))
      refine wpQuiet_nil ?_
      rintro wy ⟨y, hy⟩
      have hgy : Grew w wy := by rw [hy]; exact grew_trans (grew_trans g0 hg) y.2
      clear hL hy y
      go_wp2
      go_ret
      exact ⟨rfl, hgy⟩
end Go.Proofs.Ytnebpcpihldllaa
