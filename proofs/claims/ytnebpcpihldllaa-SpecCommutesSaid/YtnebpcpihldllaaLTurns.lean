/- The law SpecTurns: it answers true of every input. -/
import Derived.Test.YtnebpcpihldllaaTurns
import Derived.Test.YtnebpcpihldllaaLRuns
namespace Go.Proofs.Ytnebpcpihldllaa
open Go.RowKit Go.Lin

set_option maxHeartbeats 4000000 in
theorem specTurns_law (s : RSpec) (x8 : Int) (ws : List Int) (sv v : Value) (w : World) (h8 : 0 ≤ x8 ∧ x8 ≤ 255) (hs : IsSpec w sv s) (hx : IsInts Any w v ws) :
    Calls Try.prog 6 #[sv, .int .u8 x8, v] w fun e w' => e = .returned (.bool true) ∧ Grew w w' := by
  have HS := hs
  have HX := hx
  obtain ⟨va, vc, rfl⟩ := ints_shape hx
  obtain ⟨na, nc, ya, yc, rfl⟩ := isSpec_open' hs
  obtain ⟨W0, hW0, g0, k0, k1, k2, k3, hz⟩ := box4 w (.int .i64 s.st) (.int .i64 s.ops) (.slice na s.next.length nc) (.slice ya s.says.length yc) 24
  have hg := grew_refl W0
  have HRV := hid (fun (y : World) (hy : Grew w y) => refValid_any s _ y (HS.grew hy))
  have HWD := hid (fun (y : World) (hy : Grew w y) => isWord_any s _ _ ws y (HS.grew hy) (HX.grew hy))
  have HLO := hid (fun (y : World) (hy : Grew w y) => long_any s _ y (HS.grew hy))
  cases hv : validM s with
  | false =>
    rw [hv] at HRV
    clear hs hx HX
    go_enter Try.func6, Try.ntmps6
    go_wp2_with (first
      | (go_at_call 16; with_reducible refine (HLO.out _ (grew_trans g0 hg)).mono ?_; rintro e w1 ⟨x1, rfl, hx1, hx⟩; replace hg := grew_trans hg hx; have hc := (bcell hg).1; clear hx; rcases hx1 with rfl | rfl)
      | (go_at_call 33; with_reducible refine (HRV.out _ (grew_trans g0 hg)).mono ?_; rintro e w2 ⟨rfl, hx⟩; replace hg := grew_trans hg hx; have hc := (bcell hg).1; clear hx)
      | (go_at_call 17; with_reducible refine (awake_any _).mono ?_; rintro e w6 ⟨rfl, hx6⟩))
    all_goals
      go_ret
      exact ⟨rfl, grew_trans (grew_trans g0 hg) hx6⟩
  | true =>
  cases hw : isWordM s.ops ws with
  | false =>
    rw [hv] at HRV
    rw [hw] at HWD
    clear hs hx HX
    go_enter Try.func6, Try.ntmps6
    go_wp2_with (first
      | (go_at_call 16; with_reducible refine (HLO.out _ (grew_trans g0 hg)).mono ?_; rintro e w1 ⟨x1, rfl, hx1, hx⟩; replace hg := grew_trans hg hx; have hc := (bcell hg).1; clear hx; rcases hx1 with rfl | rfl)
      | (go_at_call 33; with_reducible refine (HRV.out _ (grew_trans g0 hg)).mono ?_; rintro e w2 ⟨rfl, hx⟩; replace hg := grew_trans hg hx; have hc := (bcell hg).1; clear hx)
      | (go_at_call 34; with_reducible refine (HWD.out _ (grew_trans g0 hg)).mono ?_; rintro e w2 ⟨rfl, hx⟩; replace hg := grew_trans hg hx; have hc := (bcell hg).1; clear hx)
      | (go_at_call 17; with_reducible refine (awake_any _).mono ?_; rintro e w6 ⟨rfl, hx6⟩))
    all_goals
      go_ret
      exact ⟨rfl, grew_trans (grew_trans g0 hg) hx6⟩
  | true =>
    obtain ⟨⟨s1, s8, o1, o4⟩, _⟩ := valid_parts hv
    obtain ⟨c, hc8⟩ : ∃ c, x8.tmod s.st = c := ⟨_, rfl⟩
    have hcin : 0 ≤ c ∧ c < s.st := by
      rw [← hc8, Int.tmod_eq_emod_of_nonneg h8.1]
      exact ⟨Int.emod_nonneg _ (by omega), Int.emod_lt_of_pos _ (by omega)⟩
    have hc3 : inM s.st c = true := by unfold inM; simpa using hcin
    obtain ⟨f1, f2, f3, f4, f5, f6, f7, f8⟩ := turns_facts hv hc3 hw
    have hb1 := fun (y : World) (hy : Grew w y) => begun_any s c _ y (HS.grew hy)
    rw [f1, f3] at hb1
    have hb2 := fun (u : Value) (y : World) (hy : IsSpec y u (begunM s c)) => begun_any (begunM s c) c u y hy
    rw [f2, f4] at hb2
    have hr1 := fun (y : World) (hy : Grew w y) => runOf_any s c ws _ _ y (HS.grew hy) (HX.grew hy)
    rw [f5] at hr1
    have hr2 := fun (u : Value) (y : World) (hg : Grew w y) (hy : IsSpec y u (begunM s c)) => runOf_any (begunM s c) 0 ws u _ y hy (HX.grew hg)
    rw [f6, f7, f8] at hr2
    obtain ⟨T, hT⟩ : ∃ T, begunM s c = T := ⟨_, rfl⟩
    obtain ⟨to, hto⟩ : ∃ to, runTo s c ws = to := ⟨_, rfl⟩
    obtain ⟨L, hL⟩ : ∃ L, runL s c ws = L := ⟨_, rfl⟩
    obtain ⟨E, hE⟩ : ∃ E, exchM to c = E := ⟨_, rfl⟩
    rw [hT] at hb1 hb2 hr2
    rw [hto] at hr1 hr2
    rw [hL] at hr1 hr2
    rw [hE] at hr2
    have HB1 := hid hb1; have HB2 := hid hb2; have HR1 := hid hr1; have HR2 := hid hr2
    rw [hv] at HRV
    rw [hw] at HWD
    clear hb1 hb2 hr1 hr2 hT hto hL f1 f2 f3 f4 f5 f6 f7 f8 hs hx hv hw
    have hcase : (to = 0 ∧ E = c) ∨ (to ≠ 0 ∧ to = c ∧ E = 0) ∨ (to ≠ 0 ∧ to ≠ c ∧ E = to) := by
      rw [← hE]
      unfold exchM
      by_cases h0 : to = 0
      · exact .inl ⟨h0, by rw [if_pos h0]⟩
      · by_cases h1 : to = c
        · exact .inr (.inl ⟨h0, h1, by rw [if_neg h0, if_pos h1]⟩)
        · exact .inr (.inr ⟨h0, h1, by rw [if_neg h0, if_neg h1]⟩)
    clear hE
    have hfin : (to = 0 ∧ E = c) ∨ ((to == 0) = false ∧ to = c ∧ E = 0) ∨ ((to == 0) = false ∧ (to == c) = false ∧ E = to) := by
      rcases hcase with h | ⟨h1, h2, h3⟩ | ⟨h1, h2, h3⟩
      · exact .inl h
      · exact .inr (.inl ⟨by simpa using h1, h2, h3⟩)
      · exact .inr (.inr ⟨by simpa using h1, by simpa using h2, h3⟩)
    clear hcase
    rcases hfin with ⟨rfl, rfl⟩ | ⟨b1, rfl, rfl⟩ | ⟨b1, b2, rfl⟩
    all_goals
      go_enter Try.func6, Try.ntmps6
      go_wp2_with (first
        | (go_at_call 16; with_reducible refine (HLO.out _ (grew_trans g0 hg)).mono ?_; rintro e w1 ⟨x1, rfl, hx1, hx⟩; replace hg := grew_trans hg hx; have hc := (bcell hg).1; clear hx; rcases hx1 with rfl | rfl)
        | (go_at_call 33; with_reducible refine (HRV.out _ (grew_trans g0 hg)).mono ?_; rintro e w2 ⟨rfl, hx⟩; replace hg := grew_trans hg hx; have hc := (bcell hg).1; clear hx)
        | (go_at_call 34; with_reducible refine (HWD.out _ (grew_trans g0 hg)).mono ?_; rintro e w2 ⟨rfl, hx⟩; replace hg := grew_trans hg hx; have hc := (bcell hg).1; clear hx)
        | (go_at_call 17; with_reducible refine (awake_any _).mono ?_; rintro e w6 ⟨rfl, hx6⟩)
        | (go_at_call 18; with_reducible refine (HB1.out _ (grew_trans g0 hg)).mono ?_; rintro e w3 ⟨u3, rfl, hsp3, hx⟩; have HSP3 := hid hsp3; obtain ⟨a3, c3, d3, e3, rfl⟩ := isSpec_open' hsp3; clear hsp3; obtain ⟨W4, hW4, g4, l0, l1, l2, l3, hz4⟩ := box4 w3 (.int .i64 T.st) (.int .i64 T.ops) (.slice a3 T.next.length c3) (.slice d3 T.says.length e3) 24; replace hg := grew_trans (grew_trans hg hx) g4; have hc4 := (bcell hg).1; have hq4 := Nat.lt_of_lt_of_le hz hg.size; clear hx)
        | (go_at_call 18; with_reducible refine (HB2.out _ _ (HSP3.out.grew g4)).mono ?_; rintro e w5 ⟨u5, rfl, hsp5, hx⟩; have HSP5 := hid hsp5; obtain ⟨a5, c5, d5, e5, rfl⟩ := isSpec_open' hsp5; clear hsp5; obtain ⟨W6, hW6, g6, m0, m1, m2, m3, hz6⟩ := box4 w5 (.int .i64 s.st) (.int .i64 s.ops) (.slice a5 s.next.length c5) (.slice d5 s.says.length e5) 24; have hg46 := grew_trans hx g6; replace hg := grew_trans hg hg46; have hc6 := (bcell hg46).1; have hq6 := Nat.lt_of_lt_of_le hz4 hg46.size; have hq60 := Nat.lt_of_lt_of_le hz hg.size; clear hx)
        | (go_at_call 28; with_reducible refine (HR1.out _ (grew_trans g0 hg)).mono ?_; rintro e w7 ⟨u7, rfl, hu7, hx7⟩; have HU7 := hid hu7; obtain ⟨a7, c7, rfl⟩ := ints_shape hu7; clear hu7; have hc7 := (bcell hx7).1)
        | (go_at_call 28; with_reducible refine (HR2.out _ _ (grew_trans g0 (grew_trans hg hx7)) (HSP3.out.grew (grew_trans g4 (grew_trans hg46 hx7)))).mono ?_; rintro e w8 ⟨u8, rfl, hu8, hx8⟩; have HU8 := hid hu8; obtain ⟨a8, c8, rfl⟩ := ints_shape hu8; clear hu8; have hx68 := grew_trans hx7 hx8; have hc8 := (bcell hx68).1)
        | (go_at_call 20; with_reducible refine (equal_any s s _ _ _ (HSP5.out.grew (grew_trans g6 hx68)) (HS.grew (grew_trans g0 (grew_trans hg hx68)))).mono ?_; rw [eqSpec_self]; rintro e w9 ⟨rfl, hx9⟩)
        | (go_at_call 25; with_reducible refine (sameInts_same _ _ L _ (HU7.out.grew (grew_trans hx8 hx9)) (HU8.out.grew hx9)).mono ?_; rintro e w10 ⟨rfl, hx10⟩))
    all_goals
      go_ret
      first | exact ⟨rfl, grew_trans (grew_trans g0 hg) (grew_trans hx68 (grew_trans hx9 (grew_trans hx10 hx6)))⟩ | exact ⟨rfl, grew_trans (grew_trans g0 hg) hx6⟩
end Go.Proofs.Ytnebpcpihldllaa
