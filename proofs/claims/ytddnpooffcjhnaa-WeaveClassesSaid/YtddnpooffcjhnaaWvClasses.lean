/- Class of the reference (19); the law WeaveClasses: the first words of the class of a word. -/
import Derived.Test.YtddnpooffcjhnaaWvRClass
import Derived.Test.YtddnpooffcjhnaaWvJ
namespace Go.Proofs.Ytddnpooffcjhnaa
open Go.RowKit Go.Lin Go.Lin.Wv

set_option maxHeartbeats 4000000 in
set_option maxRecDepth 20000 in
theorem rClass19_any (v : Value) (L : Lt) (uv : Value) (x : List Int) (most : Int) (w : World) (hv : IsLt w v L) (hx : IsWd w uv x) :
    Calls Try.prog 19 #[v, uv, .int .i64 most] w fun e w' => GivesL e w w' (classA L x most) := by
  have HV := hid hv
  obtain ⟨s, hveq, -⟩ := id hv
  subst hveq
  obtain ⟨ua, uc, rfl⟩ := isWd_slice hx
  obtain ⟨W0, hW0, g0, k0, k1, hz⟩ := box2 w (.int .i64 L.n) s 24
  have hask := asked_any _ L _ (.slice none 0 0) x [] W0 (hv.grew g0) (hx.grew g0).ints (Reads.nil _ _ _ _ _)
  rw [wrong_nil] at hask
  obtain ⟨r, hr⟩ : ∃ r, wrong L [x] = r := ⟨_, rfl⟩
  rw [hr] at hask
  have HR := hid hr
  have HX := hid hx
  have HASK := hid hask
  have hg := grew_refl W0
  clear hask hx hv
  by_cases hr0 : r = 0
  · subst hr0
    obtain ⟨hv1, hw1⟩ := wrong_one HR.out
    obtain ⟨⟨h1, h6⟩, -⟩ := valid_iff hv1
    obtain ⟨N, hN⟩ : ∃ N : Nat, L.n = N := ⟨L.n.toNat, by omega⟩
    have hN6 : N ≤ 6 := by omega
    obtain ⟨hl1, hlw1⟩ := isW_iff hN hw1
    by_cases hmost : 0 ≤ most ∧ most ≤ 1000
    · obtain ⟨t, rfl⟩ : ∃ t : Nat, most = t := ⟨most.toNat, by omega⟩
      have hca : classA L x t = ((classM (dep L) N x).take t, 0) := by unfold classA; rw [hr, if_pos rfl, if_pos hmost, hN, Int.toNat_natCast, Int.toNat_natCast]
      rw [hca]
      have H65 := hid (fun (W : World) (hW : Grew w W) => rClass65_any L N hN hN6 x.length x _ _ t W rfl hl1 (by omega) hlw1 (HV.out.grew hW) (HX.out.grew hW))
      have ht0 : ¬ (t : Int) < 0 := by omega
      have ht1 : ¬ (1000 : Int) < (t : Int) := by omega
      have ht2 : decide ((1000 : Int) < (t : Int)) = false := by rw [decide_eq_false_iff_not]; exact ht1
      have ht3 : decide ((t : Int) < 0) = false := by rw [decide_eq_false_iff_not]; exact ht0
      clear hN hv1 hw1 h1 h6 hca hr hmost hl1 hlw1
      go_enter Try.func19, Try.ntmps19
      go_wp2_with (first
        | (go_at_call 64; (with_reducible refine HASK.out.mono ?_); rintro e w1 ⟨rfl, hx⟩; replace hg := grew_trans hg hx; have hc := (bcell hg).1; clear hx)
        | (go_at_call 65; (with_reducible refine (H65.out _ (grew_trans g0 hg)).mono ?_); rintro e w2 ⟨u, vs, rfl, hl2, hx⟩; replace hg := grew_trans hg hx; have HL2 := hid hl2; clear hx hl2))
      go_ret2
      exact ⟨u, rfl, HL2.out.ls, grew_trans g0 hg⟩
    · have hca : classA L x most = ([], 2) := by unfold classA; rw [hr, if_pos rfl, if_neg hmost]
      rw [hca]
      clear hN hv1 hw1 h1 h6 hca hr hl1 hlw1
      by_cases ht0 : most < 0
      · have ht3 : decide (most < 0) = true := by rw [decide_eq_true_iff]; exact ht0
        clear hmost
        go_enter Try.func19, Try.ntmps19
        go_wp2_with (go_at_call 64; (with_reducible refine HASK.out.mono ?_); rintro e w1 ⟨rfl, hx⟩; replace hg := grew_trans hg hx; have hc := (bcell hg).1; clear hx)
        go_ret2
        exact ⟨_, rfl, ls_nil _, grew_trans g0 hg⟩
      · have ht1 : 1000 < most := by omega
        have ht3 : decide (most < 0) = false := by rw [decide_eq_false_iff_not]; exact ht0
        have ht2 : decide (1000 < most) = true := by rw [decide_eq_true_iff]; exact ht1
        clear hmost
        go_enter Try.func19, Try.ntmps19
        go_wp2_with (go_at_call 64; (with_reducible refine HASK.out.mono ?_); rintro e w1 ⟨rfl, hx⟩; replace hg := grew_trans hg hx; have hc := (bcell hg).1; clear hx)
        go_ret2
        exact ⟨_, rfl, ls_nil _, grew_trans g0 hg⟩
  · have hca : classA L x most = ([], r) := by unfold classA; rw [hr, if_neg hr0]
    rw [hca]
    have hne : (r != 0) = true := by simpa using hr0
    clear hr0 hr hca
    go_enter Try.func19, Try.ntmps19
    go_wp2_with (go_at_call 64; (with_reducible refine HASK.out.mono ?_); rintro e w1 ⟨rfl, hx⟩; replace hg := grew_trans hg hx; have hc := (bcell hg).1; clear hx)
    go_ret2
    exact ⟨_, rfl, ls_nil _, grew_trans g0 hg⟩

theorem same20_eq (a b : Value) (l : List (List Int)) (W : World) (ha : IsLs W a l) (hb : IsLs W b l) : Calls Try.prog 20 #[a, b] W fun e w' => e = .returned (.bool true) ∧ Grew W w' :=
  (same20_any a b l l W ha hb).mono fun e w' ⟨h1, h2⟩ => ⟨by rw [h1, beq_self_eq_true], h2⟩

set_option maxHeartbeats 8000000 in
set_option maxRecDepth 20000 in
theorem weaveClasses_law (L : Lt) (x : List Int) (most : Int) (v uv : Value) (w : World) (hn : L.n ≤ 9223372036854775807) (hv : IsLt w v L) (hx : IsWd w uv x) :
    Calls Try.prog 3 #[v, uv, .int .i64 most] w fun e w' => e = .returned (.bool true) ∧ Grew w w' := by
  obtain ⟨ua, uc, rfl⟩ := isWd_slice hx
  have HA := hid (fun (W : World) => awake_any W)
  have H18 := hid (fun (W : World) (hW : Grew w W) => class18_any v L _ x most W hn (hv.grew hW) (hx.grew hW))
  have H19 := hid (fun (W : World) (hW : Grew w W) => rClass19_any v L _ x most W (hv.grew hW) (hx.grew hW))
  obtain ⟨⟨Cl, Ce⟩, hJ⟩ : ∃ J, classA L x most = J := ⟨_, rfl⟩
  rw [hJ] at H18 H19; clear hJ
  have HV := hid hv
  obtain ⟨s, rfl, -⟩ := hv
  obtain ⟨W0, hW0, g0, k0, k1, hz⟩ := box2 w (.int .i64 L.n) s 24
  have hl := long_any _ L _ [x] (W0.alloc (.cells #[.slice ua x.length uc] 25)) ((HV.out.grew g0).grew (grew_alloc (grew_refl _) _)) (rows_one (hx.grew g0).ints 25)
  obtain ⟨q, hq⟩ : ∃ q, longM L [x] = q := ⟨_, rfl⟩
  rw [hq] at hl
  have HL := hid hl
  have hg := grew_refl W0
  have hd1 : decide ((100 : Int) < most) = true ∨ decide ((100 : Int) < most) = false := by cases decide ((100 : Int) < most) <;> simp
  have hd2 : decide (most ≤ 1000) = true ∨ decide (most ≤ 1000) = false := by cases decide (most ≤ 1000) <;> simp
  clear hq hl hx
  rcases hd1 with hd1 | hd1 <;> rcases hd2 with hd2 | hd2 <;> cases q
  all_goals first
   | (exfalso; have h1 := of_decide_eq_false hd1; have h2 := of_decide_eq_false hd2; omega)
   | (
    try have ht1 := of_decide_eq_true hd1
    try have ht1 := of_decide_eq_false hd1
    try have ht2 := of_decide_eq_true hd2
    try have ht2 := of_decide_eq_false hd2
    go_enter Try.func3, Try.ntmps3
    go_wp2_with (first
      | (go_at_call 16; (with_reducible refine HL.out.mono ?_); rintro e w1 ⟨rfl, hx⟩; replace hg := grew_trans (grew_alloc (grew_refl W0) _) hx; have hc := (bcell hg).1; clear hx)
      | (go_at_call 17; (with_reducible refine (HA.out _).mono ?_); rintro e w9 ⟨rfl, hx⟩; replace hg := grew_trans hg hx; replace hc := (bcell hg).1; clear hx)
      | (go_at_call 18; (with_reducible refine (H18.out _ (grew_trans g0 hg)).mono ?_); rintro e w2 ⟨u2, rfl, hu2, hx⟩; replace hg := grew_trans hg hx; replace hc := (bcell hg).1; have HU := hid hu2; clear hx hu2)
      | (go_at_call 19; (with_reducible refine (H19.out _ (grew_trans g0 hg)).mono ?_); rintro e w3 ⟨u3, rfl, hu3, hx⟩; replace hg := grew_trans hg hx; replace hc := (bcell hg).1; have HS := hid (same20_eq u2 u3 Cl w3 (HU.out.grew hx) hu3); clear hx hu3 HU)
      | (go_at_call 20; (with_reducible refine HS.out.mono ?_); rintro e w4 ⟨rfl, hx⟩; replace hg := grew_trans hg hx; replace hc := (bcell hg).1; clear hx HS))
    go_ret
    exact ⟨rfl, grew_trans g0 hg⟩)
end Go.Proofs.Ytddnpooffcjhnaa
