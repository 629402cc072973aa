/- Exchanged, of the program (39): what it returns stands in a block of its own. -/
import Derived.Test.YtddnpooffcjhnaaWvExchA
namespace Go.Proofs.Ytddnpooffcjhnaa
open Go.RowKit Go.Lin Go.Lin.Wv

set_option maxHeartbeats 4000000 in
set_option maxRecDepth 20000 in
theorem exchanged39_seg (v : Value) (L : Lt) (uv : Value) (x : List Int) (i : Int) (w : World) (hn : L.n ≤ 9223372036854775807) (hv : IsLt w v L) (hx : IsWd w uv x) :
    Calls Try.prog 39 #[v, uv, .int .i64 i] w fun e w' => ∃ u, e = .returned (.tuple #[u, .int .i64 (exchangedM L x i).2]) ∧ Seg w' w.heap.size 3 1 u (exchangedM L x i).1.length ((exchangedM L x i).1.map (.int .i64)) ∧ Grew w w' := by
  have HV := hid hv
  obtain ⟨s, rfl, -⟩ := hv
  obtain ⟨ua, uc, rfl⟩ := isWd_slice hx
  obtain ⟨W0, hW0, g0, k0, k1, hz⟩ := box2 w (.int .i64 L.n) s 24
  obtain ⟨W1, hW1⟩ : ∃ W1, W0.alloc (.cells #[.slice ua x.length uc] 25) = W1 := ⟨_, rfl⟩
  have g1 : Grew W0 W1 := by rw [← hW1]; exact grew_alloc (grew_refl _) _
  have g01 := grew_trans g0 g1
  obtain ⟨m, hm⟩ : ∃ m, x.length = m := ⟨_, rfl⟩
  have HM := hid hm
  have HXM := hid (show IsWd w (.slice ua m uc) x by rw [← hm]; exact hx)
  obtain ⟨r, hr⟩ : ∃ r, wrong L [x] = r := ⟨_, rfl⟩
  have HG01 := hid g01
  by_cases hr0 : r = 0
  · subst hr0
    obtain ⟨hv1, hw1⟩ := wrong_one hr
    have hok := newLoom_ok _ L _ [x] W1 hn (HV.out.grew g01) (by rw [← hW1]; exact rows_one (Reads.grew hx.ints g0) 25) hr
    have HOK := hid hok
    have HW1 := hid hw1
    have hem : exchangedM L x i = if canM (dep L) x i then (swapM x i.toNat, 0) else ([], 2) := by unfold exchangedM; rw [if_pos hr]
    have hl10 : x.length ≤ 10 := by unfold isW at hw1; simp at hw1; exact hw1.1
    have HE10 := hid hl10
    obtain ⟨c, hcan⟩ : ∃ c, canM (dep L) x i = c := ⟨_, rfl⟩
    rw [hcan] at hem
    have HEM := hid hem; have HC := hid hcan
    rw [hm] at hW1 ⊢
    clear hr hx hm hok hv1 hw1 hem hcan hl10
    cases c
    all_goals
      go_enter Try.func39, Try.ntmps39
      go_wp2_with (first
        | (go_at_call 60; (with_reducible refine HOK.out.mono ?_); rintro e w1 ⟨B, N, hN, hN1, hN6, rfl, hB, hL, hg1⟩; have HL := hid hL; have HN6 := hid hN6; have HG1 := hid (grew_trans HG01.out hg1); obtain ⟨hl1, hlw1⟩ := isW_iff hN HW1.out; have HLW := hid hlw1; clear hN hL hg1 hB hN1 hN6 hl1 hlw1)
        | (go_at_call 80; (with_reducible refine (clone_ints _ m x _ HM.out (by have := HE10.out; have := HM.out; omega) (HXM.out.grew HG1.out).ints).mono ?_); rintro e w2 ⟨u, rfl, hs2, hg2⟩; have HS2 := hid hs2; have HG2 := hid hg2; clear hs2 hg2)
        | (go_at_call 81; (with_reducible refine (exchange81_any (D := dep L) B N _ u x m i _ HM.out HN6.out (by have := HE10.out; have := HM.out; omega) HLW.out (HL.out.grew HG2.out) HG2.out.size HS2.out).mono ?_); rw [HC.out]; rintro e w3 ⟨rfl, hs3, hb3⟩; have HS3 := hid hs3; have HG3 := hid (HG2.out.trans hb3); clear hs3 hb3))
      go_ret2
    · exact ⟨_, by rw [HEM.out]; rfl, by rw [HEM.out]; exact Seg.nil _ _ _ _, grew_trans HG1.out HG3.out⟩
    · exact ⟨_, by rw [HEM.out]; rfl, by rw [HEM.out]; have h3 := HS3.out; rw [exM_yes HC.out] at h3; exact (show (swapM x i.toNat).length = m from (swapM_length _ _).trans HM.out) ▸ h3.mono HG1.out.size, grew_trans HG1.out HG3.out⟩
  · have hbad := newLoom_bad _ L _ [x] W1 hn (HV.out.grew g01) (by rw [← hW1]; exact rows_one (Reads.grew hx.ints g0) 25) (by rw [hr]; exact hr0)
    rw [hr] at hbad
    have hne : (r != 0) = true := by simpa using hr0
    have HEM := hid (show exchangedM L x i = ([], r) by unfold exchangedM; rw [hr, if_neg hr0])
    have HB := hid hbad
    rw [hm] at hW1 ⊢
    clear hr hx hm hbad hr0
    go_enter Try.func39, Try.ntmps39
    go_wp2_with (go_at_call 60; (with_reducible refine HB.out.mono ?_); rintro e w1 ⟨rfl, hg1⟩; have HG1 := hid (grew_trans HG01.out hg1); clear hg1)
    go_ret2
    exact ⟨_, by rw [HEM.out]; rfl, by rw [HEM.out]; exact Seg.nil _ _ _ _, HG1.out⟩


end Go.Proofs.Ytddnpooffcjhnaa
