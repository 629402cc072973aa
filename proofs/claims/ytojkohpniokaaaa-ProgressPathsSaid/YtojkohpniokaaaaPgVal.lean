/- Walk: Valid, of the program (51). -/
import Derived.Test.YtojkohpniokaaaaPgG
namespace Go.Proofs.Ytojkohpniokaaaa
open Go.RowKit Go.Lin Go.Lin.Pg Go.Maps

theorem box4v (w : World) (m : Mv) : ∃ W1, w.alloc (.cells #[.int .i64 m.1, .int .i64 m.2.1, .int .i64 m.2.2.1, .bool m.2.2.2] 50) = W1 ∧ Grew w W1 ∧ MvAt W1 w.heap.size 0 m :=
  ⟨_, rfl, grew_alloc (grew_refl w) _, ⟨by simp, by simp, by simp, by simp, by simp⟩⟩

set_option maxHeartbeats 8000000 in
set_option maxRecDepth 20000 in
theorem valid51_any (v : Value) (g : Gr) (w : World) (hn : -9223372036854775808 ≤ g.n ∧ g.n ≤ 9223372036854775807) (hv : IsGr w v g) : Calls Try.prog 51 #[v] w fun e w' => e = .returned (.bool (valid g)) ∧ Grew w w' := by
  obtain ⟨N, ps⟩ := g
  obtain ⟨s, rfl, va, vc, rfl, hm, hdd⟩ := hv
  simp only at hn hm hdd ⊢
  obtain ⟨k, hk⟩ : ∃ k, IntKind.i64.wrap (N - 1) = k := ⟨_, rfl⟩
  have hkb : -9223372036854775808 ≤ k ∧ k ≤ 9223372036854775807 := by rw [← hk, IntKind.wrap_i64]; omega
  obtain ⟨m, hmm⟩ : ∃ m, ps.length = m := ⟨_, rfl⟩
  obtain ⟨W0, hW0, g0, k0, k1, hz⟩ := box2 w (.int .i64 N) (.slice va m vc) 24
  obtain ⟨R, hR⟩ : ∃ R, valid ⟨N, ps⟩ = R := ⟨_, rfl⟩
  have HR := hid (show R = (mvsOk (k + 1) (ps.take 0) (ps.drop 0) && (decide (1 ≤ N) && decide (N ≤ 8)) && decide (m ≤ 20)) from by
    rw [← hR]; unfold valid; simp only [hmm, List.take_zero, List.drop_zero]
    by_cases h1 : 1 ≤ N
    · have : k + 1 = N := by rw [← hk, IntWalk.i64_in _ (by omega)]; omega
      rw [this]
    · simp [h1])
  rw [hmm] at hm ⊢
  rw [hR]
  have HM := hid hmm
  have HDD := hid hdd
  have HKW := hid hk
  have hg := g0
  have hmk := FMap.made W0 Try.prog 50 4 encM Lit.bool false
  have HMAP0 := hid (hmk.congr (S' := fun x => (ps.take 0).contains x) (fun x => by simp))
  have hrm := @run_makeMap Try.prog
  clear hmm hdd hR hmk hk
  go_enter Try.func51, Try.ntmps51
  go_wp2
  go_loopg [2, 6, 12] m (fun gk res bx i wr => ∃ j : Nat, j ≤ m ∧ i = .int .i64 j ∧ gk = m - j ∧ Hid (R = (mvsOk (k + 1) (ps.take j) (ps.drop j) && (decide (1 ≤ N) && decide (N ≤ 8)) && decide (m ≤ 20))) ∧ Hid (FMap wr Try.prog 50 4 W0.heap.size j encM Lit.bool false (fun x => (ps.take j).contains x)) ∧ Hid (Below W0.heap.size W0 wr))
  case atStart => exact ⟨0, by omega, rfl, rfl, HR, HMAP0, hid (grew_alloc (grew_refl _) _)⟩
  case round =>
    obtain ⟨j, hj, rfl, hgk, HRR, HMAP, HG⟩ := hrel
    have HK := hid hgk; clear hgk
    rename World => wr
    have kw0 := (HG.out.cell (p := ⟨w.heap.size, 0, none⟩) hz).trans k0
    have kw1 := (HG.out.cell (p := ⟨w.heap.size, 1, none⟩) hz).trans k1
    have hzw := Nat.lt_of_lt_of_le hz HG.out.size
    by_cases hlt : j < m
    · obtain ⟨x, hx⟩ : ∃ x, ps[j]? = some x := ⟨_, List.getElem?_eq_getElem (by rw [HM.out]; exact hlt)⟩
      obtain ⟨bb, off, rfl, hpa⟩ := HDD.out j x hx
      have hpa' := (hpa.grew hpa.lt g0)
      have hpa2 := (hpa'.grew hpa'.lt HG.out)
      have c0 := hpa2.c0
      have c1 := hpa2.c1
      have c2 := hpa2.c2
      have c3 := hpa2.c3
      have hlt2 := hpa2.lt
      have hsucc := mvsOk_drop (n := k + 1) (s := ps.take j) hx
      rw [← take_add_getM hx] at hsucc
      have HTK := hid (take_add_getM hx)
      obtain ⟨W1, hW1, g1, hb1⟩ := box4v wr x
      have l0 := hb1.c0
      have l1 := hb1.c1
      have l2 := hb1.c2
      have l3 := hb1.c3
      have hz1 := hb1.lt
      obtain ⟨x1, x2, x3, x4⟩ := x
      simp only [Nat.zero_add] at c0 c1 c2 c3 l0 l1 l2 l3 hW1
      have hg1 := HG.out.trans (g1.mono (by have := HG.out.size; exact this))
      have HG1 := hid hg1
      have kx0 := (g1.cell (p := ⟨w.heap.size, 0, none⟩) hzw).trans kw0
      have kx1 := (g1.cell (p := ⟨w.heap.size, 1, none⟩) hzw).trans kw1
      have hzx := Nat.lt_of_lt_of_le hzw g1.size
      obtain ⟨p1, hp1⟩ : ∃ q, (decide (0 ≤ x1) && decide (x1 ≤ k)) = q := ⟨_, rfl⟩
      obtain ⟨p2, hp2⟩ : ∃ q, (decide (0 ≤ x3) && decide (x3 ≤ k)) = q := ⟨_, rfl⟩
      obtain ⟨p3, hp3⟩ : ∃ q, (decide (0 ≤ x2) && decide (x2 ≤ 2)) = q := ⟨_, rfl⟩
      have hpo : mvOk (k + 1) (x1, x2, x3, x4) = (p1 && p2 && p3) := by
        unfold mvOk isPl isTh; simp only [fr, tg, th]; rw [show k + 1 - 1 = k by omega, hp1, hp2, hp3]
      rw [hpo] at hsucc
      clear hpo
      have HP1 := hid (fun (W : World) (hW : W.cell? ⟨w.heap.size, 0, none⟩ = some (.int .i64 N)) => place84_any w.heap.size N x1 k W HKW.out hW)
      have HP2 := hid (fun (W : World) (hW : W.cell? ⟨w.heap.size, 0, none⟩ = some (.int .i64 N)) => place84_any w.heap.size N x3 k W HKW.out hW)
      have HP3 := hid (fun (W : World) => between_any 0 x2 2 W)
      rw [hp1] at HP1; rw [hp2] at HP2; rw [hp3] at HP3
      obtain ⟨q, hq⟩ : ∃ q, (ps.take j).contains (x1, x2, x3, x4) = q := ⟨_, rfl⟩
      rw [hq] at hsucc
      have HSC := hid hsucc
      have HQ := hid hq; have HPP1 := hid hp1; have HPP2 := hid hp2; have HPP3 := hid hp3
      clear hsucc hx hpa hpa' hpa2 hq hp1 hp2 hp3 hb1
      have HM1 := hid (HMAP.out.grew g1)
      have HMX := hid (fun (h1 : p1 = true) (h2 : p2 = true) (h3 : p3 = true) => (by
        have e1 := HPP1.out; have e2 := HPP2.out; have e3 := HPP3.out
        rw [h1] at e1; rw [h2] at e2; rw [h3] at e3
        simp only [Bool.and_eq_true, decide_eq_true_eq] at e1 e2 e3
        exact key50 (x1, x2, x3, x4) (WalkArith.wf_i64 (by omega)) (WalkArith.wf_i64 (by simp only; omega)) (WalkArith.wf_i64 (by simp only; omega)) : ∃ l, keyOf Try.prog 50 (encM (x1, x2, x3, x4)) = some l))
      have HBAD := hid (fun (h : (p1 && p2 && p3) = false ∨ q = true) => (by
        rw [HRR.out, HSC.out]
        rcases h with h | h
        · rw [h]; simp
        · rw [h]; simp : R = false))
      have hg2 := grew_refl W1
      cases p1 <;> cases p2 <;> cases p3
      all_goals (
        first
        | (have HRN := hid (HBAD.out (.inl rfl))
           clear HBAD HMX
           go_wp2_with (first
             | (go_at_call 84; (with_reducible refine (HP1.out _ (by first | assumption | (rw [hc _ _ hzx]; assumption))).mono ?_); rintro e w1 ⟨rfl, hx⟩; replace hg2 := grew_trans hg2 hx; have hc := (bcell hg2).1; clear hx)
             | (go_at_call 84; (with_reducible refine (HP2.out _ (by first | assumption | (rw [hc _ _ hzx]; assumption))).mono ?_); rintro e w1 ⟨rfl, hx⟩; replace hg2 := grew_trans hg2 hx; replace hc := (bcell hg2).1; clear hx)
             | (go_at_call 63; (with_reducible refine (HP3.out _).mono ?_); rintro e w1 ⟨rfl, hx⟩; replace hg2 := grew_trans hg2 hx; replace hc := (bcell hg2).1; clear hx))
           go_ret
           exact ⟨by rw [HRN.out]; rfl, grew_trans g0 (HG1.out.trans (hg2.mono (by have := HG1.out.size; omega)) |>.mono (by omega))⟩)
        | skip)
      obtain ⟨kl, hkl⟩ := HMX.out rfl rfl rfl
      have HKL := hid hkl
      clear hkl HMX
      cases q
      · clear HBAD
        go_wp2_with (first
          | (go_at_call 84; (with_reducible refine (HP1.out _ (by first | assumption | (rw [hc _ _ hzx]; assumption))).mono ?_); rintro e w1 ⟨rfl, hx⟩; replace hg2 := grew_trans hg2 hx; have hc := (bcell hg2).1; clear hx)
          | (go_at_call 84; (with_reducible refine (HP2.out _ (by first | assumption | (rw [hc _ _ hzx]; assumption))).mono ?_); rintro e w1 ⟨rfl, hx⟩; replace hg2 := grew_trans hg2 hx; replace hc := (bcell hg2).1; clear hx)
          | (go_at_call 63; (with_reducible refine (HP3.out _).mono ?_); rintro e w1 ⟨rfl, hx⟩; replace hg2 := grew_trans hg2 hx; replace hc := (bcell hg2).1; have hlk := (HM1.out.grew hg2).lookup_bool keyed50 Try.underlying96 Try.underlying4 (zero4 _) HKL.out; rw [HQ.out] at hlk; simp only [encM] at hlk; have HM2 := hid (HM1.out.grew hg2); have HG2 := hid (HG1.out.trans (hg2.mono (by have := HG1.out.size; exact this))); clear hx)
          | (refine wpList_update_f rfl _ _ _ 96 (.inl rfl) keyed50 Try.underlying96 rfl HM2.out (by unfold maxLen; omega) (x1, x2, x3, x4) rfl HKL.out (fun u h => encM_inj _ _ h) (.bool true) rfl (e := true) (plainElem_bool Try.underlying4 true) (fun x => (ps.take (j + 1)).contains x) (by rw [HTK.out]; simp) (fun u hu => by
              rw [HTK.out, List.contains_eq_any_beq, List.contains_eq_any_beq, List.any_append]
              have : (u == (x1, x2, x3, x4)) = false := by simpa using hu
              simp [this]) ?_; intro w2 hmap2 hgr2; have HMAP2 := hid hmap2; have HGR2 := hid hgr2; clear hmap2 hgr2))
        go_roundg (m - (j + 1))
        case measure => have := HK.out; omega
        case rel => exact ⟨j + 1, by omega, by go_num, rfl, hid (by rw [HRR.out, HSC.out]; rfl), HMAP2, hid (HG2.out.grown HGR2.out HG2.out.size (fun k e => by cases e; exact Nat.le_refl _))⟩
      · have HRN := hid (HBAD.out (.inr rfl))
        clear HBAD
        go_wp2_with (first
          | (go_at_call 84; (with_reducible refine (HP1.out _ (by first | assumption | (rw [hc _ _ hzx]; assumption))).mono ?_); rintro e w1 ⟨rfl, hx⟩; replace hg2 := grew_trans hg2 hx; have hc := (bcell hg2).1; clear hx)
          | (go_at_call 84; (with_reducible refine (HP2.out _ (by first | assumption | (rw [hc _ _ hzx]; assumption))).mono ?_); rintro e w1 ⟨rfl, hx⟩; replace hg2 := grew_trans hg2 hx; replace hc := (bcell hg2).1; clear hx)
          | (go_at_call 63; (with_reducible refine (HP3.out _).mono ?_); rintro e w1 ⟨rfl, hx⟩; replace hg2 := grew_trans hg2 hx; replace hc := (bcell hg2).1; have hlk := (HM1.out.grew hg2).lookup_bool keyed50 Try.underlying96 Try.underlying4 (zero4 _) HKL.out; rw [HQ.out] at hlk; simp only [encM] at hlk; clear hx))
        go_ret
        exact ⟨by rw [HRN.out]; rfl, grew_trans g0 (HG1.out.trans (hg2.mono (by have := HG1.out.size; omega)) |>.mono (by omega))⟩
    · obtain rfl : m = j := by omega
      have hrn : R = ((decide (1 ≤ N) && decide (N ≤ 8)) && decide (m ≤ 20)) := by
        rw [HRR.out, List.drop_of_length_le (by rw [HM.out]; exact Nat.le_refl _)]; simp [mvsOk]
      have hb := between_any 1 N 8 wr
      obtain ⟨b8, hb8⟩ : ∃ b, (decide (1 ≤ N) && decide (N ≤ 8)) = b := ⟨_, rfl⟩
      obtain ⟨b20, hb20⟩ : ∃ b, decide (m ≤ 20) = b := ⟨_, rfl⟩
      have hb20' : decide ((m : Int) ≤ 20) = b20 := by rw [← hb20]; exact decide_eq_decide.2 (by omega)
      rw [hb8] at hb hrn; rw [hb20] at hrn
      have HB := hid hb; have HRN := hid hrn
      have hmi : ¬ (m : Int) < (m : Int) := by omega
      have HGW := HG
      clear hrn hb hb8
      cases b8 <;> cases b20
      all_goals (
        go_wp2_with (go_at_call 63; (with_reducible refine HB.out.mono ?_); rintro e w1 ⟨rfl, hx⟩; have kv1 := (hx.cell (p := ⟨w.heap.size, 1, none⟩) hzw).trans kw1; have kv0 := (hx.cell (p := ⟨w.heap.size, 0, none⟩) hzw).trans kw0; have hzv := Nat.lt_of_lt_of_le hzw hx.size; have HX := hid hx; clear hx)
        go_ret
        exact ⟨by rw [HRN.out]; rfl, grew_trans g0 (HG.out.trans (HX.out.mono HG.out.size))⟩)
end Go.Proofs.Ytojkohpniokaaaa
