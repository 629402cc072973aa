/- The law ProgressNames (7). Printed by gen_pgnames.py. -/
import Derived.Test.YtojkohpniokaaaaPgNamesP
namespace Go.Proofs.Ytojkohpniokaaaa
open Go Go.RowKit Go.Lin Go.Lin.Pg

theorem mvs_shape {w : World} {v : Value} {ms : List Mv} (h : IsMvs w v ms) : ∃ a n c, v = .slice a n c := let ⟨a, c, e, _⟩ := h; ⟨a, _, c, e⟩
theorem isGr_mk {w : World} {n : Int} {s : Value} {ms : List Mv} (h : IsMvs w s ms) : IsGr w (.agg #[.int .i64 n, s]) ⟨n, ms⟩ := ⟨s, rfl, h⟩
theorem isTh_mod (x : Int) : isTh (x % 3) = true := by unfold isTh; simp; omega

set_option maxHeartbeats 8000000 in
set_option maxRecDepth 20000 in
theorem progressNames_law (g : Gr) (c0 t0 a0 b0 : Int) (v : Value) (w : World) (hn : -9223372036854775808 ≤ g.n ∧ g.n ≤ 9223372036854775807) (hc0 : 0 ≤ c0 ∧ c0 ≤ 255) (ht0 : 0 ≤ t0 ∧ t0 ≤ 255) (ha0 : 0 ≤ a0 ∧ a0 ≤ 255) (hb0 : 0 ≤ b0 ∧ b0 ≤ 255) (hv : IsGr w v g) :
    Calls Try.prog 7 #[v, .int .u8 c0, .int .u8 t0, .int .u8 a0, .int .u8 b0] w fun e w' => e = .returned (.bool true) ∧ Grew w w' := by
  have HV := hid hv
  obtain ⟨s, rfl, hmv0⟩ := hv
  obtain ⟨gl, hgl⟩ : ∃ gl, g.ms.length = gl := ⟨_, rfl⟩
  obtain ⟨sa, sc, rfl, ⟨hgl1, hgl2⟩, hmvs0⟩ := hmv0
  rw [hgl] at HV hgl1 hgl2 ⊢
  have HGL := hid hgl
  have HMVS := hid hmvs0
  clear hmvs0 hgl
  obtain ⟨w0, hw0, g0, cp0, cq0, hz0⟩ := box2 w (.int .i64 g.n) (.slice sa gl sc) 24
  have HG0 := hid g0
  have HAW := hid (fun (W : World) (_ : Grew w W) => awake17_any W)
  have HLO := hid (fun (W : World) (h : Grew w W) => long15_any _ g W (HV.out.grew h))
  have HVA := hid (fun (W : World) (h : Grew w W) => rValid16_any _ g W (HV.out.grew h))
  obtain ⟨lo, hlo⟩ : ∃ b, decide ((g.ms.length : Int) > 100) = b := ⟨_, rfl⟩
  obtain ⟨vb, hvb⟩ : ∃ b, valid g = b := ⟨_, rfl⟩
  rw [hlo] at HLO
  rw [hvb] at HVA
  have HVB := hid hvb
  clear hlo hvb
  cases lo with
  | true =>
    go_enter Try.func7, Try.ntmps7
    go_wp2_with (first
      | (go_at_call 15; (with_reducible refine (HLO.out  _ HG0.out).mono ?_); rintro e w1 ⟨rfl, hx⟩; have cp1 := (hx.cell (p := ⟨w.heap.size, 0, none⟩) hz0).trans cp0; have cq1 := (hx.cell (p := ⟨w.heap.size, 1, none⟩) hz0).trans cq0; have hz1 := Nat.lt_of_lt_of_le hz0 hx.size; have HG1 := hid (grew_trans HG0.out hx); clear hx)
      | (go_at_call 17; (with_reducible refine (HAW.out  _ HG1.out).mono ?_); rintro e w2 ⟨rfl, hx⟩; have cp2 := (hx.cell (p := ⟨w.heap.size, 0, none⟩) hz1).trans cp1; have cq2 := (hx.cell (p := ⟨w.heap.size, 1, none⟩) hz1).trans cq1; have hz2 := Nat.lt_of_lt_of_le hz1 hx.size; have HG2 := hid (grew_trans HG1.out hx); clear hx))
    go_ret
    exact ⟨rfl, HG2.out⟩
  | false =>
    cases vb with
    | false =>
      go_enter Try.func7, Try.ntmps7
      go_wp2_with (first
        | (go_at_call 15; (with_reducible refine (HLO.out  _ HG0.out).mono ?_); rintro e w1 ⟨rfl, hx⟩; have cp1 := (hx.cell (p := ⟨w.heap.size, 0, none⟩) hz0).trans cp0; have cq1 := (hx.cell (p := ⟨w.heap.size, 1, none⟩) hz0).trans cq0; have hz1 := Nat.lt_of_lt_of_le hz0 hx.size; have HG1 := hid (grew_trans HG0.out hx); clear hx)
        | (go_at_call 16; (with_reducible refine (HVA.out  _ HG1.out).mono ?_); rintro e w2 ⟨rfl, hx⟩; have cp2 := (hx.cell (p := ⟨w.heap.size, 0, none⟩) hz1).trans cp1; have cq2 := (hx.cell (p := ⟨w.heap.size, 1, none⟩) hz1).trans cq1; have hz2 := Nat.lt_of_lt_of_le hz1 hx.size; have HG2 := hid (grew_trans HG1.out hx); clear hx)
        | (go_at_call 17; (with_reducible refine (HAW.out  _ HG2.out).mono ?_); rintro e w3 ⟨rfl, hx⟩; have cp3 := (hx.cell (p := ⟨w.heap.size, 0, none⟩) hz2).trans cp2; have cq3 := (hx.cell (p := ⟨w.heap.size, 1, none⟩) hz2).trans cq2; have hz3 := Nat.lt_of_lt_of_le hz2 hx.size; have HG3 := hid (grew_trans HG2.out hx); clear hx))
      go_ret
      exact ⟨rfl, HG3.out⟩
    | true =>
      have HAS := hid (fun (W : World) (_ : Grew w W) => asked36_any c0 t0 W hc0 ht0)
      have hask := ask_ok HVB.out c0 t0
      have hcc := askC_cases c0
      obtain ⟨c, hc⟩ : ∃ c, askC c0 = c := ⟨_, rfl⟩
      obtain ⟨t, ht⟩ : ∃ t, askT c0 t0 = t := ⟨_, rfl⟩
      rw [hc, ht] at HAS
      rw [hc, ht] at hask
      rw [hc] at hcc
      have htx := isTh_mod a0
      have hty := isTh_mod b0
      have hra : renA g (a0 % 3) (b0 % 3) = (⟨g.n, renM g.ms (a0 % 3) (b0 % 3)⟩, 0) := by unfold renA; rw [HVB.out, htx, hty]; rfl
      have hv1 := valid_ren HVB.out htx hty
      have hrb : renA ⟨g.n, renM g.ms (a0 % 3) (b0 % 3)⟩ (a0 % 3) (b0 % 3) = (g, 0) := by unfold renA; rw [hv1, htx, hty]; simp only [if_true, Bool.and_self, renM_renM]
      have HR1 := hid (fun (W : World) (h : Grew w W) => renamed37_any _ g (a0 % 3) (b0 % 3) W hn (HV.out.grew h))
      have HR2 := hid (fun (u : Value) (W : World) (_ : Grew w W) (hu : IsGr W u ⟨g.n, renM g.ms (a0 % 3) (b0 % 3)⟩) => renamed37_any u ⟨g.n, renM g.ms (a0 % 3) (b0 % 3)⟩ (a0 % 3) (b0 % 3) W hn hu)
      rw [hra] at HR1
      rw [hrb] at HR2
      simp only at HR1 HR2
      have HSM := hid (fun (u : Value) (W : World) (h : Grew w W) (hu : IsGr W u g) => same38_any u _ g W hu (HV.out.grew h) (valid_wf HVB.out))
      have HSW := hid (fun (W : World) (_ : Grew w W) => swapped39_any t (a0 % 3) (b0 % 3) W)
      have HHO := hid (fun (W : World) (h : Grew w W) => holds20_any _ g c t W hn (HV.out.grew h))
      have HHR := hid (fun (u : Value) (t' : Int) (W : World) (_ : Grew w W) (hu : IsGr W u ⟨g.n, renM g.ms (a0 % 3) (b0 % 3)⟩) => holds20_any u ⟨g.n, renM g.ms (a0 % 3) (b0 % 3)⟩ c t' W hn hu)
      rw [holds_ok hask] at HHO
      simp only at HHO
      have HV1 := hid hv1; have HTX := hid htx; have HTY := hid hty
      have hck : clOk c t = true := (ask_valid hask).2
      obtain ⟨hb, hhb⟩ : ∃ b, hol g c t = b := ⟨_, rfl⟩
      rw [hhb] at HHO
      have HHB := hid hhb
      have bself : (hb == hb) = true := by simp
      have bself2 : (hb != hb) = false := by simp
      have HCK := hid hck
      clear hask hc ht hra hrb hv1 htx hty hhb hck
      have HN := hid hn
      by_cases hc1 : c > 0
      · have HH3 := hid (show holdsA ⟨g.n, renM g.ms (a0 % 3) (b0 % 3)⟩ c (swT (a0 % 3) (b0 % 3) t) = (hb, 0) by
          have hk : clOk c (swT (a0 % 3) (b0 % 3) t) = true := by
            have h := HCK.out
            unfold clOk at h ⊢
            rcases hcc with rfl | rfl | rfl
            · omega
            · simp at h; simp [isTh_sw HTX.out HTY.out h]
            · simp at h; simp [isTh_sw HTX.out HTY.out h]
          have ha : askM ⟨g.n, renM g.ms (a0 % 3) (b0 % 3)⟩ c (swT (a0 % 3) (b0 % 3) t) = 0 := by unfold askM; rw [if_pos HV1.out, if_pos hk]
          rw [holds_ok ha]
          rcases hol_ren (c := c) (t := t) (a := a0 % 3) (b := b0 % 3) HVB.out with h | h
          · rw [if_pos hc1] at h; rw [h, HHB.out]
          · omega)
        have hd := decide_eq_true hc1
        clear hcc
        go_enter Try.func7, Try.ntmps7
        go_wp2_with (first
          | (go_at_call 15; (with_reducible refine (HLO.out  _ HG0.out).mono ?_); rintro e w1 ⟨rfl, hx⟩; have cp1 := (hx.cell (p := ⟨w.heap.size, 0, none⟩) hz0).trans cp0; have cq1 := (hx.cell (p := ⟨w.heap.size, 1, none⟩) hz0).trans cq0; have hz1 := Nat.lt_of_lt_of_le hz0 hx.size; have HG1 := hid (grew_trans HG0.out hx); clear hx)
          | (go_at_call 16; (with_reducible refine (HVA.out  _ HG1.out).mono ?_); rintro e w2 ⟨rfl, hx⟩; have cp2 := (hx.cell (p := ⟨w.heap.size, 0, none⟩) hz1).trans cp1; have cq2 := (hx.cell (p := ⟨w.heap.size, 1, none⟩) hz1).trans cq1; have hz2 := Nat.lt_of_lt_of_le hz1 hx.size; have HG2 := hid (grew_trans HG1.out hx); clear hx)
          | (go_at_call 36; (with_reducible refine (HAS.out  _ HG2.out).mono ?_); rintro e w3 ⟨rfl, hx⟩; have cp3 := (hx.cell (p := ⟨w.heap.size, 0, none⟩) hz2).trans cp2; have cq3 := (hx.cell (p := ⟨w.heap.size, 1, none⟩) hz2).trans cq2; have hz3 := Nat.lt_of_lt_of_le hz2 hx.size; have HG3 := hid (grew_trans HG2.out hx); clear hx)
          | (go_at_call 37; (with_reducible refine (HR1.out  _ HG3.out).mono ?_); rintro e vA ⟨u, rfl, hx0, hu⟩; obtain ⟨sA, rfl, hmA⟩ := hu; obtain ⟨w4, hw4, gbA, eA_4, fA_4, hyA_4⟩ := box2 vA (.int .i64 g.n) sA 24; have hx := grew_trans hx0 gbA; have HMA := hid (hmA.grew gbA); obtain ⟨aA, lA, kA, rfl⟩ := mvs_shape hmA; have cp4 := (hx.cell (p := ⟨w.heap.size, 0, none⟩) hz3).trans cp3; have cq4 := (hx.cell (p := ⟨w.heap.size, 1, none⟩) hz3).trans cq3; have hz4 := Nat.lt_of_lt_of_le hz3 hx.size; have HG4 := hid (grew_trans HG3.out hx); have HQA := hid (grew_refl w4); clear hx hx0 hmA)
          | (go_at_call 37; (with_reducible refine (HR2.out _ _ HG4.out (isGr_mk HMA.out)).mono ?_); rintro e vB ⟨u, rfl, hx0, hu⟩; obtain ⟨sB, rfl, hmB⟩ := hu; obtain ⟨w5, hw5, gbB, eB_5, fB_5, hyB_5⟩ := box2 vB (.int .i64 g.n) sB 24; have hx := grew_trans hx0 gbB; have HMB := hid (hmB.grew gbB); have HMA2 := hid (HMA.out.grew hx); obtain ⟨aB, lB, kB, rfl⟩ := mvs_shape hmB; have eA_5 := (hx.cell (p := ⟨vA.heap.size, 0, none⟩) hyA_4).trans eA_4; have fA_5 := (hx.cell (p := ⟨vA.heap.size, 1, none⟩) hyA_4).trans fA_4; have hyA_5 := Nat.lt_of_lt_of_le hyA_4 hx.size; have cp5 := (hx.cell (p := ⟨w.heap.size, 0, none⟩) hz4).trans cp4; have cq5 := (hx.cell (p := ⟨w.heap.size, 1, none⟩) hz4).trans cq4; have hz5 := Nat.lt_of_lt_of_le hz4 hx.size; have HG5 := hid (grew_trans HG4.out hx); clear hx hx0 hmB)
          | (go_at_call 38; (with_reducible refine (HSM.out _ _ HG5.out (isGr_mk HMB.out)).mono ?_); rintro e w6 ⟨rfl, hx⟩; have eA_6 := (hx.cell (p := ⟨vA.heap.size, 0, none⟩) hyA_5).trans eA_5; have fA_6 := (hx.cell (p := ⟨vA.heap.size, 1, none⟩) hyA_5).trans fA_5; have hyA_6 := Nat.lt_of_lt_of_le hyA_5 hx.size; have eB_6 := (hx.cell (p := ⟨vB.heap.size, 0, none⟩) hyB_5).trans eB_5; have fB_6 := (hx.cell (p := ⟨vB.heap.size, 1, none⟩) hyB_5).trans fB_5; have hyB_6 := Nat.lt_of_lt_of_le hyB_5 hx.size; have HMA3 := hid (HMA2.out.grew hx); have cp6 := (hx.cell (p := ⟨w.heap.size, 0, none⟩) hz5).trans cp5; have cq6 := (hx.cell (p := ⟨w.heap.size, 1, none⟩) hz5).trans cq5; have hz6 := Nat.lt_of_lt_of_le hz5 hx.size; have HG6 := hid (grew_trans HG5.out hx); clear hx)
          | (go_at_call 39; (with_reducible refine (HSW.out  _ HG6.out).mono ?_); rintro e w7 ⟨rfl, hx⟩; have cp7 := (hx.cell (p := ⟨w.heap.size, 0, none⟩) hz6).trans cp6; have cq7 := (hx.cell (p := ⟨w.heap.size, 1, none⟩) hz6).trans cq6; have hz7 := Nat.lt_of_lt_of_le hz6 hx.size; have HG7 := hid (grew_trans HG6.out hx); have eA_7 := (hx.cell (p := ⟨vA.heap.size, 0, none⟩) hyA_6).trans eA_6; have fA_7 := (hx.cell (p := ⟨vA.heap.size, 1, none⟩) hyA_6).trans fA_6; have hyA_7 := Nat.lt_of_lt_of_le hyA_6 hx.size; have eB_7 := (hx.cell (p := ⟨vB.heap.size, 0, none⟩) hyB_6).trans eB_6; have fB_7 := (hx.cell (p := ⟨vB.heap.size, 1, none⟩) hyB_6).trans fB_6; have hyB_7 := Nat.lt_of_lt_of_le hyB_6 hx.size; have HMA4 := hid (HMA3.out.grew hx); clear hx)
          | (go_at_call 20; (with_reducible refine (HHO.out  _ HG7.out).mono ?_); rintro e w8 ⟨rfl, hx⟩; have cp8 := (hx.cell (p := ⟨w.heap.size, 0, none⟩) hz7).trans cp7; have cq8 := (hx.cell (p := ⟨w.heap.size, 1, none⟩) hz7).trans cq7; have hz8 := Nat.lt_of_lt_of_le hz7 hx.size; have HG8 := hid (grew_trans HG7.out hx); have eA_8 := (hx.cell (p := ⟨vA.heap.size, 0, none⟩) hyA_7).trans eA_7; have fA_8 := (hx.cell (p := ⟨vA.heap.size, 1, none⟩) hyA_7).trans fA_7; have hyA_8 := Nat.lt_of_lt_of_le hyA_7 hx.size; have eB_8 := (hx.cell (p := ⟨vB.heap.size, 0, none⟩) hyB_7).trans eB_7; have fB_8 := (hx.cell (p := ⟨vB.heap.size, 1, none⟩) hyB_7).trans fB_7; have hyB_8 := Nat.lt_of_lt_of_le hyB_7 hx.size; have HMA5 := hid (HMA4.out.grew hx); clear hx)
          | (go_at_call 20; (with_reducible refine ((HHR.out _ _ _ HG8.out (isGr_mk HMA5.out)).mono (R' := fun (e : Ending) (w' : World) => e = .returned (.tuple #[.bool hb, .int .i64 0]) ∧ Grew w8 w') (by rintro e w' ⟨rfl, hx⟩; rw [HH3.out]; exact ⟨rfl, hx⟩)).mono ?_); rintro e w9 ⟨rfl, hx⟩; have cp9 := (hx.cell (p := ⟨w.heap.size, 0, none⟩) hz8).trans cp8; have cq9 := (hx.cell (p := ⟨w.heap.size, 1, none⟩) hz8).trans cq8; have hz9 := Nat.lt_of_lt_of_le hz8 hx.size; have HG9 := hid (grew_trans HG8.out hx); clear hx)
          | (go_at_call 17; (with_reducible refine (HAW.out  _ HG9.out).mono ?_); rintro e w10 ⟨rfl, hx⟩; have cp10 := (hx.cell (p := ⟨w.heap.size, 0, none⟩) hz9).trans cp9; have cq10 := (hx.cell (p := ⟨w.heap.size, 1, none⟩) hz9).trans cq9; have hz10 := Nat.lt_of_lt_of_le hz9 hx.size; have HG10 := hid (grew_trans HG9.out hx); clear hx))
        go_ret
        exact ⟨rfl, HG10.out⟩
      · obtain rfl : c = 0 := by omega
        have HH3 := hid (show holdsA ⟨g.n, renM g.ms (a0 % 3) (b0 % 3)⟩ 0 t = (hb, 0) by
          have ha : askM ⟨g.n, renM g.ms (a0 % 3) (b0 % 3)⟩ 0 t = 0 := by unfold askM; rw [if_pos HV1.out, if_pos HCK.out]
          rw [holds_ok ha]
          rcases hol_ren (c := 0) (t := t) (a := a0 % 3) (b := b0 % 3) HVB.out with h | h
          · rw [if_neg hc1] at h; rw [h, HHB.out]
          · omega)
        clear hc1 hcc
        go_enter Try.func7, Try.ntmps7
        go_wp2_with (first
          | (go_at_call 15; (with_reducible refine (HLO.out  _ HG0.out).mono ?_); rintro e w1 ⟨rfl, hx⟩; have cp1 := (hx.cell (p := ⟨w.heap.size, 0, none⟩) hz0).trans cp0; have cq1 := (hx.cell (p := ⟨w.heap.size, 1, none⟩) hz0).trans cq0; have hz1 := Nat.lt_of_lt_of_le hz0 hx.size; have HG1 := hid (grew_trans HG0.out hx); clear hx)
          | (go_at_call 16; (with_reducible refine (HVA.out  _ HG1.out).mono ?_); rintro e w2 ⟨rfl, hx⟩; have cp2 := (hx.cell (p := ⟨w.heap.size, 0, none⟩) hz1).trans cp1; have cq2 := (hx.cell (p := ⟨w.heap.size, 1, none⟩) hz1).trans cq1; have hz2 := Nat.lt_of_lt_of_le hz1 hx.size; have HG2 := hid (grew_trans HG1.out hx); clear hx)
          | (go_at_call 36; (with_reducible refine (HAS.out  _ HG2.out).mono ?_); rintro e w3 ⟨rfl, hx⟩; have cp3 := (hx.cell (p := ⟨w.heap.size, 0, none⟩) hz2).trans cp2; have cq3 := (hx.cell (p := ⟨w.heap.size, 1, none⟩) hz2).trans cq2; have hz3 := Nat.lt_of_lt_of_le hz2 hx.size; have HG3 := hid (grew_trans HG2.out hx); clear hx)
          | (go_at_call 37; (with_reducible refine (HR1.out  _ HG3.out).mono ?_); rintro e vA ⟨u, rfl, hx0, hu⟩; obtain ⟨sA, rfl, hmA⟩ := hu; obtain ⟨w4, hw4, gbA, eA_4, fA_4, hyA_4⟩ := box2 vA (.int .i64 g.n) sA 24; have hx := grew_trans hx0 gbA; have HMA := hid (hmA.grew gbA); obtain ⟨aA, lA, kA, rfl⟩ := mvs_shape hmA; have cp4 := (hx.cell (p := ⟨w.heap.size, 0, none⟩) hz3).trans cp3; have cq4 := (hx.cell (p := ⟨w.heap.size, 1, none⟩) hz3).trans cq3; have hz4 := Nat.lt_of_lt_of_le hz3 hx.size; have HG4 := hid (grew_trans HG3.out hx); have HQA := hid (grew_refl w4); clear hx hx0 hmA)
          | (go_at_call 37; (with_reducible refine (HR2.out _ _ HG4.out (isGr_mk HMA.out)).mono ?_); rintro e vB ⟨u, rfl, hx0, hu⟩; obtain ⟨sB, rfl, hmB⟩ := hu; obtain ⟨w5, hw5, gbB, eB_5, fB_5, hyB_5⟩ := box2 vB (.int .i64 g.n) sB 24; have hx := grew_trans hx0 gbB; have HMB := hid (hmB.grew gbB); have HMA2 := hid (HMA.out.grew hx); obtain ⟨aB, lB, kB, rfl⟩ := mvs_shape hmB; have eA_5 := (hx.cell (p := ⟨vA.heap.size, 0, none⟩) hyA_4).trans eA_4; have fA_5 := (hx.cell (p := ⟨vA.heap.size, 1, none⟩) hyA_4).trans fA_4; have hyA_5 := Nat.lt_of_lt_of_le hyA_4 hx.size; have cp5 := (hx.cell (p := ⟨w.heap.size, 0, none⟩) hz4).trans cp4; have cq5 := (hx.cell (p := ⟨w.heap.size, 1, none⟩) hz4).trans cq4; have hz5 := Nat.lt_of_lt_of_le hz4 hx.size; have HG5 := hid (grew_trans HG4.out hx); clear hx hx0 hmB)
          | (go_at_call 38; (with_reducible refine (HSM.out _ _ HG5.out (isGr_mk HMB.out)).mono ?_); rintro e w6 ⟨rfl, hx⟩; have eA_6 := (hx.cell (p := ⟨vA.heap.size, 0, none⟩) hyA_5).trans eA_5; have fA_6 := (hx.cell (p := ⟨vA.heap.size, 1, none⟩) hyA_5).trans fA_5; have hyA_6 := Nat.lt_of_lt_of_le hyA_5 hx.size; have eB_6 := (hx.cell (p := ⟨vB.heap.size, 0, none⟩) hyB_5).trans eB_5; have fB_6 := (hx.cell (p := ⟨vB.heap.size, 1, none⟩) hyB_5).trans fB_5; have hyB_6 := Nat.lt_of_lt_of_le hyB_5 hx.size; have HMA3 := hid (HMA2.out.grew hx); have cp6 := (hx.cell (p := ⟨w.heap.size, 0, none⟩) hz5).trans cp5; have cq6 := (hx.cell (p := ⟨w.heap.size, 1, none⟩) hz5).trans cq5; have hz6 := Nat.lt_of_lt_of_le hz5 hx.size; have HG6 := hid (grew_trans HG5.out hx); clear hx)
          | (go_at_call 20; (with_reducible refine (HHO.out  _ HG6.out).mono ?_); rintro e w7 ⟨rfl, hx⟩; have cp7 := (hx.cell (p := ⟨w.heap.size, 0, none⟩) hz6).trans cp6; have cq7 := (hx.cell (p := ⟨w.heap.size, 1, none⟩) hz6).trans cq6; have hz7 := Nat.lt_of_lt_of_le hz6 hx.size; have HG7 := hid (grew_trans HG6.out hx); have eA_7 := (hx.cell (p := ⟨vA.heap.size, 0, none⟩) hyA_6).trans eA_6; have fA_7 := (hx.cell (p := ⟨vA.heap.size, 1, none⟩) hyA_6).trans fA_6; have hyA_7 := Nat.lt_of_lt_of_le hyA_6 hx.size; have eB_7 := (hx.cell (p := ⟨vB.heap.size, 0, none⟩) hyB_6).trans eB_6; have fB_7 := (hx.cell (p := ⟨vB.heap.size, 1, none⟩) hyB_6).trans fB_6; have hyB_7 := Nat.lt_of_lt_of_le hyB_6 hx.size; have HMA5 := hid (HMA3.out.grew hx); clear hx)
          | (go_at_call 20; (with_reducible refine ((HHR.out _ _ _ HG7.out (isGr_mk HMA5.out)).mono (R' := fun (e : Ending) (w' : World) => e = .returned (.tuple #[.bool hb, .int .i64 0]) ∧ Grew w7 w') (by rintro e w' ⟨rfl, hx⟩; rw [HH3.out]; exact ⟨rfl, hx⟩)).mono ?_); rintro e w8 ⟨rfl, hx⟩; have cp8 := (hx.cell (p := ⟨w.heap.size, 0, none⟩) hz7).trans cp7; have cq8 := (hx.cell (p := ⟨w.heap.size, 1, none⟩) hz7).trans cq7; have hz8 := Nat.lt_of_lt_of_le hz7 hx.size; have HG8 := hid (grew_trans HG7.out hx); clear hx)
          | (go_at_call 17; (with_reducible refine (HAW.out  _ HG8.out).mono ?_); rintro e w9 ⟨rfl, hx⟩; have cp9 := (hx.cell (p := ⟨w.heap.size, 0, none⟩) hz8).trans cp8; have cq9 := (hx.cell (p := ⟨w.heap.size, 1, none⟩) hz8).trans cq8; have hz9 := Nat.lt_of_lt_of_le hz8 hx.size; have HG9 := hid (grew_trans HG8.out hx); clear hx))
        go_ret
        exact ⟨rfl, HG9.out⟩
end Go.Proofs.Ytojkohpniokaaaa
