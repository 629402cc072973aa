/- The law ProgressLess (8). Printed by gen_pgless.py. -/
import Derived.Test.YtojkohpniokaaaaPgLNames
import Derived.Test.YtojkohpniokaaaaPgWithSeg
import Derived.Deep.RegionHeld3
namespace Go.Proofs.Ytojkohpniokaaaa
open Go Go.RowKit Go.Lin Go.Lin.Pg

theorem later_both {W w' : World} (h : Grew W w') : Grew W w' ∧ ∀ b o, b < W.heap.size → w'.cell? ⟨b, o, none⟩ = W.cell? ⟨b, o, none⟩ := ⟨h, (bcell h).1⟩

set_option maxHeartbeats 8000000 in
set_option maxRecDepth 20000 in
theorem progressLess_law (g : Gr) (c0 t0 m0 : Int) (v : Value) (w : World) (hn : -9223372036854775808 ≤ g.n ∧ g.n ≤ 9223372036854775807) (hc0 : 0 ≤ c0 ∧ c0 ≤ 255) (ht0 : 0 ≤ t0 ∧ t0 ≤ 255) (hm0 : 0 ≤ m0 ∧ m0 ≤ 255) (hv : IsGr w v g) :
    Calls Try.prog 8 #[v, .int .u8 c0, .int .u8 t0, .int .u8 m0] w fun e w' => e = .returned (.bool true) ∧ Grew w w' := by
  have HV := hid hv
  obtain ⟨s, rfl, hmv0⟩ := hv
  obtain ⟨gl, hgl⟩ : ∃ gl, g.ms.length = gl := ⟨_, rfl⟩
  obtain ⟨sa, sc, rfl, ⟨hgl1, hgl2⟩, hmvs0⟩ := hmv0
  rw [hgl] at HV hgl1 hgl2 ⊢
  have HGL := hid hgl
  have HMVS := hid hmvs0
  clear hmvs0 hgl
  obtain ⟨w0, hw0, g0, cp0, cq0, hz0⟩ := box2 w (.int .i64 g.n) (.slice sa gl sc) 24
  have HG0 := hid g0
  have HAW := hid (fun (W : World) (_ : Grew w W) => awake17_any W)
  have HLO := hid (fun (W : World) (h : Grew w W) => long15_any _ g W (HV.out.grew h))
  have HVA := hid (fun (W : World) (h : Grew w W) => rValid16_any _ g W (HV.out.grew h))
  obtain ⟨lo, hlo⟩ : ∃ b, decide ((g.ms.length : Int) > 100) = b := ⟨_, rfl⟩
  obtain ⟨vb, hvb⟩ : ∃ b, valid g = b := ⟨_, rfl⟩
  rw [hlo] at HLO
  rw [hvb] at HVA
  have HVB := hid hvb
  clear hlo hvb
  cases lo with
  | true =>
    go_enter Try.func8, Try.ntmps8
    go_wp2_with (first
      | (go_at_call 15; (with_reducible refine (HLO.out  _ HG0.out).mono ?_); rintro e w1 ⟨rfl, hx⟩; have cp1 := (hx.cell (p := ⟨w.heap.size, 0, none⟩) hz0).trans cp0; have cq1 := (hx.cell (p := ⟨w.heap.size, 1, none⟩) hz0).trans cq0; have hz1 := Nat.lt_of_lt_of_le hz0 hx.size; have HG1 := hid (grew_trans HG0.out hx); clear hx)
      | (go_at_call 17; (with_reducible refine (HAW.out  _ HG1.out).mono ?_); rintro e w2 ⟨rfl, hx⟩; have cp2 := (hx.cell (p := ⟨w.heap.size, 0, none⟩) hz1).trans cp1; have cq2 := (hx.cell (p := ⟨w.heap.size, 1, none⟩) hz1).trans cq1; have hz2 := Nat.lt_of_lt_of_le hz1 hx.size; have HG2 := hid (grew_trans HG1.out hx); clear hx))
    go_ret
    exact ⟨rfl, HG2.out⟩
  | false =>
    cases vb with
    | false =>
      go_enter Try.func8, Try.ntmps8
      go_wp2_with (first
        | (go_at_call 15; (with_reducible refine (HLO.out  _ HG0.out).mono ?_); rintro e w1 ⟨rfl, hx⟩; have cp1 := (hx.cell (p := ⟨w.heap.size, 0, none⟩) hz0).trans cp0; have cq1 := (hx.cell (p := ⟨w.heap.size, 1, none⟩) hz0).trans cq0; have hz1 := Nat.lt_of_lt_of_le hz0 hx.size; have HG1 := hid (grew_trans HG0.out hx); clear hx)
        | (go_at_call 16; (with_reducible refine (HVA.out  _ HG1.out).mono ?_); rintro e w2 ⟨rfl, hx⟩; have cp2 := (hx.cell (p := ⟨w.heap.size, 0, none⟩) hz1).trans cp1; have cq2 := (hx.cell (p := ⟨w.heap.size, 1, none⟩) hz1).trans cq1; have hz2 := Nat.lt_of_lt_of_le hz1 hx.size; have HG2 := hid (grew_trans HG1.out hx); clear hx)
        | (go_at_call 17; (with_reducible refine (HAW.out  _ HG2.out).mono ?_); rintro e w3 ⟨rfl, hx⟩; have cp3 := (hx.cell (p := ⟨w.heap.size, 0, none⟩) hz2).trans cp2; have cq3 := (hx.cell (p := ⟨w.heap.size, 1, none⟩) hz2).trans cq2; have hz3 := Nat.lt_of_lt_of_le hz2 hx.size; have HG3 := hid (grew_trans HG2.out hx); clear hx))
      go_ret
      exact ⟨rfl, HG3.out⟩
    | true =>
      have HAS := hid (fun (W : World) (_ : Grew w W) => asked36_any c0 t0 W hc0 ht0)
      have hask := ask_ok HVB.out c0 t0
      obtain ⟨c, hc⟩ : ∃ c, askC c0 = c := ⟨_, rfl⟩
      obtain ⟨t, ht⟩ : ∃ t, askT c0 t0 = t := ⟨_, rfl⟩
      rw [hc, ht] at HAS
      rw [hc, ht] at hask
      have hty := isTh_mod t0
      have hoa : onlyA g (t0 % 3) = (⟨g.n, onlyM g.ms (t0 % 3)⟩, 0) := by unfold onlyA; rw [HVB.out, hty]; rfl
      have HON := hid (fun (W : World) (h : Grew w W) => only40_any _ g (t0 % 3) W hn (HV.out.grew h))
      rw [hoa] at HON
      simp only at HON
      have HHO := hid (fun (W : World) (h : Grew w W) => holds20_any _ g c t W hn (HV.out.grew h))
      rw [holds_ok hask] at HHO
      simp only at HHO
      have hvo := valid_only HVB.out (t0 % 3)
      have HH1 := hid (fun (u : Value) (W : World) (_ : Grew w W) (hu : IsGr W u ⟨g.n, onlyM g.ms (t0 % 3)⟩) => holds20_any u ⟨g.n, onlyM g.ms (t0 % 3)⟩ 0 0 W hn hu)
      have HH2 := hid (fun (u : Value) (W : World) (_ : Grew w W) (hu : IsGr W u ⟨g.n, onlyM g.ms (t0 % 3)⟩) => holds20_any u ⟨g.n, onlyM g.ms (t0 % 3)⟩ 2 (t0 % 3) W hn hu)
      rw [show holdsA ⟨g.n, onlyM g.ms (t0 % 3)⟩ 0 0 = (hol ⟨g.n, onlyM g.ms (t0 % 3)⟩ 2 (t0 % 3), 0) by rw [holds_ok (by unfold askM; rw [if_pos hvo]; rfl), hol_only HVB.out]] at HH1
      rw [show holdsA ⟨g.n, onlyM g.ms (t0 % 3)⟩ 2 (t0 % 3) = (hol ⟨g.n, onlyM g.ms (t0 % 3)⟩ 2 (t0 % 3), 0) by rw [holds_ok (by unfold askM; rw [if_pos hvo, if_pos (by unfold clOk; rw [hty]; rfl)])]] at HH2
      simp only at HH1 HH2
      obtain ⟨ob, hob⟩ : ∃ b, hol ⟨g.n, onlyM g.ms (t0 % 3)⟩ 2 (t0 % 3) = b := ⟨_, rfl⟩
      rw [hob] at HH1 HH2
      have bself : (ob == ob) = true := by simp
      have bself2 : (ob != ob) = false := by simp
      have hgl20 : gl ≤ 20 := by have h := valid_20 HVB.out; have h2 := HGL.out; omega
      obtain ⟨hb, hhb⟩ : ∃ b, hol g c t = b := ⟨_, rfl⟩
      rw [hhb] at HHO
      have HHB := hid hhb
      have HCK := hid (ask_valid hask).2
      clear hask hc ht hoa hty hvo hob hhb
      by_cases hg0 : gl = 0
      · subst hg0
        have h0 : g.ms = [] := List.length_eq_zero_iff.1 HGL.out
        obtain rfl : hb = true := by
          rw [← HHB.out]
          have hG := gOk_valid HVB.out
          unfold hol
          rw [holds_lassoM hG.h1 hG.h8 hG.inN]
          rintro ⟨P, C, hP, hC, x, h1, h2, m, hm, hq⟩
          have := hC m hm
          rw [h0] at this
          cases this
        clear h0
        go_enter Try.func8, Try.ntmps8
        go_wp2_with (first
          | (go_at_call 15; (with_reducible refine (HLO.out  _ HG0.out).mono ?_); rintro e w1 ⟨rfl, hx⟩; have cp1 := (hx.cell (p := ⟨w.heap.size, 0, none⟩) hz0).trans cp0; have cq1 := (hx.cell (p := ⟨w.heap.size, 1, none⟩) hz0).trans cq0; have hz1 := Nat.lt_of_lt_of_le hz0 hx.size; have HG1 := hid (grew_trans HG0.out hx); clear hx)
          | (go_at_call 16; (with_reducible refine (HVA.out  _ HG1.out).mono ?_); rintro e w2 ⟨rfl, hx⟩; have cp2 := (hx.cell (p := ⟨w.heap.size, 0, none⟩) hz1).trans cp1; have cq2 := (hx.cell (p := ⟨w.heap.size, 1, none⟩) hz1).trans cq1; have hz2 := Nat.lt_of_lt_of_le hz1 hx.size; have HG2 := hid (grew_trans HG1.out hx); clear hx)
          | (go_at_call 36; (with_reducible refine (HAS.out  _ HG2.out).mono ?_); rintro e w3 ⟨rfl, hx⟩; have cp3 := (hx.cell (p := ⟨w.heap.size, 0, none⟩) hz2).trans cp2; have cq3 := (hx.cell (p := ⟨w.heap.size, 1, none⟩) hz2).trans cq2; have hz3 := Nat.lt_of_lt_of_le hz2 hx.size; have HG3 := hid (grew_trans HG2.out hx); clear hx)
          | (go_at_call 20; (with_reducible refine (HHO.out  _ HG3.out).mono ?_); rintro e w4 ⟨rfl, hx⟩; have cp4 := (hx.cell (p := ⟨w.heap.size, 0, none⟩) hz3).trans cp3; have cq4 := (hx.cell (p := ⟨w.heap.size, 1, none⟩) hz3).trans cq3; have hz4 := Nat.lt_of_lt_of_le hz3 hx.size; have HG4 := hid (grew_trans HG3.out hx); clear hx)
          | (go_at_call 40; (with_reducible refine (HON.out  _ HG4.out).mono ?_); rintro e vA ⟨u, rfl, hx0, hu⟩; obtain ⟨sA, rfl, hmA⟩ := hu; obtain ⟨w5, hw5, gbA, eA_5, fA_5, hyA_5⟩ := box2 vA (.int .i64 g.n) sA 24; have hx := grew_trans hx0 gbA; have HMA := hid (hmA.grew gbA); obtain ⟨aA, lA, kA, rfl⟩ := mvs_shape hmA; have cp5 := (hx.cell (p := ⟨w.heap.size, 0, none⟩) hz4).trans cp4; have cq5 := (hx.cell (p := ⟨w.heap.size, 1, none⟩) hz4).trans cq4; have hz5 := Nat.lt_of_lt_of_le hz4 hx.size; have HG5 := hid (grew_trans HG4.out hx); have HQA := hid (grew_refl w5); clear hx hx0 hmA)
          | (go_at_call 20; (with_reducible refine (HH1.out _ _ HG5.out (isGr_mk HMA.out)).mono ?_); rintro e w6 ⟨rfl, hx⟩; have eA_6 := (hx.cell (p := ⟨vA.heap.size, 0, none⟩) hyA_5).trans eA_5; have fA_6 := (hx.cell (p := ⟨vA.heap.size, 1, none⟩) hyA_5).trans fA_5; have hyA_6 := Nat.lt_of_lt_of_le hyA_5 hx.size; have HMA2 := hid (HMA.out.grew hx); have cp6 := (hx.cell (p := ⟨w.heap.size, 0, none⟩) hz5).trans cp5; have cq6 := (hx.cell (p := ⟨w.heap.size, 1, none⟩) hz5).trans cq5; have hz6 := Nat.lt_of_lt_of_le hz5 hx.size; have HG6 := hid (grew_trans HG5.out hx); clear hx)
          | (go_at_call 20; (with_reducible refine (HH2.out _ _ HG6.out (isGr_mk HMA2.out)).mono ?_); rintro e w7 ⟨rfl, hx⟩; have eA_7 := (hx.cell (p := ⟨vA.heap.size, 0, none⟩) hyA_6).trans eA_6; have fA_7 := (hx.cell (p := ⟨vA.heap.size, 1, none⟩) hyA_6).trans fA_6; have hyA_7 := Nat.lt_of_lt_of_le hyA_6 hx.size; have HMA3 := hid (HMA2.out.grew hx); have cp7 := (hx.cell (p := ⟨w.heap.size, 0, none⟩) hz6).trans cp6; have cq7 := (hx.cell (p := ⟨w.heap.size, 1, none⟩) hz6).trans cq6; have hz7 := Nat.lt_of_lt_of_le hz6 hx.size; have HG7 := hid (grew_trans HG6.out hx); clear hx)
          | (go_at_call 17; (with_reducible refine (HAW.out  _ HG7.out).mono ?_); rintro e w8 ⟨rfl, hx⟩; have cp8 := (hx.cell (p := ⟨w.heap.size, 0, none⟩) hz7).trans cp7; have cq8 := (hx.cell (p := ⟨w.heap.size, 1, none⟩) hz7).trans cq7; have hz8 := Nat.lt_of_lt_of_le hz7 hx.size; have HG8 := hid (grew_trans HG7.out hx); clear hx))
        go_ret
        exact ⟨rfl, HG8.out⟩
      · have hglI : ((gl : Int) == 0) = false := by simp [hg0]
        have hglI0 : (0 : Int) < (gl : Int) := by omega
        have hglne : ¬ ((gl : Int) = 0) := by omega
        obtain ⟨mi, hmi⟩ : ∃ mi : Nat, m0 % (gl : Int) = (mi : Int) := ⟨(m0 % (gl : Int)).toNat, by have := Int.emod_nonneg m0 hglne; omega⟩
        have hmil : mi < gl := by have := Int.emod_lt_of_pos m0 hglI0; omega
        have hmt : m0.tmod (gl : Int) = (mi : Int) := by rw [Int.tmod_eq_emod_of_nonneg hm0.1, hmi]
        have hvw := valid_without HVB.out (mi : Int)
        have HWI := hid (fun (W : World) (h : Grew w W) => without41_seg _ g (mi : Int) W HVB.out (by rw [HGL.out]; omega) hn (HV.out.grew h))
        have HH3 := hid (fun (u : Value) (W : World) (_ : Grew w W) (hu : IsGr W u ⟨g.n, withoutM g.ms (mi : Int)⟩) => holds20_any u ⟨g.n, withoutM g.ms (mi : Int)⟩ c t W hn hu)
        rw [show holdsA ⟨g.n, withoutM g.ms (mi : Int)⟩ c t = (hol ⟨g.n, withoutM g.ms (mi : Int)⟩ c t, 0) by rw [holds_ok (by unfold askM; rw [if_pos hvw, if_pos HCK.out])]] at HH3
        simp only at HH3
        have himp : hb = true → hol ⟨g.n, withoutM g.ms (mi : Int)⟩ c t = true := fun h => hol_without HVB.out (by rw [HHB.out, h])
        obtain ⟨sb, hsb⟩ : ∃ b, hol ⟨g.n, withoutM g.ms (mi : Int)⟩ c t = b := ⟨_, rfl⟩
        rw [hsb] at HH3 himp
        have HLEN := hid (show (withoutM g.ms (mi : Int)).length = gl - 1 by rw [without_len g.ms (by rw [HGL.out]; exact hmil), HGL.out])
        have hw1 : IntKind.i64.wrap m0 = m0 := IntWalk.i64_in _ (by omega)
        have hw2 : IntKind.i64.wrap (m0.tmod (gl : Int)) = (mi : Int) := by rw [hmt]; exact IntWalk.i64_in _ (by omega)
        have hw3 : IntKind.i64.wrap ((gl : Int) - 1) = ((gl - 1 : Nat) : Int) := by rw [show (gl : Int) - 1 = ((gl - 1 : Nat) : Int) by omega]; exact IntWalk.i64_in _ (by omega)
        obtain ⟨lm, hlm⟩ : ∃ lm, gl - 1 = lm := ⟨_, rfl⟩
        rw [hlm] at hw3 HLEN
        clear hvw hsb hlm
        have HIMP := hid himp
        have HM0 := hid hmi
        clear himp
        have HMIL := hid hmil
        cases hb <;> cases sb <;> (try (exact absurd (HIMP.out rfl) (by decide)))
        all_goals (
          clear HIMP hm0
          go_enter Try.func8, Try.ntmps8
          go_wp2_with (first
            | (go_at_call 15; (with_reducible refine (HLO.out  _ HG0.out).mono ?_); rintro e w1 ⟨rfl, hx⟩; have cp1 := (hx.cell (p := ⟨w.heap.size, 0, none⟩) hz0).trans cp0; have cq1 := (hx.cell (p := ⟨w.heap.size, 1, none⟩) hz0).trans cq0; have hz1 := Nat.lt_of_lt_of_le hz0 hx.size; have HG1 := hid (grew_trans HG0.out hx); clear hx)
            | (go_at_call 16; (with_reducible refine (HVA.out  _ HG1.out).mono ?_); rintro e w2 ⟨rfl, hx⟩; have cp2 := (hx.cell (p := ⟨w.heap.size, 0, none⟩) hz1).trans cp1; have cq2 := (hx.cell (p := ⟨w.heap.size, 1, none⟩) hz1).trans cq1; have hz2 := Nat.lt_of_lt_of_le hz1 hx.size; have HG2 := hid (grew_trans HG1.out hx); clear hx)
            | (go_at_call 36; (with_reducible refine (HAS.out  _ HG2.out).mono ?_); rintro e w3 ⟨rfl, hx⟩; have cp3 := (hx.cell (p := ⟨w.heap.size, 0, none⟩) hz2).trans cp2; have cq3 := (hx.cell (p := ⟨w.heap.size, 1, none⟩) hz2).trans cq2; have hz3 := Nat.lt_of_lt_of_le hz2 hx.size; have HG3 := hid (grew_trans HG2.out hx); clear hx)
            | (go_at_call 20; (with_reducible refine (HHO.out  _ HG3.out).mono ?_); rintro e w4 ⟨rfl, hx⟩; have cp4 := (hx.cell (p := ⟨w.heap.size, 0, none⟩) hz3).trans cp3; have cq4 := (hx.cell (p := ⟨w.heap.size, 1, none⟩) hz3).trans cq3; have hz4 := Nat.lt_of_lt_of_le hz3 hx.size; have HG4 := hid (grew_trans HG3.out hx); clear hx)
            | (go_at_call 40; (with_reducible refine (HON.out  _ HG4.out).mono ?_); rintro e vA ⟨u, rfl, hx0, hu⟩; obtain ⟨sA, rfl, hmA⟩ := hu; obtain ⟨w5, hw5, gbA, eA_5, fA_5, hyA_5⟩ := box2 vA (.int .i64 g.n) sA 24; have hx := grew_trans hx0 gbA; have HMA := hid (hmA.grew gbA); obtain ⟨aA, lA, kA, rfl⟩ := mvs_shape hmA; have cp5 := (hx.cell (p := ⟨w.heap.size, 0, none⟩) hz4).trans cp4; have cq5 := (hx.cell (p := ⟨w.heap.size, 1, none⟩) hz4).trans cq4; have hz5 := Nat.lt_of_lt_of_le hz4 hx.size; have HG5 := hid (grew_trans HG4.out hx); have HQA := hid (grew_refl w5); clear hx hx0 hmA)
            | (go_at_call 20; (with_reducible refine (HH1.out _ _ HG5.out (isGr_mk HMA.out)).mono ?_); rintro e w6 ⟨rfl, hx⟩; have eA_6 := (hx.cell (p := ⟨vA.heap.size, 0, none⟩) hyA_5).trans eA_5; have fA_6 := (hx.cell (p := ⟨vA.heap.size, 1, none⟩) hyA_5).trans fA_5; have hyA_6 := Nat.lt_of_lt_of_le hyA_5 hx.size; have HMA2 := hid (HMA.out.grew hx); have cp6 := (hx.cell (p := ⟨w.heap.size, 0, none⟩) hz5).trans cp5; have cq6 := (hx.cell (p := ⟨w.heap.size, 1, none⟩) hz5).trans cq5; have hz6 := Nat.lt_of_lt_of_le hz5 hx.size; have HG6 := hid (grew_trans HG5.out hx); clear hx)
            | (go_at_call 20; (with_reducible refine (HH2.out _ _ HG6.out (isGr_mk HMA2.out)).mono ?_); rintro e w7 ⟨rfl, hx⟩; have eA_7 := (hx.cell (p := ⟨vA.heap.size, 0, none⟩) hyA_6).trans eA_6; have fA_7 := (hx.cell (p := ⟨vA.heap.size, 1, none⟩) hyA_6).trans fA_6; have hyA_7 := Nat.lt_of_lt_of_le hyA_6 hx.size; have HMA3 := hid (HMA2.out.grew hx); have cp7 := (hx.cell (p := ⟨w.heap.size, 0, none⟩) hz6).trans cp6; have cq7 := (hx.cell (p := ⟨w.heap.size, 1, none⟩) hz6).trans cq6; have hz7 := Nat.lt_of_lt_of_le hz6 hx.size; have HG7 := hid (grew_trans HG6.out hx); clear hx))
          go_region_held3 (fun w' => Grew w7 w' ∧ ∀ b o, b < w7.heap.size → w'.cell? ⟨b, o, none⟩ = w7.cell? ⟨b, o, none⟩) (exact later_both (by repeat' (first | assumption | exact grew_refl _ | refine Below.setCell ?_ (by first | exact Nat.le_refl _ | (simp; done) | (simp; omega) | omega) _ | refine grew_drew ?_ | refine grew_alloc ?_ _)))
            ((go_at_call 41; (with_reducible refine (HWI.out _ (grew_trans HG7.out (by repeat' (first | assumption | exact grew_refl _ | refine Below.setCell ?_ (by first | exact Nat.le_refl _ | (simp; done) | (simp; omega) | omega) _ | refine grew_drew ?_ | refine grew_alloc ?_ _)))).mono ?_); rintro e v8 ⟨aC, lC, kC, rfl, hx, hs⟩; have hg8 : Grew w7 v8 := grew_trans (by repeat' (first | assumption | exact grew_refl _ | refine Below.setCell ?_ (by first | exact Nat.le_refl _ | (simp; done) | (simp; omega) | omega) _ | refine grew_drew ?_ | refine grew_alloc ?_ _)) hx; have hsz8 := hg8.size; have HS8 := hid hs; have HX8 := hid hx; (first | (have z0 := (hx.cell (p := ⟨w7.heap.size, 0, none⟩) (by simp)).trans (show _ = some (.int .i64 0) by simp); have z1 := (hx.cell (p := ⟨w7.heap.size, 1, none⟩) (by simp)).trans (show _ = some (.slice none 0 0) by simp); have zf0 := ((bcell hx).2 w7.heap.size 0 (by simp)).trans (show _ = false by simp); have zf1 := ((bcell hx).2 w7.heap.size 1 (by simp)).trans (show _ = false by simp); have hz8 : w7.heap.size < v8.heap.size := (by have h := hx.size; simp at h; omega)) | skip); clear hx hs))
          all_goals (
            have hlC : lC = lm := by
              obtain ⟨_, _, e1, _⟩ := HS8.out.shape
              simp only [Value.slice.injEq] at e1
              rw [e1.2.1]; exact HLEN.out
            subst hlC
            first
            | (obtain ⟨F, hF⟩ : ∃ F, v8.alloc (.cells #[.int .i64 g.n, .slice aC lC kC] 24) = F := ⟨_, rfl⟩
               obtain ⟨C, hC⟩ : ∃ C, v8.heap.size = C := ⟨_, rfl⟩
               rw [hF, hC]
               have o8 : F.heap[C]? = some (.cells #[.int .i64 g.n, .slice aC lC kC] 24 (0, 0)) := by rw [← hF, ← hC]; exact heap_alloc_new v8 _
               have hGF : Grew w7 F := by rw [← hF]; exact grew_alloc hg8 _
               have hMF : IsMvs F (.slice aC lC kC) (withoutM g.ms (mi : Int)) := by rw [← hF]; exact (mvs_of_seg HS8.out rfl).grew (grew_alloc (grew_refl _) _)
               clear hF hC)
            | (obtain ⟨F, hF⟩ : ∃ F, (v8.setCell ⟨w7.heap.size, 0, none⟩ (.int .i64 g.n)).setCell ⟨w7.heap.size, 1, none⟩ (.slice aC lC kC) = F := ⟨_, rfl⟩
               obtain ⟨C, hC⟩ : ∃ C, w7.heap.size = C := ⟨_, rfl⟩
               have oz : v8.heap[w7.heap.size]? = some (.cells #[.int .i64 0, .slice none 0 0] 24 (0, 0)) := (HX8.out.block _ (by simp)).trans (heap_alloc_new w7.drew _)
               have hst := gr_stores oz (.int .i64 g.n) (.slice aC lC kC)
               rw [hF] at hst
               have o8 : F.heap[C]? = some (.cells #[.int .i64 g.n, .slice aC lC kC] 24 (0, 0)) := by rw [← hC]; exact hst.1
               have hGF : Grew w7 F := hg8.trans (hst.2.below hg8.size (fun k _ e => by rw [e]; exact Nat.le_refl _))
               have hMF : IsMvs F (.slice aC lC kC) (withoutM g.ms (mi : Int)) := mvs_of_seg (HS8.out.keeps hst.2 (fun k o hk _ e => by have h := (HS8.out.own k hk).1; simp at h; omega)) rfl
               rw [hF, hC]
               clear hF hC hst oz)
            have u0 : F.cell? ⟨C, 0, none⟩ = some (.int .i64 g.n) := cell_of_row _ _ _ _ _ _ o8
            have u1 : F.cell? ⟨C, 1, none⟩ = some (.slice aC lC kC) := cell_of_row _ _ _ _ _ _ o8
            have hCl := lt_of_obj o8
            have r0 := (hGF.cell (p := ⟨w.heap.size, 0, none⟩) hz7).trans cp7
            have r1 := (hGF.cell (p := ⟨w.heap.size, 1, none⟩) hz7).trans cq7
            have hzF := Nat.lt_of_lt_of_le hz7 hGF.size
            have HGF := hid (grew_trans HG7.out hGF)
            have HMF := hid hMF
            have heq : ((lC : Int) == (lC : Int)) = true := by simp
            clear o8 hGF hMF hg8 hsz8
            go_wp2_with (first
              | (go_at_call 20; (with_reducible refine (HH3.out _ _ HGF.out (isGr_mk HMF.out)).mono ?_); rintro e w10 ⟨rfl, hx⟩; have HX10 := hid hx; have u1' := (hx.cell (p := ⟨C, 1, none⟩) hCl).trans u1; have r1' := (hx.cell (p := ⟨w.heap.size, 1, none⟩) hzF).trans r1; have HG10 := hid (grew_trans HGF.out hx); clear hx)
              | (go_at_call 17; (with_reducible refine (HAW.out _ HG10.out).mono ?_); rintro e w11 ⟨rfl, hx⟩; have HG11 := hid (grew_trans HG10.out hx); clear hx))
            go_ret
            exact ⟨rfl, HG11.out⟩))
end Go.Proofs.Ytojkohpniokaaaa
