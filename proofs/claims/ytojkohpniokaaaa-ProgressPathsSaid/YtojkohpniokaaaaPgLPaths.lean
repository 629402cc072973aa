/- The law ProgressPaths (13). Printed by gen_pgpaths.py. -/
import Derived.Test.YtojkohpniokaaaaPgRefC
import Derived.Test.YtojkohpniokaaaaPgPath
import Derived.Test.YtojkohpniokaaaaPgLaw0
namespace Go.Proofs.Ytojkohpniokaaaa
open Go Go.RowKit Go.Lin Go.Lin.Pg

set_option maxHeartbeats 8000000 in
set_option maxRecDepth 20000 in
theorem progressPaths_law (g : Gr) (path : List Int) (p : Int) (v pv : Value) (w : World) (hn : -9223372036854775808 ≤ g.n ∧ g.n ≤ 9223372036854775807) (hv : IsGr w v g) (hr : IsWd w pv path) :
    Calls Try.prog 13 #[v, pv, .int .i64 p] w fun e w' => e = .returned (.bool true) ∧ Grew w w' := by
  have HV := hid hv
  obtain ⟨s, rfl, hmv0⟩ := hv
  obtain ⟨gl, hgl⟩ : ∃ gl, g.ms.length = gl := ⟨_, rfl⟩
  obtain ⟨sa, sc, rfl, ⟨hgl1, hgl2⟩, hmvs0⟩ := hmv0
  rw [hgl] at HV hgl1 hgl2 ⊢
  have HGL := hid hgl
  have HMVS := hid hmvs0
  clear hmvs0 hgl
  obtain ⟨w0, hw0, g0, cp0, cq0, hz0⟩ := box2 w (.int .i64 g.n) (.slice sa gl sc) 24
  have HG0 := hid g0
  have HAW := hid (fun (W : World) (_ : Grew w W) => awake17_any W)
  have HLO := hid (fun (W : World) (h : Grew w W) => long15_any _ g W (HV.out.grew h))
  have HR := hid hr
  have HMA := hid (fun (W : World) (h : Grew w W) => many26_any pv path W (hr.grew h))
  obtain ⟨lo, hlo⟩ : ∃ b, decide ((g.ms.length : Int) > 100) = b := ⟨_, rfl⟩
  obtain ⟨ma, hma⟩ : ∃ b, decide ((path.length : Int) > 1100) = b := ⟨_, rfl⟩
  rw [hlo] at HLO
  rw [hma] at HMA
  obtain ⟨ra, rc, rfl⟩ := isWd_slice hr
  obtain ⟨rl, hrl⟩ : ∃ n, path.length = n := ⟨_, rfl⟩
  rw [hrl] at HR HMA ⊢
  clear hlo hma hr hrl
  cases lo with
  | true =>
    go_enter Try.func13, Try.ntmps13
    go_wp2_with (first
      | (go_at_call 15; (with_reducible refine (HLO.out  _ HG0.out).mono ?_); rintro e w1 ⟨rfl, hx⟩; have cp1 := (hx.cell (p := ⟨w.heap.size, 0, none⟩) hz0).trans cp0; have cq1 := (hx.cell (p := ⟨w.heap.size, 1, none⟩) hz0).trans cq0; have hz1 := Nat.lt_of_lt_of_le hz0 hx.size; have HG1 := hid (grew_trans HG0.out hx); clear hx)
      | (go_at_call 17; (with_reducible refine (HAW.out  _ HG1.out).mono ?_); rintro e w2 ⟨rfl, hx⟩; have cp2 := (hx.cell (p := ⟨w.heap.size, 0, none⟩) hz1).trans cp1; have cq2 := (hx.cell (p := ⟨w.heap.size, 1, none⟩) hz1).trans cq1; have hz2 := Nat.lt_of_lt_of_le hz1 hx.size; have HG2 := hid (grew_trans HG1.out hx); clear hx))
    go_ret
    exact ⟨rfl, HG2.out⟩
  | false =>
    cases ma with
    | true =>
      go_enter Try.func13, Try.ntmps13
      go_wp2_with (first
        | (go_at_call 15; (with_reducible refine (HLO.out  _ HG0.out).mono ?_); rintro e w1 ⟨rfl, hx⟩; have cp1 := (hx.cell (p := ⟨w.heap.size, 0, none⟩) hz0).trans cp0; have cq1 := (hx.cell (p := ⟨w.heap.size, 1, none⟩) hz0).trans cq0; have hz1 := Nat.lt_of_lt_of_le hz0 hx.size; have HG1 := hid (grew_trans HG0.out hx); clear hx)
        | (go_at_call 26; (with_reducible refine (HMA.out  _ HG1.out).mono ?_); rintro e w2 ⟨rfl, hx⟩; have cp2 := (hx.cell (p := ⟨w.heap.size, 0, none⟩) hz1).trans cp1; have cq2 := (hx.cell (p := ⟨w.heap.size, 1, none⟩) hz1).trans cq1; have hz2 := Nat.lt_of_lt_of_le hz1 hx.size; have HG2 := hid (grew_trans HG1.out hx); clear hx)
        | (go_at_call 17; (with_reducible refine (HAW.out  _ HG2.out).mono ?_); rintro e w3 ⟨rfl, hx⟩; have cp3 := (hx.cell (p := ⟨w.heap.size, 0, none⟩) hz2).trans cp2; have cq3 := (hx.cell (p := ⟨w.heap.size, 1, none⟩) hz2).trans cq2; have hz3 := Nat.lt_of_lt_of_le hz2 hx.size; have HG3 := hid (grew_trans HG2.out hx); clear hx))
      go_ret
      exact ⟨rfl, HG3.out⟩
    | false =>
      have HIP := hid (fun (W : World) (h : Grew w W) => isPath46_any _ g (.slice ra rl rc) path W hn (HV.out.grew h) (HR.out.grew h).ints)
      have HIP' := hid (fun (W : World) (h : Grew w W) => isPath30_any _ g (.slice ra rl rc) path W (HV.out.grew h) (HR.out.grew h).ints)
      have HVA := hid (fun (W : World) (h : Grew w W) => valid51_any _ g W hn (HV.out.grew h))
      have HVA' := hid (fun (W : World) (h : Grew w W) => rValid16_any _ g W (HV.out.grew h))
      have HRE := hid (fun (W : World) (h : Grew w W) => reached29_any _ g W hn (HV.out.grew h))
      have HRE' := hid (fun (W : World) (h : Grew w W) => rReached52_any _ g W (HV.out.grew h))
      have HWY := hid (fun (W : World) (h : Grew w W) => way45_any _ g p W hn (HV.out.grew h))
      have HWY' := hid (fun (W : World) (h : Grew w W) => rWay53_any _ g p W (HV.out.grew h))
      have HEN := hid (fun (W : World) (h : Grew w W) => ends54_any _ g W hn (HV.out.grew h))
      have HEN' := hid (fun (W : World) (h : Grew w W) => rEnds55_any _ g W (HV.out.grew h))
      obtain ⟨⟨ib, ie⟩, hip⟩ : ∃ x, askI g path = x := ⟨_, rfl⟩
      obtain ⟨⟨xl, xe⟩, hre⟩ : ∃ x, reachedA g = x := ⟨_, rfl⟩
      obtain ⟨⟨yl, ye⟩, hwy⟩ : ∃ x, wayA g p = x := ⟨_, rfl⟩
      obtain ⟨⟨el, ee⟩, hen⟩ : ∃ x, endsA g = x := ⟨_, rfl⟩
      obtain ⟨vb, hvb⟩ : ∃ b, valid g = b := ⟨_, rfl⟩
      rw [hip] at HIP HIP'
      rw [hre] at HRE HRE'
      rw [hwy] at HWY HWY'
      rw [hen] at HEN HEN'
      rw [hvb] at HVA HVA'
      simp only at HIP HIP' HRE HRE' HWY HWY' HEN HEN'
      have HSI := hid (fun (l : List Int) (u u' : Value) (W : World) (_ : Grew w W) (h : IsInts Any W u l) (h' : IsInts Any W u' l) => sameInts_any u u' l l W h h')
      simp only [BEq.rfl] at HSI
      have hv1 : (vb == vb) = true := by simp
      have hv2 : (vb != vb) = false := by simp
      have hi1 : (ib != ib) = false := by simp
      have hi2 : (ie != ie) = false := by simp
      clear hip hre hwy hen hvb
      go_enter Try.func13, Try.ntmps13
      go_wp2_with (first
        | (go_at_call 15; (with_reducible refine (HLO.out  _ HG0.out).mono ?_); rintro e w1 ⟨rfl, hx⟩; have cp1 := (hx.cell (p := ⟨w.heap.size, 0, none⟩) hz0).trans cp0; have cq1 := (hx.cell (p := ⟨w.heap.size, 1, none⟩) hz0).trans cq0; have hz1 := Nat.lt_of_lt_of_le hz0 hx.size; have HG1 := hid (grew_trans HG0.out hx); clear hx)
        | (go_at_call 26; (with_reducible refine (HMA.out  _ HG1.out).mono ?_); rintro e w2 ⟨rfl, hx⟩; have cp2 := (hx.cell (p := ⟨w.heap.size, 0, none⟩) hz1).trans cp1; have cq2 := (hx.cell (p := ⟨w.heap.size, 1, none⟩) hz1).trans cq1; have hz2 := Nat.lt_of_lt_of_le hz1 hx.size; have HG2 := hid (grew_trans HG1.out hx); clear hx)
        | (go_at_call 46; (with_reducible refine (HIP.out  _ HG2.out).mono ?_); rintro e w3 ⟨rfl, hx⟩; have cp3 := (hx.cell (p := ⟨w.heap.size, 0, none⟩) hz2).trans cp2; have cq3 := (hx.cell (p := ⟨w.heap.size, 1, none⟩) hz2).trans cq2; have hz3 := Nat.lt_of_lt_of_le hz2 hx.size; have HG3 := hid (grew_trans HG2.out hx); clear hx)
        | (go_at_call 30; (with_reducible refine (HIP'.out  _ HG3.out).mono ?_); rintro e w4 ⟨rfl, hx⟩; have cp4 := (hx.cell (p := ⟨w.heap.size, 0, none⟩) hz3).trans cp3; have cq4 := (hx.cell (p := ⟨w.heap.size, 1, none⟩) hz3).trans cq3; have hz4 := Nat.lt_of_lt_of_le hz3 hx.size; have HG4 := hid (grew_trans HG3.out hx); clear hx))
      refine wp_region_later (by kernel_rfl) (by kernel_rfl) (fun hL => ?_)
      repeat (go_big_quiet_step ((first | (go_at_call 51; exact calls_later (HVA.out _ (grew_trans HG4.out (Subtype.property _)))) | (go_at_call 16; exact calls_later (HVA'.out _ (grew_trans HG4.out (Subtype.property _)))))))
      refine wpQuiet_nil ?_
      rintro w5 ⟨zz, hzz⟩
      have hx : Grew w4 w5 := by rw [hzz]; exact zz.2
      clear hL hzz zz
      have cp5 := (hx.cell (p := ⟨w.heap.size, 0, none⟩) hz4).trans cp4; have cq5 := (hx.cell (p := ⟨w.heap.size, 1, none⟩) hz4).trans cq4; have hz5 := Nat.lt_of_lt_of_le hz4 hx.size; have HG5 := hid (grew_trans HG4.out hx)
      clear hx
      go_wp2_with (first
        | (go_at_call 29; (with_reducible refine (HRE.out  _ HG5.out).mono ?_); rintro e w6 ⟨u, rfl, hx, hu⟩; have cp6 := (hx.cell (p := ⟨w.heap.size, 0, none⟩) hz5).trans cp5; have cq6 := (hx.cell (p := ⟨w.heap.size, 1, none⟩) hz5).trans cq5; have hz6 := Nat.lt_of_lt_of_le hz5 hx.size; have HG6 := hid (grew_trans HG5.out hx); have HU1 := hid hu; obtain ⟨ua1, uc1, hue⟩ := isWd_slice HU1.out; subst hue; clear hu; clear hx)
        | (go_at_call 52; (with_reducible refine (HRE'.out  _ HG6.out).mono ?_); rintro e w7 ⟨u', rfl, hx, hu⟩; have cp7 := (hx.cell (p := ⟨w.heap.size, 0, none⟩) hz6).trans cp6; have cq7 := (hx.cell (p := ⟨w.heap.size, 1, none⟩) hz6).trans cq6; have hz7 := Nat.lt_of_lt_of_le hz6 hx.size; have HG7 := hid (grew_trans HG6.out hx); have HV1 := hid hu; obtain ⟨va1, vc1, hue⟩ := isWd_slice HV1.out; subst hue; have HX1 := hid (HU1.out.grew hx); clear hu; clear hx)
        | (go_at_call 35; (with_reducible refine (HSI.out xl _ _ _ HG7.out HX1.out.ints HV1.out.ints).mono ?_); rintro e w8 ⟨rfl, hx⟩; have cp8 := (hx.cell (p := ⟨w.heap.size, 0, none⟩) hz7).trans cp7; have cq8 := (hx.cell (p := ⟨w.heap.size, 1, none⟩) hz7).trans cq7; have hz8 := Nat.lt_of_lt_of_le hz7 hx.size; have HG8 := hid (grew_trans HG7.out hx); clear hx)
        | (go_at_call 45; (with_reducible refine (HWY.out  _ HG8.out).mono ?_); rintro e w9 ⟨u, rfl, hx, hu⟩; have cp9 := (hx.cell (p := ⟨w.heap.size, 0, none⟩) hz8).trans cp8; have cq9 := (hx.cell (p := ⟨w.heap.size, 1, none⟩) hz8).trans cq8; have hz9 := Nat.lt_of_lt_of_le hz8 hx.size; have HG9 := hid (grew_trans HG8.out hx); have HU2 := hid hu; obtain ⟨ua2, uc2, hue⟩ := isWd_slice HU2.out; subst hue; clear hu; clear hx)
        | (go_at_call 53; (with_reducible refine (HWY'.out  _ HG9.out).mono ?_); rintro e w10 ⟨u', rfl, hx, hu⟩; have cp10 := (hx.cell (p := ⟨w.heap.size, 0, none⟩) hz9).trans cp9; have cq10 := (hx.cell (p := ⟨w.heap.size, 1, none⟩) hz9).trans cq9; have hz10 := Nat.lt_of_lt_of_le hz9 hx.size; have HG10 := hid (grew_trans HG9.out hx); have HV2 := hid hu; obtain ⟨va2, vc2, hue⟩ := isWd_slice HV2.out; subst hue; have HX2 := hid (HU2.out.grew hx); clear hu; clear hx)
        | (go_at_call 54; (with_reducible refine (HEN.out  _ HG10.out).mono ?_); rintro e w11 ⟨u, rfl, hx, hu⟩; have cp11 := (hx.cell (p := ⟨w.heap.size, 0, none⟩) hz10).trans cp10; have cq11 := (hx.cell (p := ⟨w.heap.size, 1, none⟩) hz10).trans cq10; have hz11 := Nat.lt_of_lt_of_le hz10 hx.size; have HG11 := hid (grew_trans HG10.out hx); have HU3 := hid hu; obtain ⟨ua3, uc3, hue⟩ := isWd_slice HU3.out; subst hue; have HX2b := hid (HX2.out.grew hx); have HV2b := hid (HV2.out.grew hx); clear hu; clear hx)
        | (go_at_call 55; (with_reducible refine (HEN'.out  _ HG11.out).mono ?_); rintro e w12 ⟨u', rfl, hx, hu⟩; have cp12 := (hx.cell (p := ⟨w.heap.size, 0, none⟩) hz11).trans cp11; have cq12 := (hx.cell (p := ⟨w.heap.size, 1, none⟩) hz11).trans cq11; have hz12 := Nat.lt_of_lt_of_le hz11 hx.size; have HG12 := hid (grew_trans HG11.out hx); have HV3 := hid hu; obtain ⟨va3, vc3, hue⟩ := isWd_slice HV3.out; subst hue; have HX3 := hid (HU3.out.grew hx); have HX2c := hid (HX2b.out.grew hx); have HV2c := hid (HV2b.out.grew hx); clear hu; clear hx)
        | (go_at_call 35; (with_reducible refine (HSI.out yl _ _ _ HG12.out HX2c.out.ints HV2c.out.ints).mono ?_); rintro e w13 ⟨rfl, hx⟩; have cp13 := (hx.cell (p := ⟨w.heap.size, 0, none⟩) hz12).trans cp12; have cq13 := (hx.cell (p := ⟨w.heap.size, 1, none⟩) hz12).trans cq12; have hz13 := Nat.lt_of_lt_of_le hz12 hx.size; have HG13 := hid (grew_trans HG12.out hx); have HX3d := hid (HX3.out.grew hx); have HV3d := hid (HV3.out.grew hx); clear hx)
        | (go_at_call 35; (with_reducible refine (HSI.out el _ _ _ HG13.out HX3d.out.ints HV3d.out.ints).mono ?_); rintro e w14 ⟨rfl, hx⟩; have cp14 := (hx.cell (p := ⟨w.heap.size, 0, none⟩) hz13).trans cp13; have cq14 := (hx.cell (p := ⟨w.heap.size, 1, none⟩) hz13).trans cq13; have hz14 := Nat.lt_of_lt_of_le hz13 hx.size; have HG14 := hid (grew_trans HG13.out hx); clear hx)
        | (go_at_call 17; (with_reducible refine (HAW.out  _ HG14.out).mono ?_); rintro e w15 ⟨rfl, hx⟩; have cp15 := (hx.cell (p := ⟨w.heap.size, 0, none⟩) hz14).trans cp14; have cq15 := (hx.cell (p := ⟨w.heap.size, 1, none⟩) hz14).trans cq14; have hz15 := Nat.lt_of_lt_of_le hz14 hx.size; have HG15 := hid (grew_trans HG14.out hx); clear hx))
      go_ret
      exact ⟨rfl, HG15.out⟩
end Go.Proofs.Ytojkohpniokaaaa
