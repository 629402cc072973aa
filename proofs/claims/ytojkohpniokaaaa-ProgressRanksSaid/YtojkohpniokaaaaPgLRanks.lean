/- The law ProgressRanks (6). Printed by gen_pgranks.py. -/
import Derived.Test.YtojkohpniokaaaaPgRef4
import Derived.Test.YtojkohpniokaaaaPgLaw0
namespace Go.Proofs.Ytojkohpniokaaaa
open Go Go.RowKit Go.Lin Go.Lin.Pg

set_option maxHeartbeats 4000000 in
set_option maxRecDepth 20000 in
theorem progressRanks_law (g : Gr) (c t : Int) (r : List Int) (v rv : Value) (w : World) (hn : -9223372036854775808 ≤ g.n ∧ g.n ≤ 9223372036854775807) (hv : IsGr w v g) (hr : IsWd w rv r) :
    Calls Try.prog 6 #[v, .int .i64 c, .int .i64 t, rv] w fun e w' => e = .returned (.bool true) ∧ Grew w w' := by
  have HV := hid hv
  obtain ⟨s, rfl, hmv0⟩ := hv
  obtain ⟨gl, hgl⟩ : ∃ gl, g.ms.length = gl := ⟨_, rfl⟩
  obtain ⟨sa, sc, rfl, ⟨hgl1, hgl2⟩, hmvs0⟩ := hmv0
  rw [hgl] at HV hgl1 hgl2 ⊢
  have HGL := hid hgl
  have HMVS := hid hmvs0
  clear hmvs0 hgl
  obtain ⟨w0, hw0, g0, cp0, cq0, hz0⟩ := box2 w (.int .i64 g.n) (.slice sa gl sc) 24
  have HG0 := hid g0
  have HAW := hid (fun (W : World) (_ : Grew w W) => awake17_any W)
  have HLO := hid (fun (W : World) (h : Grew w W) => long15_any _ g W (HV.out.grew h))
  have HR := hid hr
  have HMA := hid (fun (W : World) (h : Grew w W) => many26_any rv r W (hr.grew h))
  obtain ⟨lo, hlo⟩ : ∃ b, decide ((g.ms.length : Int) > 100) = b := ⟨_, rfl⟩
  obtain ⟨ma, hma⟩ : ∃ b, decide ((r.length : Int) > 1100) = b := ⟨_, rfl⟩
  rw [hlo] at HLO
  rw [hma] at HMA
  obtain ⟨ra, rc, rfl⟩ := isWd_slice hr
  obtain ⟨rl, hrl⟩ : ∃ n, r.length = n := ⟨_, rfl⟩
  rw [hrl] at HR HMA ⊢
  clear hlo hma hr hrl
  cases lo with
  | true =>
    go_enter Try.func6, Try.ntmps6
    go_wp2_with (first
      | (go_at_call 15; (with_reducible refine (HLO.out  _ HG0.out).mono ?_); rintro e w1 ⟨rfl, hx⟩; have cp1 := (hx.cell (p := ⟨w.heap.size, 0, none⟩) hz0).trans cp0; have cq1 := (hx.cell (p := ⟨w.heap.size, 1, none⟩) hz0).trans cq0; have hz1 := Nat.lt_of_lt_of_le hz0 hx.size; have HG1 := hid (grew_trans HG0.out hx); clear hx)
      | (go_at_call 17; (with_reducible refine (HAW.out  _ HG1.out).mono ?_); rintro e w2 ⟨rfl, hx⟩; have cp2 := (hx.cell (p := ⟨w.heap.size, 0, none⟩) hz1).trans cp1; have cq2 := (hx.cell (p := ⟨w.heap.size, 1, none⟩) hz1).trans cq1; have hz2 := Nat.lt_of_lt_of_le hz1 hx.size; have HG2 := hid (grew_trans HG1.out hx); clear hx))
    go_ret
    exact ⟨rfl, HG2.out⟩
  | false =>
    cases ma with
    | true =>
      go_enter Try.func6, Try.ntmps6
      go_wp2_with (first
        | (go_at_call 15; (with_reducible refine (HLO.out  _ HG0.out).mono ?_); rintro e w1 ⟨rfl, hx⟩; have cp1 := (hx.cell (p := ⟨w.heap.size, 0, none⟩) hz0).trans cp0; have cq1 := (hx.cell (p := ⟨w.heap.size, 1, none⟩) hz0).trans cq0; have hz1 := Nat.lt_of_lt_of_le hz0 hx.size; have HG1 := hid (grew_trans HG0.out hx); clear hx)
        | (go_at_call 26; (with_reducible refine (HMA.out  _ HG1.out).mono ?_); rintro e w2 ⟨rfl, hx⟩; have cp2 := (hx.cell (p := ⟨w.heap.size, 0, none⟩) hz1).trans cp1; have cq2 := (hx.cell (p := ⟨w.heap.size, 1, none⟩) hz1).trans cq1; have hz2 := Nat.lt_of_lt_of_le hz1 hx.size; have HG2 := hid (grew_trans HG1.out hx); clear hx)
        | (go_at_call 17; (with_reducible refine (HAW.out  _ HG2.out).mono ?_); rintro e w3 ⟨rfl, hx⟩; have cp3 := (hx.cell (p := ⟨w.heap.size, 0, none⟩) hz2).trans cp2; have cq3 := (hx.cell (p := ⟨w.heap.size, 1, none⟩) hz2).trans cq2; have hz3 := Nat.lt_of_lt_of_le hz2 hx.size; have HG3 := hid (grew_trans HG2.out hx); clear hx))
      go_ret
      exact ⟨rfl, HG3.out⟩
    | false =>
      have HH := hid (fun (W : World) (h : Grew w W) => holds20_any _ g c t W hn (HV.out.grew h))
      have HH' := hid (fun (W : World) (h : Grew w W) => rHolds33_any _ g c t W (HV.out.grew h))
      have HK := hid (fun (W : World) (h : Grew w W) => ranks18_any _ g c t W hn (HV.out.grew h))
      have HK' := hid (fun (W : World) (h : Grew w W) => rRanks34_any _ g c t W (HV.out.grew h))
      have HP := hid (fun (W : World) (h : Grew w W) => prove21_any _ g c t (.slice ra rl rc) r W hn (HV.out.grew h) (HR.out.grew h).ints)
      have HP' := hid (fun (W : World) (h : Grew w W) => rProve23_any _ g c t (.slice ra rl rc) r W (HV.out.grew h) (HR.out.grew h).ints)
      obtain ⟨⟨hb, he⟩, hh⟩ : ∃ x, holdsA g c t = x := ⟨_, rfl⟩
      obtain ⟨⟨kl, ke⟩, hk⟩ : ∃ x, ranksA g c t = x := ⟨_, rfl⟩
      obtain ⟨⟨pb, pe⟩, hp⟩ : ∃ x, proveA g c t r = x := ⟨_, rfl⟩
      rw [hh] at HH HH'
      rw [hk] at HK HK'
      rw [hp] at HP HP'
      simp only at HH HH' HK HK' HP HP'
      have HSI := hid (fun (u u' : Value) (W : World) (_ : Grew w W) (h : IsInts Any W u kl) (h' : IsInts Any W u' kl) => sameInts_any u u' kl kl W h h')
      rw [show (kl == kl) = true by simp] at HSI
      clear hh hk hp
      go_enter Try.func6, Try.ntmps6
      go_wp2_with (first
        | (go_at_call 15; (with_reducible refine (HLO.out  _ HG0.out).mono ?_); rintro e w1 ⟨rfl, hx⟩; have cp1 := (hx.cell (p := ⟨w.heap.size, 0, none⟩) hz0).trans cp0; have cq1 := (hx.cell (p := ⟨w.heap.size, 1, none⟩) hz0).trans cq0; have hz1 := Nat.lt_of_lt_of_le hz0 hx.size; have HG1 := hid (grew_trans HG0.out hx); clear hx)
        | (go_at_call 26; (with_reducible refine (HMA.out  _ HG1.out).mono ?_); rintro e w2 ⟨rfl, hx⟩; have cp2 := (hx.cell (p := ⟨w.heap.size, 0, none⟩) hz1).trans cp1; have cq2 := (hx.cell (p := ⟨w.heap.size, 1, none⟩) hz1).trans cq1; have hz2 := Nat.lt_of_lt_of_le hz1 hx.size; have HG2 := hid (grew_trans HG1.out hx); clear hx)
        | (go_at_call 20; (with_reducible refine (HH.out  _ HG2.out).mono ?_); rintro e w3 ⟨rfl, hx⟩; have cp3 := (hx.cell (p := ⟨w.heap.size, 0, none⟩) hz2).trans cp2; have cq3 := (hx.cell (p := ⟨w.heap.size, 1, none⟩) hz2).trans cq2; have hz3 := Nat.lt_of_lt_of_le hz2 hx.size; have HG3 := hid (grew_trans HG2.out hx); clear hx)
        | (go_at_call 33; (with_reducible refine (HH'.out  _ HG3.out).mono ?_); rintro e w4 ⟨rfl, hx⟩; have cp4 := (hx.cell (p := ⟨w.heap.size, 0, none⟩) hz3).trans cp3; have cq4 := (hx.cell (p := ⟨w.heap.size, 1, none⟩) hz3).trans cq3; have hz4 := Nat.lt_of_lt_of_le hz3 hx.size; have HG4 := hid (grew_trans HG3.out hx); clear hx)
        | (go_at_call 18; (with_reducible refine (HK.out  _ HG4.out).mono ?_); rintro e w5 ⟨u, rfl, hx, hu⟩; have cp5 := (hx.cell (p := ⟨w.heap.size, 0, none⟩) hz4).trans cp4; have cq5 := (hx.cell (p := ⟨w.heap.size, 1, none⟩) hz4).trans cq4; have hz5 := Nat.lt_of_lt_of_le hz4 hx.size; have HG5 := hid (grew_trans HG4.out hx); have HU := hid hu; clear hu; clear hx)
        | (go_at_call 34; (with_reducible refine (HK'.out  _ HG5.out).mono ?_); rintro e w6 ⟨u', rfl, hx, hu⟩; have cp6 := (hx.cell (p := ⟨w.heap.size, 0, none⟩) hz5).trans cp5; have cq6 := (hx.cell (p := ⟨w.heap.size, 1, none⟩) hz5).trans cq5; have hz6 := Nat.lt_of_lt_of_le hz5 hx.size; have HG6 := hid (grew_trans HG5.out hx); have HU' := hid hu; obtain ⟨ua, uc, hue⟩ := isWd_slice HU.out; subst hue; have HUX := hid (HU.out.grew hx); clear hu; clear hx)
        | (go_at_call 35; (with_reducible refine (HSI.out _ _ _ HG6.out HUX.out.ints HU'.out.ints).mono ?_); rintro e w7 ⟨rfl, hx⟩; have cp7 := (hx.cell (p := ⟨w.heap.size, 0, none⟩) hz6).trans cp6; have cq7 := (hx.cell (p := ⟨w.heap.size, 1, none⟩) hz6).trans cq6; have hz7 := Nat.lt_of_lt_of_le hz6 hx.size; have HG7 := hid (grew_trans HG6.out hx); clear hx)
        | (go_at_call 21; (with_reducible refine (HP.out  _ HG7.out).mono ?_); rintro e w8 ⟨rfl, hx⟩; have cp8 := (hx.cell (p := ⟨w.heap.size, 0, none⟩) hz7).trans cp7; have cq8 := (hx.cell (p := ⟨w.heap.size, 1, none⟩) hz7).trans cq7; have hz8 := Nat.lt_of_lt_of_le hz7 hx.size; have HG8 := hid (grew_trans HG7.out hx); clear hx)
        | (go_at_call 23; (with_reducible refine (HP'.out  _ HG8.out).mono ?_); rintro e w9 ⟨rfl, hx⟩; have cp9 := (hx.cell (p := ⟨w.heap.size, 0, none⟩) hz8).trans cp8; have cq9 := (hx.cell (p := ⟨w.heap.size, 1, none⟩) hz8).trans cq8; have hz9 := Nat.lt_of_lt_of_le hz8 hx.size; have HG9 := hid (grew_trans HG8.out hx); clear hx)
        | (go_at_call 17; (with_reducible refine (HAW.out  _ HG9.out).mono ?_); rintro e w10 ⟨rfl, hx⟩; have cp10 := (hx.cell (p := ⟨w.heap.size, 0, none⟩) hz9).trans cp9; have cq10 := (hx.cell (p := ⟨w.heap.size, 1, none⟩) hz9).trans cq9; have hz10 := Nat.lt_of_lt_of_le hz9 hx.size; have HG10 := hid (grew_trans HG9.out hx); clear hx))
      go_ret
      exact ⟨rfl, HG10.out⟩
end Go.Proofs.Ytojkohpniokaaaa
