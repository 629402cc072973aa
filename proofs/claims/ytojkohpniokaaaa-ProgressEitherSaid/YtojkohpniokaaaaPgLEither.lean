/- The law ProgressEither (14). Printed by gen_pgeither.py. -/
import Derived.Test.YtojkohpniokaaaaPgEitherP
import Derived.Test.YtojkohpniokaaaaPgOuts
namespace Go.Proofs.Ytojkohpniokaaaa
open Go Go.RowKit Go.Lin Go.Lin.Pg

set_option maxHeartbeats 16000000 in
set_option maxRecDepth 20000 in
theorem progressEither_law (g : Gr) (c0 t0 : Int) (r path circ : List Int) (v rv pv qv : Value) (w : World) (hn : -9223372036854775808 ≤ g.n ∧ g.n ≤ 9223372036854775807) (hc0 : 0 ≤ c0 ∧ c0 ≤ 255) (ht0 : 0 ≤ t0 ∧ t0 ≤ 255) (hv : IsGr w v g) (hr : IsWd w rv r) (hp : IsWd w pv path) (hq : IsWd w qv circ) :
    Calls Try.prog 14 #[v, .int .u8 c0, .int .u8 t0, rv, pv, qv] w fun e w' => e = .returned (.bool true) ∧ Grew w w' := by
  have HV := hid hv
  obtain ⟨s, rfl, hmv0⟩ := hv
  obtain ⟨gl, hgl⟩ : ∃ gl, g.ms.length = gl := ⟨_, rfl⟩
  obtain ⟨sa, sc, rfl, ⟨hgl1, hgl2⟩, hmvs0⟩ := hmv0
  rw [hgl] at HV hgl1 hgl2 ⊢
  have HGL := hid hgl
  have HMVS := hid hmvs0
  clear hmvs0 hgl
  obtain ⟨w0, hw0, g0, cp0, cq0, hz0⟩ := box2 w (.int .i64 g.n) (.slice sa gl sc) 24
  have HG0 := hid g0
  have HAW := hid (fun (W : World) (_ : Grew w W) => awake17_any W)
  have HLO := hid (fun (W : World) (h : Grew w W) => long15_any _ g W (HV.out.grew h))
  have HRW := hid hr
  have HPW := hid hp
  have HQW := hid hq
  have HMR := hid (fun (W : World) (h : Grew w W) => many26_any rv r W (hr.grew h))
  have HMA := hid (fun (W : World) (h : Grew w W) => many26_any pv path W (hp.grew h))
  have HMB := hid (fun (W : World) (h : Grew w W) => many26_any qv circ W (hq.grew h))
  have HVA := hid (fun (W : World) (h : Grew w W) => rValid16_any _ g W (HV.out.grew h))
  obtain ⟨lo, hlo⟩ : ∃ b, decide ((g.ms.length : Int) > 100) = b := ⟨_, rfl⟩
  obtain ⟨mr, hmr⟩ : ∃ b, decide ((r.length : Int) > 1100) = b := ⟨_, rfl⟩
  obtain ⟨ma, hma⟩ : ∃ b, decide ((path.length : Int) > 1100) = b := ⟨_, rfl⟩
  obtain ⟨mb, hmb⟩ : ∃ b, decide ((circ.length : Int) > 1100) = b := ⟨_, rfl⟩
  obtain ⟨vb, hvb⟩ : ∃ b, valid g = b := ⟨_, rfl⟩
  rw [hlo] at HLO
  rw [hmr] at HMR
  rw [hma] at HMA
  rw [hmb] at HMB
  rw [hvb] at HVA
  obtain ⟨rl, hrl⟩ : ∃ n, r.length = n := ⟨_, rfl⟩
  obtain ⟨pl, hpl⟩ : ∃ n, path.length = n := ⟨_, rfl⟩
  obtain ⟨ql, hql⟩ : ∃ n, circ.length = n := ⟨_, rfl⟩
  obtain ⟨ra, rc, rfl, hrm, hrc⟩ := hr.ints
  obtain ⟨pa, pc, rfl⟩ := isWd_slice hp
  obtain ⟨qa, qc, rfl⟩ := isWd_slice hq
  rw [hrl] at HRW HMR hrc ⊢
  rw [hpl] at HPW HMA ⊢
  rw [hql] at HQW HMB ⊢
  have HRL := hid hrl
  have HRC := hid hrc
  have HVB := hid hvb
  clear hlo hma hmb hmr hp hq hr hpl hql hrl hrc hvb hrm
  cases lo with
  | true =>
    go_enter Try.func14, Try.ntmps14
    go_wp2_with (first
      | (go_at_call 15; (with_reducible refine (HLO.out  _ HG0.out).mono ?_); rintro e w1 ⟨rfl, hx⟩; have cp1 := (hx.cell (p := ⟨w.heap.size, 0, none⟩) hz0).trans cp0; have cq1 := (hx.cell (p := ⟨w.heap.size, 1, none⟩) hz0).trans cq0; have hz1 := Nat.lt_of_lt_of_le hz0 hx.size; have HG1 := hid (grew_trans HG0.out hx); clear hx)
      | (go_at_call 17; (with_reducible refine (HAW.out  _ HG1.out).mono ?_); rintro e w2 ⟨rfl, hx⟩; have cp2 := (hx.cell (p := ⟨w.heap.size, 0, none⟩) hz1).trans cp1; have cq2 := (hx.cell (p := ⟨w.heap.size, 1, none⟩) hz1).trans cq1; have hz2 := Nat.lt_of_lt_of_le hz1 hx.size; have HG2 := hid (grew_trans HG1.out hx); clear hx))
    go_ret
    exact ⟨rfl, HG2.out⟩
  | false =>
    cases vb with
    | false =>
      go_enter Try.func14, Try.ntmps14
      go_wp2_with (first
        | (go_at_call 15; (with_reducible refine (HLO.out  _ HG0.out).mono ?_); rintro e w1 ⟨rfl, hx⟩; have cp1 := (hx.cell (p := ⟨w.heap.size, 0, none⟩) hz0).trans cp0; have cq1 := (hx.cell (p := ⟨w.heap.size, 1, none⟩) hz0).trans cq0; have hz1 := Nat.lt_of_lt_of_le hz0 hx.size; have HG1 := hid (grew_trans HG0.out hx); clear hx)
        | (go_at_call 16; (with_reducible refine (HVA.out  _ HG1.out).mono ?_); rintro e w2 ⟨rfl, hx⟩; have cp2 := (hx.cell (p := ⟨w.heap.size, 0, none⟩) hz1).trans cp1; have cq2 := (hx.cell (p := ⟨w.heap.size, 1, none⟩) hz1).trans cq1; have hz2 := Nat.lt_of_lt_of_le hz1 hx.size; have HG2 := hid (grew_trans HG1.out hx); clear hx)
        | (go_at_call 17; (with_reducible refine (HAW.out  _ HG2.out).mono ?_); rintro e w3 ⟨rfl, hx⟩; have cp3 := (hx.cell (p := ⟨w.heap.size, 0, none⟩) hz2).trans cp2; have cq3 := (hx.cell (p := ⟨w.heap.size, 1, none⟩) hz2).trans cq2; have hz3 := Nat.lt_of_lt_of_le hz2 hx.size; have HG3 := hid (grew_trans HG2.out hx); clear hx))
      go_ret
      exact ⟨rfl, HG3.out⟩
    | true =>
     cases mr with
     | true =>
      go_enter Try.func14, Try.ntmps14
      go_wp2_with (first
        | (go_at_call 15; (with_reducible refine (HLO.out  _ HG0.out).mono ?_); rintro e w1 ⟨rfl, hx⟩; have cp1 := (hx.cell (p := ⟨w.heap.size, 0, none⟩) hz0).trans cp0; have cq1 := (hx.cell (p := ⟨w.heap.size, 1, none⟩) hz0).trans cq0; have hz1 := Nat.lt_of_lt_of_le hz0 hx.size; have HG1 := hid (grew_trans HG0.out hx); clear hx)
        | (go_at_call 16; (with_reducible refine (HVA.out  _ HG1.out).mono ?_); rintro e w2 ⟨rfl, hx⟩; have cp2 := (hx.cell (p := ⟨w.heap.size, 0, none⟩) hz1).trans cp1; have cq2 := (hx.cell (p := ⟨w.heap.size, 1, none⟩) hz1).trans cq1; have hz2 := Nat.lt_of_lt_of_le hz1 hx.size; have HG2 := hid (grew_trans HG1.out hx); clear hx)
        | (go_at_call 26; (with_reducible refine (HMR.out  _ HG2.out).mono ?_); rintro e w3 ⟨rfl, hx⟩; have cp3 := (hx.cell (p := ⟨w.heap.size, 0, none⟩) hz2).trans cp2; have cq3 := (hx.cell (p := ⟨w.heap.size, 1, none⟩) hz2).trans cq2; have hz3 := Nat.lt_of_lt_of_le hz2 hx.size; have HG3 := hid (grew_trans HG2.out hx); clear hx)
        | (go_at_call 17; (with_reducible refine (HAW.out  _ HG3.out).mono ?_); rintro e w4 ⟨rfl, hx⟩; have cp4 := (hx.cell (p := ⟨w.heap.size, 0, none⟩) hz3).trans cp3; have cq4 := (hx.cell (p := ⟨w.heap.size, 1, none⟩) hz3).trans cq3; have hz4 := Nat.lt_of_lt_of_le hz3 hx.size; have HG4 := hid (grew_trans HG3.out hx); clear hx))
      go_ret
      exact ⟨rfl, HG4.out⟩
     | false =>
      cases ma with
      | true =>
        go_enter Try.func14, Try.ntmps14
        go_wp2_with (first
          | (go_at_call 15; (with_reducible refine (HLO.out  _ HG0.out).mono ?_); rintro e w1 ⟨rfl, hx⟩; have cp1 := (hx.cell (p := ⟨w.heap.size, 0, none⟩) hz0).trans cp0; have cq1 := (hx.cell (p := ⟨w.heap.size, 1, none⟩) hz0).trans cq0; have hz1 := Nat.lt_of_lt_of_le hz0 hx.size; have HG1 := hid (grew_trans HG0.out hx); clear hx)
          | (go_at_call 16; (with_reducible refine (HVA.out  _ HG1.out).mono ?_); rintro e w2 ⟨rfl, hx⟩; have cp2 := (hx.cell (p := ⟨w.heap.size, 0, none⟩) hz1).trans cp1; have cq2 := (hx.cell (p := ⟨w.heap.size, 1, none⟩) hz1).trans cq1; have hz2 := Nat.lt_of_lt_of_le hz1 hx.size; have HG2 := hid (grew_trans HG1.out hx); clear hx)
          | (go_at_call 26; (with_reducible refine (HMR.out  _ HG2.out).mono ?_); rintro e w3 ⟨rfl, hx⟩; have cp3 := (hx.cell (p := ⟨w.heap.size, 0, none⟩) hz2).trans cp2; have cq3 := (hx.cell (p := ⟨w.heap.size, 1, none⟩) hz2).trans cq2; have hz3 := Nat.lt_of_lt_of_le hz2 hx.size; have HG3 := hid (grew_trans HG2.out hx); clear hx)
          | (go_at_call 26; (with_reducible refine (HMA.out  _ HG3.out).mono ?_); rintro e w4 ⟨rfl, hx⟩; have cp4 := (hx.cell (p := ⟨w.heap.size, 0, none⟩) hz3).trans cp3; have cq4 := (hx.cell (p := ⟨w.heap.size, 1, none⟩) hz3).trans cq3; have hz4 := Nat.lt_of_lt_of_le hz3 hx.size; have HG4 := hid (grew_trans HG3.out hx); clear hx)
          | (go_at_call 17; (with_reducible refine (HAW.out  _ HG4.out).mono ?_); rintro e w5 ⟨rfl, hx⟩; have cp5 := (hx.cell (p := ⟨w.heap.size, 0, none⟩) hz4).trans cp4; have cq5 := (hx.cell (p := ⟨w.heap.size, 1, none⟩) hz4).trans cq4; have hz5 := Nat.lt_of_lt_of_le hz4 hx.size; have HG5 := hid (grew_trans HG4.out hx); clear hx))
        go_ret
        exact ⟨rfl, HG5.out⟩
      | false =>
       cases mb with
       | true =>
        go_enter Try.func14, Try.ntmps14
        go_wp2_with (first
          | (go_at_call 15; (with_reducible refine (HLO.out  _ HG0.out).mono ?_); rintro e w1 ⟨rfl, hx⟩; have cp1 := (hx.cell (p := ⟨w.heap.size, 0, none⟩) hz0).trans cp0; have cq1 := (hx.cell (p := ⟨w.heap.size, 1, none⟩) hz0).trans cq0; have hz1 := Nat.lt_of_lt_of_le hz0 hx.size; have HG1 := hid (grew_trans HG0.out hx); clear hx)
          | (go_at_call 16; (with_reducible refine (HVA.out  _ HG1.out).mono ?_); rintro e w2 ⟨rfl, hx⟩; have cp2 := (hx.cell (p := ⟨w.heap.size, 0, none⟩) hz1).trans cp1; have cq2 := (hx.cell (p := ⟨w.heap.size, 1, none⟩) hz1).trans cq1; have hz2 := Nat.lt_of_lt_of_le hz1 hx.size; have HG2 := hid (grew_trans HG1.out hx); clear hx)
          | (go_at_call 26; (with_reducible refine (HMR.out  _ HG2.out).mono ?_); rintro e w3 ⟨rfl, hx⟩; have cp3 := (hx.cell (p := ⟨w.heap.size, 0, none⟩) hz2).trans cp2; have cq3 := (hx.cell (p := ⟨w.heap.size, 1, none⟩) hz2).trans cq2; have hz3 := Nat.lt_of_lt_of_le hz2 hx.size; have HG3 := hid (grew_trans HG2.out hx); clear hx)
          | (go_at_call 26; (with_reducible refine (HMA.out  _ HG3.out).mono ?_); rintro e w4 ⟨rfl, hx⟩; have cp4 := (hx.cell (p := ⟨w.heap.size, 0, none⟩) hz3).trans cp3; have cq4 := (hx.cell (p := ⟨w.heap.size, 1, none⟩) hz3).trans cq3; have hz4 := Nat.lt_of_lt_of_le hz3 hx.size; have HG4 := hid (grew_trans HG3.out hx); clear hx)
          | (go_at_call 26; (with_reducible refine (HMB.out  _ HG4.out).mono ?_); rintro e w5 ⟨rfl, hx⟩; have cp5 := (hx.cell (p := ⟨w.heap.size, 0, none⟩) hz4).trans cp4; have cq5 := (hx.cell (p := ⟨w.heap.size, 1, none⟩) hz4).trans cq4; have hz5 := Nat.lt_of_lt_of_le hz4 hx.size; have HG5 := hid (grew_trans HG4.out hx); clear hx)
          | (go_at_call 17; (with_reducible refine (HAW.out  _ HG5.out).mono ?_); rintro e w6 ⟨rfl, hx⟩; have cp6 := (hx.cell (p := ⟨w.heap.size, 0, none⟩) hz5).trans cp5; have cq6 := (hx.cell (p := ⟨w.heap.size, 1, none⟩) hz5).trans cq5; have hz6 := Nat.lt_of_lt_of_le hz5 hx.size; have HG6 := hid (grew_trans HG5.out hx); clear hx))
        go_ret
        exact ⟨rfl, HG6.out⟩
       | false =>
        have HAS := hid (fun (W : World) (_ : Grew w W) => asked36_any c0 t0 W hc0 ht0)
        have hask := ask_ok HVB.out c0 t0
        obtain ⟨c, hc⟩ : ∃ c, askC c0 = c := ⟨_, rfl⟩
        obtain ⟨t, ht⟩ : ∃ t, askT c0 t0 = t := ⟨_, rfl⟩
        rw [hc, ht] at HAS
        rw [hc, ht] at hask
        have HA := hid hask
        have HHO := hid (fun (W : World) (h : Grew w W) => holds20_any _ g c t W hn (HV.out.grew h))
        have HRK := hid (fun (W : World) (h : Grew w W) => ranks18_any _ g c t W hn (HV.out.grew h))
        have HPR := hid (fun (W : World) (h : Grew w W) => prove21_any _ g c t (.slice ra rl rc) r W hn (HV.out.grew h) (HRW.out.grew h).ints)
        have HRE := hid (fun (W : World) (h : Grew w W) => refutes22_any _ g c t (.slice pa pl pc) (.slice qa ql qc) path circ W hn (HV.out.grew h) (HPW.out.grew h).ints (HQW.out.grew h).ints)
        have HPE := hid (prove_err HA.out r)
        rw [holds_ok hask] at HHO
        rw [refute_ok hask] at HRE
        simp only at HHO HRE
        have hrfs := refute_says (path := path) (circ := circ) hask
        have hprs := fun e => prove_says (c := c) (t := t) (e := e) (g := g) (r := r)
        obtain ⟨⟨pb, pe⟩, hpp⟩ : ∃ x, proveA g c t r = x := ⟨_, rfl⟩
        rw [hpp] at HPR HPE hprs
        simp only at HPR HPE
        obtain ⟨rb, hrb⟩ : ∃ x, refutesB g.ms c t path circ = x := ⟨_, rfl⟩
        rw [hrb] at HRE hrfs
        have HRFS := hid hrfs
        have HPRS := hid (hprs pe)
        clear hpp hrb hprs hrfs hc ht hask
        obtain ⟨hb, hhb⟩ : ∃ b, hol g c t = b := ⟨_, rfl⟩
        have HB := hid hhb
        rw [hhb] at HHO
        clear hhb
        cases hb with
        | false =>
          have HLA := hid (fun (W : World) (h : Grew w W) => lasso_no hn (HV.out.grew h) HA.out HB.out)
          rw [ranks_no HA.out HB.out] at HRK
          simp only at HRK
          obtain rfl : pb = false := by
            cases pb with
            | false => rfl
            | true => have h := (HPRS.out rfl).1; rw [HB.out] at h; cases h
          have main : ∀ pe : Int, (pe = 0 ∨ pe = 2) → Hid (∀ (W : World) (_ : Grew w W), Calls Try.prog 21 #[.agg #[.int .i64 g.n, .slice sa gl sc], .int .i64 c, .int .i64 t, .slice ra rl rc] W fun e w' => e = .returned (.tuple #[.bool false, .int .i64 pe]) ∧ Grew W w') → Calls Try.prog 14 #[.agg #[.int .i64 g.n, .slice sa gl sc], .int .u8 c0, .int .u8 t0, .slice ra rl rc, .slice pa pl pc, .slice qa ql qc] w fun e w' => e = .returned (.bool true) ∧ Grew w w' := by
            clear HPR HPE HPRS pe
            intro pe hpe HPR
            rcases hpe with rfl | rfl <;> cases rb
            all_goals (
              go_enter Try.func14, Try.ntmps14
              go_wp2_with (first
                | (go_at_call 15; (with_reducible refine (HLO.out  _ HG0.out).mono ?_); rintro e w1 ⟨rfl, hx⟩; have cp1 := (hx.cell (p := ⟨w.heap.size, 0, none⟩) hz0).trans cp0; have cq1 := (hx.cell (p := ⟨w.heap.size, 1, none⟩) hz0).trans cq0; have hz1 := Nat.lt_of_lt_of_le hz0 hx.size; have HG1 := hid (grew_trans HG0.out hx); clear hx)
                | (go_at_call 16; (with_reducible refine (HVA.out  _ HG1.out).mono ?_); rintro e w2 ⟨rfl, hx⟩; have cp2 := (hx.cell (p := ⟨w.heap.size, 0, none⟩) hz1).trans cp1; have cq2 := (hx.cell (p := ⟨w.heap.size, 1, none⟩) hz1).trans cq1; have hz2 := Nat.lt_of_lt_of_le hz1 hx.size; have HG2 := hid (grew_trans HG1.out hx); clear hx)
                | (go_at_call 26; (with_reducible refine (HMR.out  _ HG2.out).mono ?_); rintro e w3 ⟨rfl, hx⟩; have cp3 := (hx.cell (p := ⟨w.heap.size, 0, none⟩) hz2).trans cp2; have cq3 := (hx.cell (p := ⟨w.heap.size, 1, none⟩) hz2).trans cq2; have hz3 := Nat.lt_of_lt_of_le hz2 hx.size; have HG3 := hid (grew_trans HG2.out hx); clear hx)
                | (go_at_call 26; (with_reducible refine (HMA.out  _ HG3.out).mono ?_); rintro e w4 ⟨rfl, hx⟩; have cp4 := (hx.cell (p := ⟨w.heap.size, 0, none⟩) hz3).trans cp3; have cq4 := (hx.cell (p := ⟨w.heap.size, 1, none⟩) hz3).trans cq3; have hz4 := Nat.lt_of_lt_of_le hz3 hx.size; have HG4 := hid (grew_trans HG3.out hx); clear hx)
                | (go_at_call 26; (with_reducible refine (HMB.out  _ HG4.out).mono ?_); rintro e w5 ⟨rfl, hx⟩; have cp5 := (hx.cell (p := ⟨w.heap.size, 0, none⟩) hz4).trans cp4; have cq5 := (hx.cell (p := ⟨w.heap.size, 1, none⟩) hz4).trans cq4; have hz5 := Nat.lt_of_lt_of_le hz4 hx.size; have HG5 := hid (grew_trans HG4.out hx); clear hx)
                | (go_at_call 36; (with_reducible refine (HAS.out  _ HG5.out).mono ?_); rintro e w6 ⟨rfl, hx⟩; have cp6 := (hx.cell (p := ⟨w.heap.size, 0, none⟩) hz5).trans cp5; have cq6 := (hx.cell (p := ⟨w.heap.size, 1, none⟩) hz5).trans cq5; have hz6 := Nat.lt_of_lt_of_le hz5 hx.size; have HG6 := hid (grew_trans HG5.out hx); clear hx)
                | (go_at_call 20; (with_reducible refine (HHO.out  _ HG6.out).mono ?_); rintro e w7 ⟨rfl, hx⟩; have cp7 := (hx.cell (p := ⟨w.heap.size, 0, none⟩) hz6).trans cp6; have cq7 := (hx.cell (p := ⟨w.heap.size, 1, none⟩) hz6).trans cq6; have hz7 := Nat.lt_of_lt_of_le hz6 hx.size; have HG7 := hid (grew_trans HG6.out hx); clear hx)
                | (go_at_call 18; (with_reducible refine (HRK.out  _ HG7.out).mono ?_); rintro e w8 ⟨u, rfl, hx, hu⟩; have cp8 := (hx.cell (p := ⟨w.heap.size, 0, none⟩) hz7).trans cp7; have cq8 := (hx.cell (p := ⟨w.heap.size, 1, none⟩) hz7).trans cq7; have hz8 := Nat.lt_of_lt_of_le hz7 hx.size; have HG8 := hid (grew_trans HG7.out hx); obtain ⟨ua, uc, rfl⟩ : ∃ a c, u = .slice a 0 c := isWd_slice hu; clear hu; clear hx)
                | (go_at_call 19; (with_reducible refine (HLA.out  _ HG8.out).mono ?_); rintro e w9 ⟨a1, n1, k1, a2, n2, k2, p2, c2, rfl, hx, hrf, hw1, hw2⟩; have cp9 := (hx.cell (p := ⟨w.heap.size, 0, none⟩) hz8).trans cp8; have cq9 := (hx.cell (p := ⟨w.heap.size, 1, none⟩) hz8).trans cq8; have hz9 := Nat.lt_of_lt_of_le hz8 hx.size; have HG9 := hid (grew_trans HG8.out hx); have HRF := hid (fun (W : World) (h1 : IsWd W (.slice a1 n1 k1) p2) (h2 : IsWd W (.slice a2 n2 k2) c2) (h3 : Grew w W) => refutes22_any _ g c t (.slice a1 n1 k1) (.slice a2 n2 k2) p2 c2 W hn (HV.out.grew h3) h1.ints h2.ints); rw [hrf.out] at HRF; simp only at HRF; clear hx)
                | (go_at_call 21; (with_reducible refine (HPR.out  _ HG9.out).mono ?_); rintro e w10 ⟨rfl, hx⟩; have cp10 := (hx.cell (p := ⟨w.heap.size, 0, none⟩) hz9).trans cp9; have cq10 := (hx.cell (p := ⟨w.heap.size, 1, none⟩) hz9).trans cq9; have hz10 := Nat.lt_of_lt_of_le hz9 hx.size; have HG10 := hid (grew_trans HG9.out hx); have HW1 := hid (hw1.out.grew hx); have HW2 := hid (hw2.out.grew hx); clear hx)
                | (go_at_call 22; (with_reducible refine (HRE.out  _ HG10.out).mono ?_); rintro e w11 ⟨rfl, hx⟩; have cp11 := (hx.cell (p := ⟨w.heap.size, 0, none⟩) hz10).trans cp10; have cq11 := (hx.cell (p := ⟨w.heap.size, 1, none⟩) hz10).trans cq10; have hz11 := Nat.lt_of_lt_of_le hz10 hx.size; have HG11 := hid (grew_trans HG10.out hx); have HX1 := hid (HW1.out.grew hx); have HX2 := hid (HW2.out.grew hx); clear hx)
                | (go_at_call 22; (with_reducible refine (HRF.out _ HX1.out HX2.out HG11.out).mono ?_); rintro e w12 ⟨rfl, hx⟩; have hz12 := Nat.lt_of_lt_of_le hz11 hx.size; have cp12 := (hx.cell (p := ⟨w.heap.size, 0, none⟩) hz11).trans cp11; have cq12 := (hx.cell (p := ⟨w.heap.size, 1, none⟩) hz11).trans cq11; have HG12 := hid (grew_trans HG11.out hx); clear hx)
                | (go_at_call 17; (with_reducible refine (HAW.out  _ HG12.out).mono ?_); rintro e w13 ⟨rfl, hx⟩; have cp13 := (hx.cell (p := ⟨w.heap.size, 0, none⟩) hz12).trans cp12; have cq13 := (hx.cell (p := ⟨w.heap.size, 1, none⟩) hz12).trans cq12; have hz13 := Nat.lt_of_lt_of_le hz12 hx.size; have HG13 := hid (grew_trans HG12.out hx); clear hx))
              go_ret
              exact ⟨rfl, HG13.out⟩)
          exact main pe HPE.out HPR
        | true =>
          have HLA := hid (fun (W : World) (h : Grew w W) => lasso_yes hn (HV.out.grew h) HA.out HB.out)
          rw [ranks_ok HA.out HB.out] at HRK
          simp only at HRK
          obtain rfl : rb = false := by
            cases rb with
            | false => rfl
            | true => have h := HRFS.out rfl; rw [HB.out] at h; cases h
          have hG := gOk_valid HVB.out
          have hgn := hG.n
          obtain ⟨N, hN⟩ : ∃ N, g.N = N := ⟨_, rfl⟩
          have HOP := hid (own_prove HA.out HB.out)
          have hlen : (ranksM g.ms g.N c t).length = N := by rw [← hN]; unfold ranksM; exact rounds_length _
          have HOWN := hid (fun (u : Value) (W : World) (hu : IsWd W u (ranksM g.ms g.N c t)) (h : Grew w W) => prove21_any _ g c t u (ranksM g.ms g.N c t) W hn (HV.out.grew h) hu.ints)
          rw [HOP.out] at HOWN
          simp only at HOWN
          have HRCH := hid (fun (W : World) (h : Grew w W) => reached29_any _ g W hn (HV.out.grew h))
          have hrch : reachedA g = (reachedM g.ms g.N, 0) := by unfold reachedA; rw [HVB.out]; rfl
          rw [hrch] at HRCH
          simp only at HRCH
          have HMEM := hid (fun (j : Nat) (hj : j < (reachedM g.ms g.N).length) => show ∃ p : Nat, nth (reachedM g.ms g.N) j = (p : Int) ∧ p < g.N by
            rw [nth_lt hj]
            have hm := List.getElem_mem hj
            unfold reachedM at hm
            rw [List.mem_filter, List.mem_map] at hm
            obtain ⟨⟨q, hq, hq2⟩, _⟩ := hm
            exact ⟨q, by unfold reachedM; exact hq2.symm, List.mem_range.1 hq⟩)
          rw [hN] at hgn HOWN HRCH HMEM HPRS HRK hlen
          obtain ⟨own, hown⟩ : ∃ l, ranksM g.ms N c t = l := ⟨_, rfl⟩
          obtain ⟨there, hthere⟩ : ∃ l, reachedM g.ms N = l := ⟨_, rfl⟩
          rw [hown] at HOWN HPRS HRK hlen
          rw [hthere] at HRCH HMEM
          obtain ⟨tl, htl⟩ : ∃ n, there.length = n := ⟨_, rfl⟩
          have HTL := hid htl
          have HOL := hid hlen
          have hN8 : N ≤ 8 := by have h := hG.h8; omega
          have htl8 : tl ≤ 8 := by have h := reachedM_len g.ms N; rw [hthere, htl] at h; omega
          rw [hgn] at HV HHO HLA HPR HRE HRK HOWN HRCH hw0 cp0 HLO HVA ⊢
          have HGN := hid hgn
          clear hG hgn hN hrch hown hthere htl hlen
          have main : ∀ pe : Int, (pe = 0 ∨ pe = 2) → Hid (pb = true → (hol g c t = true ∧ (r.length : Int) = g.n ∧ ∀ p, p < N → nth own p ≤ nth r p)) → Hid (∀ (W : World) (_ : Grew w W), Calls Try.prog 21 #[.agg #[.int .i64 (N : Int), .slice sa gl sc], .int .i64 c, .int .i64 t, .slice ra rl rc] W fun e w' => e = .returned (.tuple #[.bool pb, .int .i64 pe]) ∧ Grew W w') → Calls Try.prog 14 #[.agg #[.int .i64 (N : Int), .slice sa gl sc], .int .u8 c0, .int .u8 t0, .slice ra rl rc, .slice pa pl pc, .slice qa ql qc] w fun e w' => e = .returned (.bool true) ∧ Grew w w' := by
            clear HPR HPE HPRS pe
            intro pe hpe HPRS HPR
            have HRLN := hid (fun (h : pb = true) => show rl = N by have h2 := (HPRS.out h).2.1; rw [HRL.out, HGN.out] at h2; omega)
            cases pb
            · clear HRLN HPRS
              rcases hpe with rfl | rfl
              all_goals (
                go_enter Try.func14, Try.ntmps14
                go_wp2_with (first
                  | (go_at_call 15; (with_reducible refine (HLO.out  _ HG0.out).mono ?_); rintro e w1 ⟨rfl, hx⟩; have cp1 := (hx.cell (p := ⟨w.heap.size, 0, none⟩) hz0).trans cp0; have cq1 := (hx.cell (p := ⟨w.heap.size, 1, none⟩) hz0).trans cq0; have hz1 := Nat.lt_of_lt_of_le hz0 hx.size; have HG1 := hid (grew_trans HG0.out hx); clear hx)
                  | (go_at_call 16; (with_reducible refine (HVA.out  _ HG1.out).mono ?_); rintro e w2 ⟨rfl, hx⟩; have cp2 := (hx.cell (p := ⟨w.heap.size, 0, none⟩) hz1).trans cp1; have cq2 := (hx.cell (p := ⟨w.heap.size, 1, none⟩) hz1).trans cq1; have hz2 := Nat.lt_of_lt_of_le hz1 hx.size; have HG2 := hid (grew_trans HG1.out hx); clear hx)
                  | (go_at_call 26; (with_reducible refine (HMR.out  _ HG2.out).mono ?_); rintro e w3 ⟨rfl, hx⟩; have cp3 := (hx.cell (p := ⟨w.heap.size, 0, none⟩) hz2).trans cp2; have cq3 := (hx.cell (p := ⟨w.heap.size, 1, none⟩) hz2).trans cq2; have hz3 := Nat.lt_of_lt_of_le hz2 hx.size; have HG3 := hid (grew_trans HG2.out hx); clear hx)
                  | (go_at_call 26; (with_reducible refine (HMA.out  _ HG3.out).mono ?_); rintro e w4 ⟨rfl, hx⟩; have cp4 := (hx.cell (p := ⟨w.heap.size, 0, none⟩) hz3).trans cp3; have cq4 := (hx.cell (p := ⟨w.heap.size, 1, none⟩) hz3).trans cq3; have hz4 := Nat.lt_of_lt_of_le hz3 hx.size; have HG4 := hid (grew_trans HG3.out hx); clear hx)
                  | (go_at_call 26; (with_reducible refine (HMB.out  _ HG4.out).mono ?_); rintro e w5 ⟨rfl, hx⟩; have cp5 := (hx.cell (p := ⟨w.heap.size, 0, none⟩) hz4).trans cp4; have cq5 := (hx.cell (p := ⟨w.heap.size, 1, none⟩) hz4).trans cq4; have hz5 := Nat.lt_of_lt_of_le hz4 hx.size; have HG5 := hid (grew_trans HG4.out hx); clear hx)
                  | (go_at_call 36; (with_reducible refine (HAS.out  _ HG5.out).mono ?_); rintro e w6 ⟨rfl, hx⟩; have cp6 := (hx.cell (p := ⟨w.heap.size, 0, none⟩) hz5).trans cp5; have cq6 := (hx.cell (p := ⟨w.heap.size, 1, none⟩) hz5).trans cq5; have hz6 := Nat.lt_of_lt_of_le hz5 hx.size; have HG6 := hid (grew_trans HG5.out hx); clear hx)
                  | (go_at_call 20; (with_reducible refine (HHO.out  _ HG6.out).mono ?_); rintro e w7 ⟨rfl, hx⟩; have cp7 := (hx.cell (p := ⟨w.heap.size, 0, none⟩) hz6).trans cp6; have cq7 := (hx.cell (p := ⟨w.heap.size, 1, none⟩) hz6).trans cq6; have hz7 := Nat.lt_of_lt_of_le hz6 hx.size; have HG7 := hid (grew_trans HG6.out hx); clear hx)
                  | (go_at_call 18; (with_reducible refine (HRK.out  _ HG7.out).mono ?_); rintro e w8 ⟨u, rfl, hx, hu⟩; have cp8 := (hx.cell (p := ⟨w.heap.size, 0, none⟩) hz7).trans cp7; have cq8 := (hx.cell (p := ⟨w.heap.size, 1, none⟩) hz7).trans cq7; have hz8 := Nat.lt_of_lt_of_le hz7 hx.size; have HG8 := hid (grew_trans HG7.out hx); obtain ⟨ua, uc, hue⟩ := isWd_slice hu; rw [HOL.out] at hue; subst hue; have HU := hid hu; clear hu; clear hx)
                  | (go_at_call 19; (with_reducible refine (HLA.out  _ HG8.out).mono ?_); rintro e w9 ⟨rfl, hx⟩; have cp9 := (hx.cell (p := ⟨w.heap.size, 0, none⟩) hz8).trans cp8; have cq9 := (hx.cell (p := ⟨w.heap.size, 1, none⟩) hz8).trans cq8; have hz9 := Nat.lt_of_lt_of_le hz8 hx.size; have HG9 := hid (grew_trans HG8.out hx); have HU2 := hid (HU.out.grew hx); clear hx)
                  | (go_at_call 21; (with_reducible refine (HPR.out  _ HG9.out).mono ?_); rintro e w10 ⟨rfl, hx⟩; have cp10 := (hx.cell (p := ⟨w.heap.size, 0, none⟩) hz9).trans cp9; have cq10 := (hx.cell (p := ⟨w.heap.size, 1, none⟩) hz9).trans cq9; have hz10 := Nat.lt_of_lt_of_le hz9 hx.size; have HG10 := hid (grew_trans HG9.out hx); have HU3 := hid (HU2.out.grew hx); clear hx)
                  | (go_at_call 22; (with_reducible refine (HRE.out  _ HG10.out).mono ?_); rintro e w11 ⟨rfl, hx⟩; have cp11 := (hx.cell (p := ⟨w.heap.size, 0, none⟩) hz10).trans cp10; have cq11 := (hx.cell (p := ⟨w.heap.size, 1, none⟩) hz10).trans cq10; have hz11 := Nat.lt_of_lt_of_le hz10 hx.size; have HG11 := hid (grew_trans HG10.out hx); have HU4 := hid (HU3.out.grew hx); clear hx)
                  | (go_at_call 21; (with_reducible refine (HOWN.out _ _ HU4.out HG11.out).mono ?_); rintro e w12 ⟨rfl, hx⟩; have hz12 := Nat.lt_of_lt_of_le hz11 hx.size; have cp12 := (hx.cell (p := ⟨w.heap.size, 0, none⟩) hz11).trans cp11; have cq12 := (hx.cell (p := ⟨w.heap.size, 1, none⟩) hz11).trans cq11; have HG12 := hid (grew_trans HG11.out hx); have HU5 := hid (HU4.out.grew hx); clear hx)
                  | (go_at_call 29; (with_reducible refine (HRCH.out  _ HG12.out).mono ?_); rintro e w13 ⟨u6, rfl, hx, hu⟩; have cp13 := (hx.cell (p := ⟨w.heap.size, 0, none⟩) hz12).trans cp12; have cq13 := (hx.cell (p := ⟨w.heap.size, 1, none⟩) hz12).trans cq12; have hz13 := Nat.lt_of_lt_of_le hz12 hx.size; have HG13 := hid (grew_trans HG12.out hx); obtain ⟨ta, tc, hte⟩ := isWd_slice hu; rw [HTL.out] at hte; subst hte; have HT := hid hu; have HU6 := hid (HU5.out.grew hx); clear hu; clear hx))
                have C0 := hid cp13
                obtain ⟨_, _, e1, _, htc⟩ := HT.out.ints
                simp only [Value.slice.injEq] at e1
                obtain ⟨rfl, -, rfl⟩ := e1
                obtain ⟨_, _, e1, _, huc⟩ := HU6.out.ints
                simp only [Value.slice.injEq] at e1
                obtain ⟨rfl, -, rfl⟩ := e1
                have HTC := hid htc; have HUC := hid huc
                clear htc huc
                go_loopg [31, 202] tl (fun k _ i wr => ∃ j : Nat, j ≤ tl ∧ i = .int .i64 (j : Int) ∧ Hid (k = tl - j) ∧ Hid (Grew w13 wr))
                case atStart => exact ⟨0, by omega, rfl, hid rfl, hid (grew_refl _)⟩
                case round =>
                  obtain ⟨j, hj, rfl, HK, HGR⟩ := hrel
                  rename World => wr
                  have c0r := (HGR.out.cell (p := ⟨w.heap.size, 0, none⟩) hz13).trans C0.out
                  have hzr := Nat.lt_of_lt_of_le hz13 HGR.out.size
                  have HGW := hid (grew_trans HG13.out HGR.out)
                  by_cases hlt : j < tl
                  · have hltI : (j : Int) < (tl : Int) := by omega
                    have HLT := hid hlt
                    obtain ⟨p, hp, hpN⟩ := HMEM.out j (by rw [HTL.out]; exact hlt)
                    obtain ⟨b, off, o, rfl, hbo, _, hcj⟩ := HTC.out j (by rw [HTL.out]; exact hlt)
                    simp only [hp] at hcj
                    have hbl := lt_of_obj hbo
                    have hcr := (HGR.out.cell (p := ⟨b, off + j, none⟩) hbl).trans hcj
                    have hbr := Nat.lt_of_lt_of_le hbl HGR.out.size
                    have hpI : (p : Int) < (N : Int) := by omega
                    have hp0 : ¬ ((p : Int) < 0) := by omega
                    have hpg : ¬ ((p : Int) ≥ (N : Int)) := by omega
                    have hd0 : decide ((p : Int) < 0) = false := decide_eq_false hp0
                    have hdg : decide ((p : Int) ≥ (N : Int)) = false := decide_eq_false hpg
                    have hdh : decide (N ≤ p) = false := decide_eq_false (by omega)
                    obtain ⟨ub, uoff, uo, rfl, hub, _, huj⟩ := HUC.out p (by rw [HOL.out]; exact hpN)
                    have hubl := lt_of_obj hub
                    have hur := (HGR.out.cell (p := ⟨ub, uoff + p, none⟩) hubl).trans huj
                    have hubr := Nat.lt_of_lt_of_le hubl HGR.out.size
                    clear hbo hcj hub huj hp
                    go_wp2
                    refine wp_region_later (by kernel_rfl) (by kernel_rfl) (fun hL => ?_)
                    repeat (go_big_quiet_step (fail))
                    refine wpQuiet_nil ?_
                    rintro wy ⟨zz, hzz⟩
                    have hwy : Grew wr wy := by rw [hzz]; exact zz.2
                    clear hL hzz zz
                    go_wp2
                    go_roundg (tl - (j + 1))
                    case measure => have := HK.out; have := HLT.out; omega
                    case rel => exact ⟨j + 1, by have := HLT.out; omega, by have := HLT.out; go_num, hid rfl, hid (grew_trans HGR.out hwy)⟩
                  · obtain rfl : j = tl := by omega
                    go_wp2_with (go_at_call 17; (with_reducible refine (HAW.out _ HGW.out).mono ?_); rintro e w20 ⟨rfl, hx⟩)
                    go_ret
                    exact ⟨rfl, grew_trans HGW.out hx⟩)
            · have HRL2 := hid (HRLN.out rfl); have HPR2 := hid (HPRS.out rfl).2.2
              rcases hpe with rfl | rfl
              all_goals (
                go_enter Try.func14, Try.ntmps14
                go_wp2_with (first
                  | (go_at_call 15; (with_reducible refine (HLO.out  _ HG0.out).mono ?_); rintro e w1 ⟨rfl, hx⟩; have cp1 := (hx.cell (p := ⟨w.heap.size, 0, none⟩) hz0).trans cp0; have cq1 := (hx.cell (p := ⟨w.heap.size, 1, none⟩) hz0).trans cq0; have hz1 := Nat.lt_of_lt_of_le hz0 hx.size; have HG1 := hid (grew_trans HG0.out hx); clear hx)
                  | (go_at_call 16; (with_reducible refine (HVA.out  _ HG1.out).mono ?_); rintro e w2 ⟨rfl, hx⟩; have cp2 := (hx.cell (p := ⟨w.heap.size, 0, none⟩) hz1).trans cp1; have cq2 := (hx.cell (p := ⟨w.heap.size, 1, none⟩) hz1).trans cq1; have hz2 := Nat.lt_of_lt_of_le hz1 hx.size; have HG2 := hid (grew_trans HG1.out hx); clear hx)
                  | (go_at_call 26; (with_reducible refine (HMR.out  _ HG2.out).mono ?_); rintro e w3 ⟨rfl, hx⟩; have cp3 := (hx.cell (p := ⟨w.heap.size, 0, none⟩) hz2).trans cp2; have cq3 := (hx.cell (p := ⟨w.heap.size, 1, none⟩) hz2).trans cq2; have hz3 := Nat.lt_of_lt_of_le hz2 hx.size; have HG3 := hid (grew_trans HG2.out hx); clear hx)
                  | (go_at_call 26; (with_reducible refine (HMA.out  _ HG3.out).mono ?_); rintro e w4 ⟨rfl, hx⟩; have cp4 := (hx.cell (p := ⟨w.heap.size, 0, none⟩) hz3).trans cp3; have cq4 := (hx.cell (p := ⟨w.heap.size, 1, none⟩) hz3).trans cq3; have hz4 := Nat.lt_of_lt_of_le hz3 hx.size; have HG4 := hid (grew_trans HG3.out hx); clear hx)
                  | (go_at_call 26; (with_reducible refine (HMB.out  _ HG4.out).mono ?_); rintro e w5 ⟨rfl, hx⟩; have cp5 := (hx.cell (p := ⟨w.heap.size, 0, none⟩) hz4).trans cp4; have cq5 := (hx.cell (p := ⟨w.heap.size, 1, none⟩) hz4).trans cq4; have hz5 := Nat.lt_of_lt_of_le hz4 hx.size; have HG5 := hid (grew_trans HG4.out hx); clear hx)
                  | (go_at_call 36; (with_reducible refine (HAS.out  _ HG5.out).mono ?_); rintro e w6 ⟨rfl, hx⟩; have cp6 := (hx.cell (p := ⟨w.heap.size, 0, none⟩) hz5).trans cp5; have cq6 := (hx.cell (p := ⟨w.heap.size, 1, none⟩) hz5).trans cq5; have hz6 := Nat.lt_of_lt_of_le hz5 hx.size; have HG6 := hid (grew_trans HG5.out hx); clear hx)
                  | (go_at_call 20; (with_reducible refine (HHO.out  _ HG6.out).mono ?_); rintro e w7 ⟨rfl, hx⟩; have cp7 := (hx.cell (p := ⟨w.heap.size, 0, none⟩) hz6).trans cp6; have cq7 := (hx.cell (p := ⟨w.heap.size, 1, none⟩) hz6).trans cq6; have hz7 := Nat.lt_of_lt_of_le hz6 hx.size; have HG7 := hid (grew_trans HG6.out hx); clear hx)
                  | (go_at_call 18; (with_reducible refine (HRK.out  _ HG7.out).mono ?_); rintro e w8 ⟨u, rfl, hx, hu⟩; have cp8 := (hx.cell (p := ⟨w.heap.size, 0, none⟩) hz7).trans cp7; have cq8 := (hx.cell (p := ⟨w.heap.size, 1, none⟩) hz7).trans cq7; have hz8 := Nat.lt_of_lt_of_le hz7 hx.size; have HG8 := hid (grew_trans HG7.out hx); obtain ⟨ua, uc, hue⟩ := isWd_slice hu; rw [HOL.out] at hue; subst hue; have HU := hid hu; clear hu; clear hx)
                  | (go_at_call 19; (with_reducible refine (HLA.out  _ HG8.out).mono ?_); rintro e w9 ⟨rfl, hx⟩; have cp9 := (hx.cell (p := ⟨w.heap.size, 0, none⟩) hz8).trans cp8; have cq9 := (hx.cell (p := ⟨w.heap.size, 1, none⟩) hz8).trans cq8; have hz9 := Nat.lt_of_lt_of_le hz8 hx.size; have HG9 := hid (grew_trans HG8.out hx); have HU2 := hid (HU.out.grew hx); clear hx)
                  | (go_at_call 21; (with_reducible refine (HPR.out  _ HG9.out).mono ?_); rintro e w10 ⟨rfl, hx⟩; have cp10 := (hx.cell (p := ⟨w.heap.size, 0, none⟩) hz9).trans cp9; have cq10 := (hx.cell (p := ⟨w.heap.size, 1, none⟩) hz9).trans cq9; have hz10 := Nat.lt_of_lt_of_le hz9 hx.size; have HG10 := hid (grew_trans HG9.out hx); have HU3 := hid (HU2.out.grew hx); clear hx)
                  | (go_at_call 22; (with_reducible refine (HRE.out  _ HG10.out).mono ?_); rintro e w11 ⟨rfl, hx⟩; have cp11 := (hx.cell (p := ⟨w.heap.size, 0, none⟩) hz10).trans cp10; have cq11 := (hx.cell (p := ⟨w.heap.size, 1, none⟩) hz10).trans cq10; have hz11 := Nat.lt_of_lt_of_le hz10 hx.size; have HG11 := hid (grew_trans HG10.out hx); have HU4 := hid (HU3.out.grew hx); clear hx)
                  | (go_at_call 21; (with_reducible refine (HOWN.out _ _ HU4.out HG11.out).mono ?_); rintro e w12 ⟨rfl, hx⟩; have hz12 := Nat.lt_of_lt_of_le hz11 hx.size; have cp12 := (hx.cell (p := ⟨w.heap.size, 0, none⟩) hz11).trans cp11; have cq12 := (hx.cell (p := ⟨w.heap.size, 1, none⟩) hz11).trans cq11; have HG12 := hid (grew_trans HG11.out hx); have HU5 := hid (HU4.out.grew hx); clear hx)
                  | (go_at_call 29; (with_reducible refine (HRCH.out  _ HG12.out).mono ?_); rintro e w13 ⟨u6, rfl, hx, hu⟩; have cp13 := (hx.cell (p := ⟨w.heap.size, 0, none⟩) hz12).trans cp12; have cq13 := (hx.cell (p := ⟨w.heap.size, 1, none⟩) hz12).trans cq12; have hz13 := Nat.lt_of_lt_of_le hz12 hx.size; have HG13 := hid (grew_trans HG12.out hx); obtain ⟨ta, tc, hte⟩ := isWd_slice hu; rw [HTL.out] at hte; subst hte; have HT := hid hu; have HU6 := hid (HU5.out.grew hx); clear hu; clear hx))
                have C0 := hid cp13
                obtain ⟨_, _, e1, _, htc⟩ := HT.out.ints
                simp only [Value.slice.injEq] at e1
                obtain ⟨rfl, -, rfl⟩ := e1
                obtain ⟨_, _, e1, _, huc⟩ := HU6.out.ints
                simp only [Value.slice.injEq] at e1
                obtain ⟨rfl, -, rfl⟩ := e1
                have HTC := hid htc; have HUC := hid huc
                clear htc huc
                go_loopg [31, 202] tl (fun k _ i wr => ∃ j : Nat, j ≤ tl ∧ i = .int .i64 (j : Int) ∧ Hid (k = tl - j) ∧ Hid (Grew w13 wr))
                case atStart => exact ⟨0, by omega, rfl, hid rfl, hid (grew_refl _)⟩
                case round =>
                  obtain ⟨j, hj, rfl, HK, HGR⟩ := hrel
                  rename World => wr
                  have c0r := (HGR.out.cell (p := ⟨w.heap.size, 0, none⟩) hz13).trans C0.out
                  have hzr := Nat.lt_of_lt_of_le hz13 HGR.out.size
                  have HGW := hid (grew_trans HG13.out HGR.out)
                  by_cases hlt : j < tl
                  · have hltI : (j : Int) < (tl : Int) := by omega
                    have HLT := hid hlt
                    obtain ⟨p, hp, hpN⟩ := HMEM.out j (by rw [HTL.out]; exact hlt)
                    obtain ⟨b, off, o, rfl, hbo, _, hcj⟩ := HTC.out j (by rw [HTL.out]; exact hlt)
                    simp only [hp] at hcj
                    have hbl := lt_of_obj hbo
                    have hcr := (HGR.out.cell (p := ⟨b, off + j, none⟩) hbl).trans hcj
                    have hbr := Nat.lt_of_lt_of_le hbl HGR.out.size
                    have hpI : (p : Int) < (N : Int) := by omega
                    have hp0 : ¬ ((p : Int) < 0) := by omega
                    have hpg : ¬ ((p : Int) ≥ (N : Int)) := by omega
                    have hd0 : decide ((p : Int) < 0) = false := decide_eq_false hp0
                    have hdg : decide ((p : Int) ≥ (N : Int)) = false := decide_eq_false hpg
                    have hdh : decide (N ≤ p) = false := decide_eq_false (by omega)
                    obtain ⟨ub, uoff, uo, rfl, hub, _, huj⟩ := HUC.out p (by rw [HOL.out]; exact hpN)
                    have hubl := lt_of_obj hub
                    have hur := (HGR.out.cell (p := ⟨ub, uoff + p, none⟩) hubl).trans huj
                    have hubr := Nat.lt_of_lt_of_le hubl HGR.out.size
                    clear hbo hcj hub huj hp
                    have hrl := HRL2.out
                    obtain ⟨rb, roff, ro, rfl, hrb, _, hrj⟩ := HRC.out p (by omega)
                    have hrbl := lt_of_obj hrb
                    have hrr := (HGW.out.cell (p := ⟨rb, roff + p, none⟩) hrbl).trans hrj
                    have hrbr := Nat.lt_of_lt_of_le hrbl HGW.out.size
                    have hle := HPR2.out p hpN
                    obtain ⟨x1, hx1⟩ : ∃ x, nth r p = x := ⟨_, rfl⟩
                    obtain ⟨x2, hx2⟩ : ∃ x, nth own p = x := ⟨_, rfl⟩
                    rw [hx1, hx2] at hle
                    simp only [hx1] at hrr
                    simp only [hx2] at hur
                    have hlt2 : ¬ (x1 < x2) := by omega
                    have hdl : decide (x1 < x2) = false := decide_eq_false hlt2
                    have hrlI : (rl : Int) = (N : Int) := by omega
                    have hpr : (p : Int) < (rl : Int) := by omega
                    have hne : ((rl : Int) != (N : Int)) = false := by simp [hrlI]
                    have hne2 : ((rl : Int) == (N : Int)) = true := by simp [hrlI]
                    clear hrb hrj hx1 hx2 hrl hrlI
                    go_wp2
                    refine wp_region_later (by kernel_rfl) (by kernel_rfl) (fun hL => ?_)
                    repeat (go_big_quiet_step (fail))
                    refine wpQuiet_nil ?_
                    rintro wy ⟨zz, hzz⟩
                    have hwy : Grew wr wy := by rw [hzz]; exact zz.2
                    clear hL hzz zz
                    go_wp2
                    go_roundg (tl - (j + 1))
                    case measure => have := HK.out; have := HLT.out; omega
                    case rel => exact ⟨j + 1, by have := HLT.out; omega, by have := HLT.out; go_num, hid rfl, hid (grew_trans HGR.out hwy)⟩
                  · obtain rfl : j = tl := by omega
                    go_wp2_with (go_at_call 17; (with_reducible refine (HAW.out _ HGW.out).mono ?_); rintro e w20 ⟨rfl, hx⟩)
                    go_ret
                    exact ⟨rfl, grew_trans HGW.out hx⟩)
          exact main pe HPE.out (hid (fun h => HPRS.out (by rw [h]))) HPR
end Go.Proofs.Ytojkohpniokaaaa
