/- The law ProgressLassos (12). Printed by gen_pglassos.py. -/
import Derived.Test.YtojkohpniokaaaaPgRef5
import Derived.Test.YtojkohpniokaaaaPgLaw0
namespace Go.Proofs.Ytojkohpniokaaaa
open Go Go.RowKit Go.Lin Go.Lin.Pg

set_option maxHeartbeats 8000000 in
set_option maxRecDepth 20000 in
theorem progressLassos_law (g : Gr) (c t : Int) (path circ : List Int) (v pv qv : Value) (w : World) (hn : -9223372036854775808 ≤ g.n ∧ g.n ≤ 9223372036854775807) (hv : IsGr w v g) (hp : IsWd w pv path) (hq : IsWd w qv circ) :
    Calls Try.prog 12 #[v, .int .i64 c, .int .i64 t, pv, qv] w fun e w' => e = .returned (.bool true) ∧ Grew w w' := by
  have HV := hid hv
  obtain ⟨s, rfl, hmv0⟩ := hv
  obtain ⟨gl, hgl⟩ : ∃ gl, g.ms.length = gl := ⟨_, rfl⟩
  obtain ⟨sa, sc, rfl, ⟨hgl1, hgl2⟩, hmvs0⟩ := hmv0
  rw [hgl] at HV hgl1 hgl2 ⊢
  have HGL := hid hgl
  have HMVS := hid hmvs0
  clear hmvs0 hgl
  obtain ⟨w0, hw0, g0, cp0, cq0, hz0⟩ := box2 w (.int .i64 g.n) (.slice sa gl sc) 24
  have HG0 := hid g0
  have HAW := hid (fun (W : World) (_ : Grew w W) => awake17_any W)
  have HLO := hid (fun (W : World) (h : Grew w W) => long15_any _ g W (HV.out.grew h))
  have HPW := hid hp
  have HQW := hid hq
  have HMA := hid (fun (W : World) (h : Grew w W) => many26_any pv path W (hp.grew h))
  have HMB := hid (fun (W : World) (h : Grew w W) => many26_any qv circ W (hq.grew h))
  obtain ⟨lo, hlo⟩ : ∃ b, decide ((g.ms.length : Int) > 100) = b := ⟨_, rfl⟩
  obtain ⟨ma, hma⟩ : ∃ b, decide ((path.length : Int) > 1100) = b := ⟨_, rfl⟩
  obtain ⟨mb, hmb⟩ : ∃ b, decide ((circ.length : Int) > 1100) = b := ⟨_, rfl⟩
  rw [hlo] at HLO
  rw [hma] at HMA
  rw [hmb] at HMB
  obtain ⟨pa, pc, rfl⟩ := isWd_slice hp
  obtain ⟨qa, qc, rfl⟩ := isWd_slice hq
  obtain ⟨pl, hpl⟩ : ∃ n, path.length = n := ⟨_, rfl⟩
  obtain ⟨ql, hql⟩ : ∃ n, circ.length = n := ⟨_, rfl⟩
  rw [hpl] at HPW HMA ⊢
  rw [hql] at HQW HMB ⊢
  clear hlo hma hmb hp hq hpl hql
  cases lo with
  | true =>
    go_enter Try.func12, Try.ntmps12
    go_wp2_with (first
      | (go_at_call 15; (with_reducible refine (HLO.out  _ HG0.out).mono ?_); rintro e w1 ⟨rfl, hx⟩; have cp1 := (hx.cell (p := ⟨w.heap.size, 0, none⟩) hz0).trans cp0; have cq1 := (hx.cell (p := ⟨w.heap.size, 1, none⟩) hz0).trans cq0; have hz1 := Nat.lt_of_lt_of_le hz0 hx.size; have HG1 := hid (grew_trans HG0.out hx); clear hx)
      | (go_at_call 17; (with_reducible refine (HAW.out  _ HG1.out).mono ?_); rintro e w2 ⟨rfl, hx⟩; have cp2 := (hx.cell (p := ⟨w.heap.size, 0, none⟩) hz1).trans cp1; have cq2 := (hx.cell (p := ⟨w.heap.size, 1, none⟩) hz1).trans cq1; have hz2 := Nat.lt_of_lt_of_le hz1 hx.size; have HG2 := hid (grew_trans HG1.out hx); clear hx))
    go_ret
    exact ⟨rfl, HG2.out⟩
  | false =>
    cases ma with
    | true =>
      go_enter Try.func12, Try.ntmps12
      go_wp2_with (first
        | (go_at_call 15; (with_reducible refine (HLO.out  _ HG0.out).mono ?_); rintro e w1 ⟨rfl, hx⟩; have cp1 := (hx.cell (p := ⟨w.heap.size, 0, none⟩) hz0).trans cp0; have cq1 := (hx.cell (p := ⟨w.heap.size, 1, none⟩) hz0).trans cq0; have hz1 := Nat.lt_of_lt_of_le hz0 hx.size; have HG1 := hid (grew_trans HG0.out hx); clear hx)
        | (go_at_call 26; (with_reducible refine (HMA.out  _ HG1.out).mono ?_); rintro e w2 ⟨rfl, hx⟩; have cp2 := (hx.cell (p := ⟨w.heap.size, 0, none⟩) hz1).trans cp1; have cq2 := (hx.cell (p := ⟨w.heap.size, 1, none⟩) hz1).trans cq1; have hz2 := Nat.lt_of_lt_of_le hz1 hx.size; have HG2 := hid (grew_trans HG1.out hx); clear hx)
        | (go_at_call 17; (with_reducible refine (HAW.out  _ HG2.out).mono ?_); rintro e w3 ⟨rfl, hx⟩; have cp3 := (hx.cell (p := ⟨w.heap.size, 0, none⟩) hz2).trans cp2; have cq3 := (hx.cell (p := ⟨w.heap.size, 1, none⟩) hz2).trans cq2; have hz3 := Nat.lt_of_lt_of_le hz2 hx.size; have HG3 := hid (grew_trans HG2.out hx); clear hx))
      go_ret
      exact ⟨rfl, HG3.out⟩
    | false =>
      cases mb with
      | true =>
        go_enter Try.func12, Try.ntmps12
        go_wp2_with (first
          | (go_at_call 15; (with_reducible refine (HLO.out  _ HG0.out).mono ?_); rintro e w1 ⟨rfl, hx⟩; have cp1 := (hx.cell (p := ⟨w.heap.size, 0, none⟩) hz0).trans cp0; have cq1 := (hx.cell (p := ⟨w.heap.size, 1, none⟩) hz0).trans cq0; have hz1 := Nat.lt_of_lt_of_le hz0 hx.size; have HG1 := hid (grew_trans HG0.out hx); clear hx)
          | (go_at_call 26; (with_reducible refine (HMA.out  _ HG1.out).mono ?_); rintro e w2 ⟨rfl, hx⟩; have cp2 := (hx.cell (p := ⟨w.heap.size, 0, none⟩) hz1).trans cp1; have cq2 := (hx.cell (p := ⟨w.heap.size, 1, none⟩) hz1).trans cq1; have hz2 := Nat.lt_of_lt_of_le hz1 hx.size; have HG2 := hid (grew_trans HG1.out hx); clear hx)
          | (go_at_call 26; (with_reducible refine (HMB.out  _ HG2.out).mono ?_); rintro e w3 ⟨rfl, hx⟩; have cp3 := (hx.cell (p := ⟨w.heap.size, 0, none⟩) hz2).trans cp2; have cq3 := (hx.cell (p := ⟨w.heap.size, 1, none⟩) hz2).trans cq2; have hz3 := Nat.lt_of_lt_of_le hz2 hx.size; have HG3 := hid (grew_trans HG2.out hx); clear hx)
          | (go_at_call 17; (with_reducible refine (HAW.out  _ HG3.out).mono ?_); rintro e w4 ⟨rfl, hx⟩; have cp4 := (hx.cell (p := ⟨w.heap.size, 0, none⟩) hz3).trans cp3; have cq4 := (hx.cell (p := ⟨w.heap.size, 1, none⟩) hz3).trans cq3; have hz4 := Nat.lt_of_lt_of_le hz3 hx.size; have HG4 := hid (grew_trans HG3.out hx); clear hx))
        go_ret
        exact ⟨rfl, HG4.out⟩
      | false =>
        have HR1 := hid (fun (W : World) (h : Grew w W) => refutes22_any _ g c t (.slice pa pl pc) (.slice qa ql qc) path circ W hn (HV.out.grew h) (HPW.out.grew h).ints (HQW.out.grew h).ints)
        have HR2 := hid (fun (W : World) (h : Grew w W) => rRefutes24_any _ g c t (.slice pa pl pc) (.slice qa ql qc) path circ W (HV.out.grew h) (HPW.out.grew h).ints (HQW.out.grew h).ints)
        obtain ⟨⟨rb, re⟩, hr⟩ : ∃ x, refuteA g c t path circ = x := ⟨_, rfl⟩
        rw [hr] at HR1 HR2
        simp only at HR1 HR2
        have HHO := hid (fun (W : World) (h : Grew w W) => rHolds33_any _ g c t W (HV.out.grew h))
        have HLA := hid (fun (W : World) (h : Grew w W) => lasso19_any _ g c t W hn (HV.out.grew h))
        clear hr
        by_cases ha : askM g c t = 0
        · have hh : holdsA g c t = (hol g c t, 0) := by unfold holdsA; rw [if_pos ha]
          rw [hh] at HHO
          simp only at HHO
          have HA := hid ha
          clear hh ha
          obtain ⟨hb, hhb⟩ : ∃ b, hol g c t = b := ⟨_, rfl⟩
          have HB := hid hhb
          rw [hhb] at HHO
          clear hhb
          cases hb with
          | true =>
            have HL2 := hid (fun (W : World) (h : Grew w W) => (HLA.out W h).mono (R' := fun (e : Ending) (w' : World) => e = .returned (.tuple #[.slice none 0 0, .slice none 0 0, .int .i64 5]) ∧ Grew W w') (by
              rintro e w' ⟨h1, ⟨h2, _⟩ | ⟨_, _, h3⟩ | ⟨_, h3, _⟩⟩
              · exact absurd HA.out h2
              · exact ⟨h3, h1⟩
              · rw [HB.out] at h3; cases h3))
            go_enter Try.func12, Try.ntmps12
            go_wp2_with (first
              | (go_at_call 15; (with_reducible refine (HLO.out  _ HG0.out).mono ?_); rintro e w1 ⟨rfl, hx⟩; have cp1 := (hx.cell (p := ⟨w.heap.size, 0, none⟩) hz0).trans cp0; have cq1 := (hx.cell (p := ⟨w.heap.size, 1, none⟩) hz0).trans cq0; have hz1 := Nat.lt_of_lt_of_le hz0 hx.size; have HG1 := hid (grew_trans HG0.out hx); clear hx)
              | (go_at_call 26; (with_reducible refine (HMA.out  _ HG1.out).mono ?_); rintro e w2 ⟨rfl, hx⟩; have cp2 := (hx.cell (p := ⟨w.heap.size, 0, none⟩) hz1).trans cp1; have cq2 := (hx.cell (p := ⟨w.heap.size, 1, none⟩) hz1).trans cq1; have hz2 := Nat.lt_of_lt_of_le hz1 hx.size; have HG2 := hid (grew_trans HG1.out hx); clear hx)
              | (go_at_call 26; (with_reducible refine (HMB.out  _ HG2.out).mono ?_); rintro e w3 ⟨rfl, hx⟩; have cp3 := (hx.cell (p := ⟨w.heap.size, 0, none⟩) hz2).trans cp2; have cq3 := (hx.cell (p := ⟨w.heap.size, 1, none⟩) hz2).trans cq2; have hz3 := Nat.lt_of_lt_of_le hz2 hx.size; have HG3 := hid (grew_trans HG2.out hx); clear hx)
              | (go_at_call 22; (with_reducible refine (HR1.out  _ HG3.out).mono ?_); rintro e w4 ⟨rfl, hx⟩; have cp4 := (hx.cell (p := ⟨w.heap.size, 0, none⟩) hz3).trans cp3; have cq4 := (hx.cell (p := ⟨w.heap.size, 1, none⟩) hz3).trans cq3; have hz4 := Nat.lt_of_lt_of_le hz3 hx.size; have HG4 := hid (grew_trans HG3.out hx); clear hx)
              | (go_at_call 24; (with_reducible refine (HR2.out  _ HG4.out).mono ?_); rintro e w5 ⟨rfl, hx⟩; have cp5 := (hx.cell (p := ⟨w.heap.size, 0, none⟩) hz4).trans cp4; have cq5 := (hx.cell (p := ⟨w.heap.size, 1, none⟩) hz4).trans cq4; have hz5 := Nat.lt_of_lt_of_le hz4 hx.size; have HG5 := hid (grew_trans HG4.out hx); clear hx)
              | (go_at_call 19; (with_reducible refine (HL2.out  _ HG5.out).mono ?_); rintro e w6 ⟨rfl, hx⟩; have cp6 := (hx.cell (p := ⟨w.heap.size, 0, none⟩) hz5).trans cp5; have cq6 := (hx.cell (p := ⟨w.heap.size, 1, none⟩) hz5).trans cq5; have hz6 := Nat.lt_of_lt_of_le hz5 hx.size; have HG6 := hid (grew_trans HG5.out hx); clear hx)
              | (go_at_call 33; (with_reducible refine (HHO.out  _ HG6.out).mono ?_); rintro e w7 ⟨rfl, hx⟩; have cp7 := (hx.cell (p := ⟨w.heap.size, 0, none⟩) hz6).trans cp6; have cq7 := (hx.cell (p := ⟨w.heap.size, 1, none⟩) hz6).trans cq6; have hz7 := Nat.lt_of_lt_of_le hz6 hx.size; have HG7 := hid (grew_trans HG6.out hx); clear hx)
              | (go_at_call 17; (with_reducible refine (HAW.out  _ HG7.out).mono ?_); rintro e w8 ⟨rfl, hx⟩; have cp8 := (hx.cell (p := ⟨w.heap.size, 0, none⟩) hz7).trans cp7; have cq8 := (hx.cell (p := ⟨w.heap.size, 1, none⟩) hz7).trans cq7; have hz8 := Nat.lt_of_lt_of_le hz7 hx.size; have HG8 := hid (grew_trans HG7.out hx); clear hx))
            go_ret
            exact ⟨rfl, HG8.out⟩
          | false =>
            have HL2 := hid (fun (W : World) (h : Grew w W) => (HLA.out W h).mono (R' := fun (e : Ending) (w' : World) => ∃ a1 n1 k1 a2 n2 k2 path circ, e = .returned (.tuple #[.slice a1 n1 k1, .slice a2 n2 k2, .int .i64 0]) ∧ Grew W w' ∧ n1 ≤ 100 ∧ n2 ≤ 100 ∧ Hid (refuteA g c t path circ = (true, 0)) ∧ Hid (IsWd w' (.slice a1 n1 k1) path) ∧ Hid (IsWd w' (.slice a2 n2 k2) circ)) (by
              rintro e w' ⟨h1, ⟨h2, _⟩ | ⟨_, h3, _⟩ | ⟨_, _, u, v, path, circ, rfl, h4, h5, h6, h7, h8⟩⟩
              · exact absurd HA.out h2
              · rw [HB.out] at h3; cases h3
              · obtain ⟨a1, k1, rfl⟩ := isWd_slice h7
                obtain ⟨a2, k2, rfl⟩ := isWd_slice h8
                refine ⟨a1, _, k1, a2, _, k2, pInts path, pInts circ, rfl, h1, by simp [pInts]; omega, by simp [pInts]; omega, hid ?_, hid h7, hid h8⟩
                unfold refuteA
                rw [if_pos HA.out, refutes_of_lasso h4 (by omega) (by omega)]))
            go_enter Try.func12, Try.ntmps12
            go_wp2_with (first
              | (go_at_call 15; (with_reducible refine (HLO.out  _ HG0.out).mono ?_); rintro e w1 ⟨rfl, hx⟩; have cp1 := (hx.cell (p := ⟨w.heap.size, 0, none⟩) hz0).trans cp0; have cq1 := (hx.cell (p := ⟨w.heap.size, 1, none⟩) hz0).trans cq0; have hz1 := Nat.lt_of_lt_of_le hz0 hx.size; have HG1 := hid (grew_trans HG0.out hx); clear hx)
              | (go_at_call 26; (with_reducible refine (HMA.out  _ HG1.out).mono ?_); rintro e w2 ⟨rfl, hx⟩; have cp2 := (hx.cell (p := ⟨w.heap.size, 0, none⟩) hz1).trans cp1; have cq2 := (hx.cell (p := ⟨w.heap.size, 1, none⟩) hz1).trans cq1; have hz2 := Nat.lt_of_lt_of_le hz1 hx.size; have HG2 := hid (grew_trans HG1.out hx); clear hx)
              | (go_at_call 26; (with_reducible refine (HMB.out  _ HG2.out).mono ?_); rintro e w3 ⟨rfl, hx⟩; have cp3 := (hx.cell (p := ⟨w.heap.size, 0, none⟩) hz2).trans cp2; have cq3 := (hx.cell (p := ⟨w.heap.size, 1, none⟩) hz2).trans cq2; have hz3 := Nat.lt_of_lt_of_le hz2 hx.size; have HG3 := hid (grew_trans HG2.out hx); clear hx)
              | (go_at_call 22; (with_reducible refine (HR1.out  _ HG3.out).mono ?_); rintro e w4 ⟨rfl, hx⟩; have cp4 := (hx.cell (p := ⟨w.heap.size, 0, none⟩) hz3).trans cp3; have cq4 := (hx.cell (p := ⟨w.heap.size, 1, none⟩) hz3).trans cq3; have hz4 := Nat.lt_of_lt_of_le hz3 hx.size; have HG4 := hid (grew_trans HG3.out hx); clear hx)
              | (go_at_call 24; (with_reducible refine (HR2.out  _ HG4.out).mono ?_); rintro e w5 ⟨rfl, hx⟩; have cp5 := (hx.cell (p := ⟨w.heap.size, 0, none⟩) hz4).trans cp4; have cq5 := (hx.cell (p := ⟨w.heap.size, 1, none⟩) hz4).trans cq4; have hz5 := Nat.lt_of_lt_of_le hz4 hx.size; have HG5 := hid (grew_trans HG4.out hx); clear hx)
              | (go_at_call 19; (with_reducible refine (HL2.out  _ HG5.out).mono ?_); rintro e w6 ⟨a1, n1, k1, a2, n2, k2, p2, c2, rfl, hx, hn1, hn2, hrf, hw1, hw2⟩; have cp6 := (hx.cell (p := ⟨w.heap.size, 0, none⟩) hz5).trans cp5; have cq6 := (hx.cell (p := ⟨w.heap.size, 1, none⟩) hz5).trans cq5; have hz6 := Nat.lt_of_lt_of_le hz5 hx.size; have HG6 := hid (grew_trans HG5.out hx); have HRF := hid (fun (W : World) (h1 : IsWd W (.slice a1 n1 k1) p2) (h2 : IsWd W (.slice a2 n2 k2) c2) (h3 : Grew w W) => rRefutes24_any _ g c t (.slice a1 n1 k1) (.slice a2 n2 k2) p2 c2 W (HV.out.grew h3) h1.ints h2.ints); rw [hrf.out] at HRF; simp only at HRF; have hn1I : (n1 : Int) ≤ 100 := (by omega); have hn2I : (n2 : Int) ≤ 100 := (by omega); have hd1 : decide ((n1 : Int) ≤ 100) = true := decide_eq_true hn1I; have hd2 : decide ((n2 : Int) ≤ 100) = true := decide_eq_true hn2I; have hd3 : decide (n1 ≤ 100) = true := decide_eq_true hn1; have hd4 : decide (n2 ≤ 100) = true := decide_eq_true hn2; clear hx)
              | (go_at_call 33; (with_reducible refine (HHO.out  _ HG6.out).mono ?_); rintro e w7 ⟨rfl, hx⟩; have cp7 := (hx.cell (p := ⟨w.heap.size, 0, none⟩) hz6).trans cp6; have cq7 := (hx.cell (p := ⟨w.heap.size, 1, none⟩) hz6).trans cq6; have hz7 := Nat.lt_of_lt_of_le hz6 hx.size; have HG7 := hid (grew_trans HG6.out hx); have HW1 := hid (hw1.out.grew hx); have HW2 := hid (hw2.out.grew hx); clear hx)
              | (go_at_call 24; (with_reducible refine (HRF.out _ HW1.out HW2.out HG7.out).mono ?_); rintro e w8 ⟨rfl, hx⟩; have hz8 := Nat.lt_of_lt_of_le hz7 hx.size; have cp8 := (hx.cell (p := ⟨w.heap.size, 0, none⟩) hz7).trans cp7; have cq8 := (hx.cell (p := ⟨w.heap.size, 1, none⟩) hz7).trans cq7; have HG8 := hid (grew_trans HG7.out hx); clear hx)
              | (go_at_call 17; (with_reducible refine (HAW.out  _ HG8.out).mono ?_); rintro e w9 ⟨rfl, hx⟩; have cp9 := (hx.cell (p := ⟨w.heap.size, 0, none⟩) hz8).trans cp8; have cq9 := (hx.cell (p := ⟨w.heap.size, 1, none⟩) hz8).trans cq8; have hz9 := Nat.lt_of_lt_of_le hz8 hx.size; have HG9 := hid (grew_trans HG8.out hx); clear hx))
            go_ret
            exact ⟨rfl, HG9.out⟩
        · have hh : holdsA g c t = (false, askM g c t) := by unfold holdsA; rw [if_neg ha]
          rw [hh] at HHO
          simp only at HHO
          have HL2 := hid (fun (W : World) (h : Grew w W) => (HLA.out W h).mono (R' := fun (e : Ending) (w' : World) => e = .returned (.tuple #[.slice none 0 0, .slice none 0 0, .int .i64 (askM g c t)]) ∧ Grew W w') (by
            rintro e w' ⟨h1, ⟨_, h2⟩ | ⟨h3, _⟩ | ⟨h3, _⟩⟩
            · exact ⟨h2, h1⟩
            · exact absurd h3 ha
            · exact absurd h3 ha))
          obtain ⟨e0, he0⟩ : ∃ e0, askM g c t = e0 := ⟨_, rfl⟩
          rw [he0] at HHO HL2 ha
          have ha1 : (e0 == 0) = false := by simpa using ha
          have ha2 : (e0 != 0) = true := by simpa using ha
          clear hh he0
          go_enter Try.func12, Try.ntmps12
          go_wp2_with (first
            | (go_at_call 15; (with_reducible refine (HLO.out  _ HG0.out).mono ?_); rintro e w1 ⟨rfl, hx⟩; have cp1 := (hx.cell (p := ⟨w.heap.size, 0, none⟩) hz0).trans cp0; have cq1 := (hx.cell (p := ⟨w.heap.size, 1, none⟩) hz0).trans cq0; have hz1 := Nat.lt_of_lt_of_le hz0 hx.size; have HG1 := hid (grew_trans HG0.out hx); clear hx)
            | (go_at_call 26; (with_reducible refine (HMA.out  _ HG1.out).mono ?_); rintro e w2 ⟨rfl, hx⟩; have cp2 := (hx.cell (p := ⟨w.heap.size, 0, none⟩) hz1).trans cp1; have cq2 := (hx.cell (p := ⟨w.heap.size, 1, none⟩) hz1).trans cq1; have hz2 := Nat.lt_of_lt_of_le hz1 hx.size; have HG2 := hid (grew_trans HG1.out hx); clear hx)
            | (go_at_call 26; (with_reducible refine (HMB.out  _ HG2.out).mono ?_); rintro e w3 ⟨rfl, hx⟩; have cp3 := (hx.cell (p := ⟨w.heap.size, 0, none⟩) hz2).trans cp2; have cq3 := (hx.cell (p := ⟨w.heap.size, 1, none⟩) hz2).trans cq2; have hz3 := Nat.lt_of_lt_of_le hz2 hx.size; have HG3 := hid (grew_trans HG2.out hx); clear hx)
            | (go_at_call 22; (with_reducible refine (HR1.out  _ HG3.out).mono ?_); rintro e w4 ⟨rfl, hx⟩; have cp4 := (hx.cell (p := ⟨w.heap.size, 0, none⟩) hz3).trans cp3; have cq4 := (hx.cell (p := ⟨w.heap.size, 1, none⟩) hz3).trans cq3; have hz4 := Nat.lt_of_lt_of_le hz3 hx.size; have HG4 := hid (grew_trans HG3.out hx); clear hx)
            | (go_at_call 24; (with_reducible refine (HR2.out  _ HG4.out).mono ?_); rintro e w5 ⟨rfl, hx⟩; have cp5 := (hx.cell (p := ⟨w.heap.size, 0, none⟩) hz4).trans cp4; have cq5 := (hx.cell (p := ⟨w.heap.size, 1, none⟩) hz4).trans cq4; have hz5 := Nat.lt_of_lt_of_le hz4 hx.size; have HG5 := hid (grew_trans HG4.out hx); clear hx)
            | (go_at_call 19; (with_reducible refine (HL2.out  _ HG5.out).mono ?_); rintro e w6 ⟨rfl, hx⟩; have cp6 := (hx.cell (p := ⟨w.heap.size, 0, none⟩) hz5).trans cp5; have cq6 := (hx.cell (p := ⟨w.heap.size, 1, none⟩) hz5).trans cq5; have hz6 := Nat.lt_of_lt_of_le hz5 hx.size; have HG6 := hid (grew_trans HG5.out hx); clear hx)
            | (go_at_call 33; (with_reducible refine (HHO.out  _ HG6.out).mono ?_); rintro e w7 ⟨rfl, hx⟩; have cp7 := (hx.cell (p := ⟨w.heap.size, 0, none⟩) hz6).trans cp6; have cq7 := (hx.cell (p := ⟨w.heap.size, 1, none⟩) hz6).trans cq6; have hz7 := Nat.lt_of_lt_of_le hz6 hx.size; have HG7 := hid (grew_trans HG6.out hx); clear hx)
            | (go_at_call 17; (with_reducible refine (HAW.out  _ HG7.out).mono ?_); rintro e w8 ⟨rfl, hx⟩; have cp8 := (hx.cell (p := ⟨w.heap.size, 0, none⟩) hz7).trans cp7; have cq8 := (hx.cell (p := ⟨w.heap.size, 1, none⟩) hz7).trans cq7; have hz8 := Nat.lt_of_lt_of_le hz7 hx.size; have HG8 := hid (grew_trans HG7.out hx); clear hx))
          go_ret
          exact ⟨rfl, HG8.out⟩
end Go.Proofs.Ytojkohpniokaaaa
