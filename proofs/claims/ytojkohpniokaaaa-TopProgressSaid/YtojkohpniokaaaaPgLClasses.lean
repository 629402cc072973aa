/- The law ProgressClasses (4). Printed by gen_pgclasses.py. -/
import Derived.Test.YtojkohpniokaaaaPgRef3
import Derived.Test.YtojkohpniokaaaaPgLaw0
namespace Go.Lin.Pg
theorem hol_waits_alone {g : Gr} (hv : valid g = true) {t : Int} (h : hol g 1 t = true) : hol g 2 t = true :=
  have hG := gOk_valid hv
  waits_alone hG.h1 hG.h8 hG.inN h
theorem hol_locks_alone {g : Gr} (hv : valid g = true) {t : Int} (h : hol g 0 0 = true) : hol g 2 t = true :=
  have hG := gOk_valid hv
  locks_alone hG.h1 hG.h8 hG.inN h
theorem hol_everybody_locks {g : Gr} (hv : valid g = true) (h : allT g 3 = true) : hol g 0 0 = true := by
  have hG := gOk_valid hv
  have h3 : ∀ j : Nat, j < 3 → hol g 1 (j : Int) = true := fun j hj => by
    unfold allT at h
    exact List.all_eq_true.1 h j (List.mem_range.2 hj)
  refine everybody_locks hG.h1 hG.h8 hG.inN (fun m hm => ?_) (fun t ht => ?_)
  · have := hG.ths m hm
    unfold isTh at this
    simp only [Bool.and_eq_true, decide_eq_true_eq] at this
    omega
  · rcases ht with rfl | rfl | rfl
    · exact h3 0 (by omega)
    · exact h3 1 (by omega)
    · exact h3 2 (by omega)
theorem ask_alone {g : Gr} (h : valid g = true) {j : Nat} (hj : j < 3) : askM g 2 (j : Int) = 0 := by
  unfold askM
  rw [if_pos h, if_pos]
  unfold clOk isTh
  simp
  omega
end Go.Lin.Pg
namespace Go.Proofs.Ytojkohpniokaaaa
open Go Go.RowKit Go.Lin Go.Lin.Pg

set_option maxHeartbeats 8000000 in
set_option maxRecDepth 20000 in
theorem progressClasses_law (g : Gr) (v : Value) (w : World) (hn : -9223372036854775808 ≤ g.n ∧ g.n ≤ 9223372036854775807) (hv : IsGr w v g) :
    Calls Try.prog 4 #[v] w fun e w' => e = .returned (.bool true) ∧ Grew w w' := by
  have HV := hid hv
  obtain ⟨s, rfl, hmv0⟩ := hv
  obtain ⟨gl, hgl⟩ : ∃ gl, g.ms.length = gl := ⟨_, rfl⟩
  obtain ⟨sa, sc, rfl, ⟨hgl1, hgl2⟩, hmvs0⟩ := hmv0
  rw [hgl] at HV hgl1 hgl2 ⊢
  have HGL := hid hgl
  have HMVS := hid hmvs0
  clear hmvs0 hgl
  obtain ⟨w0, hw0, g0, cp0, cq0, hz0⟩ := box2 w (.int .i64 g.n) (.slice sa gl sc) 24
  have HG0 := hid g0
  have HAW := hid (fun (W : World) (_ : Grew w W) => awake17_any W)
  have HLO := hid (fun (W : World) (h : Grew w W) => long15_any _ g W (HV.out.grew h))
  obtain ⟨lo, hlo⟩ : ∃ b, decide ((g.ms.length : Int) > 100) = b := ⟨_, rfl⟩
  rw [hlo] at HLO
  clear hlo
  have HVA := hid (fun (W : World) (h : Grew w W) => rValid16_any _ g W (HV.out.grew h))
  cases lo with
  | true =>
    go_enter Try.func4, Try.ntmps4
    go_wp2_with (first
      | (go_at_call 15; (with_reducible refine (HLO.out  _ HG0.out).mono ?_); rintro e w1 ⟨rfl, hx⟩; have cp1 := (hx.cell (p := ⟨w.heap.size, 0, none⟩) hz0).trans cp0; have cq1 := (hx.cell (p := ⟨w.heap.size, 1, none⟩) hz0).trans cq0; have hz1 := Nat.lt_of_lt_of_le hz0 hx.size; have HG1 := hid (grew_trans HG0.out hx); clear hx)
      | (go_at_call 17; (with_reducible refine (HAW.out  _ HG1.out).mono ?_); rintro e w2 ⟨rfl, hx⟩; have cp2 := (hx.cell (p := ⟨w.heap.size, 0, none⟩) hz1).trans cp1; have cq2 := (hx.cell (p := ⟨w.heap.size, 1, none⟩) hz1).trans cq1; have hz2 := Nat.lt_of_lt_of_le hz1 hx.size; have HG2 := hid (grew_trans HG1.out hx); clear hx))
    go_ret
    exact ⟨rfl, HG2.out⟩
  | false =>
    obtain ⟨vb, hvb⟩ : ∃ b, valid g = b := ⟨_, rfl⟩
    rw [hvb] at HVA
    cases vb with
    | false =>
      clear hvb
      go_enter Try.func4, Try.ntmps4
      go_wp2_with (first
        | (go_at_call 15; (with_reducible refine (HLO.out  _ HG0.out).mono ?_); rintro e w1 ⟨rfl, hx⟩; have cp1 := (hx.cell (p := ⟨w.heap.size, 0, none⟩) hz0).trans cp0; have cq1 := (hx.cell (p := ⟨w.heap.size, 1, none⟩) hz0).trans cq0; have hz1 := Nat.lt_of_lt_of_le hz0 hx.size; have HG1 := hid (grew_trans HG0.out hx); clear hx)
        | (go_at_call 16; (with_reducible refine (HVA.out  _ HG1.out).mono ?_); rintro e w2 ⟨rfl, hx⟩; have cp2 := (hx.cell (p := ⟨w.heap.size, 0, none⟩) hz1).trans cp1; have cq2 := (hx.cell (p := ⟨w.heap.size, 1, none⟩) hz1).trans cq1; have hz2 := Nat.lt_of_lt_of_le hz1 hx.size; have HG2 := hid (grew_trans HG1.out hx); clear hx)
        | (go_at_call 17; (with_reducible refine (HAW.out  _ HG2.out).mono ?_); rintro e w3 ⟨rfl, hx⟩; have cp3 := (hx.cell (p := ⟨w.heap.size, 0, none⟩) hz2).trans cp2; have cq3 := (hx.cell (p := ⟨w.heap.size, 1, none⟩) hz2).trans cq2; have hz3 := Nat.lt_of_lt_of_le hz2 hx.size; have HG3 := hid (grew_trans HG2.out hx); clear hx))
      go_ret
      exact ⟨rfl, HG3.out⟩
    | true =>
      have H1 := hid (fun (W : World) (h : Grew w W) => everybody25_any _ g W hn (HV.out.grew h))
      have H2 := hid (fun (W : World) (h : Grew w W) => holds20_any _ g 0 0 W hn (HV.out.grew h))
      have hh : everyA g = (allT g 3, 0) := by unfold everyA; rw [hvb]; rfl
      have hl : holdsA g 0 0 = (hol g 0 0, 0) := by unfold holdsA; rw [if_pos (by unfold askM; rw [hvb]; rfl)]
      rw [hh] at H1
      rw [hl] at H2
      simp only at H1 H2
      have HHO := hid (fun (c t : Int) (W : World) (h : Grew w W) => holds20_any _ g c t W hn (HV.out.grew h))
      have HVB := hid hvb
      clear hh hl hvb
      obtain ⟨ev, hev⟩ : ∃ b, allT g 3 = b := ⟨_, rfl⟩
      obtain ⟨lk, hlk⟩ : ∃ b, hol g 0 0 = b := ⟨_, rfl⟩
      have HEV := hid hev; have HLK := hid hlk
      rw [hev] at H1
      rw [hlk] at H2
      have himp : (ev && !lk) = false := by
        cases ev with
        | false => rfl
        | true => rw [← hlk, hol_everybody_locks HVB.out hev]; rfl
      clear hev hlk
      have main : ∀ (ev lk : Bool), (ev && !lk) = false → Hid (allT g 3 = ev) → Hid (hol g 0 0 = lk) → Hid (∀ (W : World) (_ : Grew w W), Calls Try.prog 25 #[.agg #[.int .i64 g.n, .slice sa gl sc]] W fun e w' => e = .returned (.tuple #[.bool ev, .int .i64 0]) ∧ Grew W w') → Hid (∀ (W : World) (_ : Grew w W), Calls Try.prog 20 #[.agg #[.int .i64 g.n, .slice sa gl sc], .int .i64 0, .int .i64 0] W fun e w' => e = .returned (.tuple #[.bool lk, .int .i64 0]) ∧ Grew W w') →
          Calls Try.prog 4 #[.agg #[.int .i64 g.n, .slice sa gl sc]] w fun e w' => e = .returned (.bool true) ∧ Grew w w' := by
        clear HEV HLK himp H1 H2 ev lk
        intro ev lk himp HEV HLK H1 H2
        cases ev <;> cases lk <;> (try (cases himp; done))
        all_goals (
          clear himp
          go_enter Try.func4, Try.ntmps4
          go_wp2_with (first
            | (go_at_call 15; (with_reducible refine (HLO.out  _ HG0.out).mono ?_); rintro e w1 ⟨rfl, hx⟩; have cp1 := (hx.cell (p := ⟨w.heap.size, 0, none⟩) hz0).trans cp0; have cq1 := (hx.cell (p := ⟨w.heap.size, 1, none⟩) hz0).trans cq0; have hz1 := Nat.lt_of_lt_of_le hz0 hx.size; have HG1 := hid (grew_trans HG0.out hx); clear hx)
            | (go_at_call 16; (with_reducible refine (HVA.out  _ HG1.out).mono ?_); rintro e w2 ⟨rfl, hx⟩; have cp2 := (hx.cell (p := ⟨w.heap.size, 0, none⟩) hz1).trans cp1; have cq2 := (hx.cell (p := ⟨w.heap.size, 1, none⟩) hz1).trans cq1; have hz2 := Nat.lt_of_lt_of_le hz1 hx.size; have HG2 := hid (grew_trans HG1.out hx); clear hx)
            | (go_at_call 25; (with_reducible refine (H1.out  _ HG2.out).mono ?_); rintro e w3 ⟨rfl, hx⟩; have cp3 := (hx.cell (p := ⟨w.heap.size, 0, none⟩) hz2).trans cp2; have cq3 := (hx.cell (p := ⟨w.heap.size, 1, none⟩) hz2).trans cq2; have hz3 := Nat.lt_of_lt_of_le hz2 hx.size; have HG3 := hid (grew_trans HG2.out hx); clear hx)
            | (go_at_call 20; (with_reducible refine (H2.out  _ HG3.out).mono ?_); rintro e w4 ⟨rfl, hx⟩; have cp4 := (hx.cell (p := ⟨w.heap.size, 0, none⟩) hz3).trans cp3; have cq4 := (hx.cell (p := ⟨w.heap.size, 1, none⟩) hz3).trans cq3; have hz4 := Nat.lt_of_lt_of_le hz3 hx.size; have HG4 := hid (grew_trans HG3.out hx); clear hx))
          have C0 := hid cp4; have C1 := hid cq4
          go_loopg [7, 8, 9, 10, 11, 12, 44, 47, 53] 3 (fun k al _ _ _ _ _ i _ _ wr => ∃ j : Nat, j ≤ 3 ∧ i = .int .i64 (j : Int) ∧ al = .bool (allT g j) ∧ Hid (k = 3 - j) ∧ Hid (Grew w4 wr))
          case atStart => exact ⟨0, by omega, rfl, rfl, hid rfl, hid (grew_refl _)⟩
          case round =>
            obtain ⟨j, hj, rfl, rfl, HK, HGR⟩ := hrel
            rename World => wr
            obtain ⟨al, hal⟩ : ∃ al, allT g j = al := ⟨_, rfl⟩
            have HAL := hid hal
            rw [hal]
            clear hal
            have HGW := hid (grew_trans HG4.out HGR.out)
            have k0' := (HGR.out.cell (p := ⟨w.heap.size, 0, none⟩) hz4).trans C0.out
            have k1' := (HGR.out.cell (p := ⟨w.heap.size, 1, none⟩) hz4).trans C1.out
            have hzr := Nat.lt_of_lt_of_le hz4 HGR.out.size
            by_cases hlt : j < 3
            · have hltI : (j : Int) < 3 := by omega
              have HLT := hid hlt
              have hw := HHO.out 1 (j : Int)
              have ha := HHO.out 2 (j : Int)
              rw [show holdsA g 1 (j : Int) = (hol g 1 (j : Int), 0) by unfold holdsA; rw [if_pos (ask_waits HVB.out hlt)]] at hw
              rw [show holdsA g 2 (j : Int) = (hol g 2 (j : Int), 0) by unfold holdsA; rw [if_pos (ask_alone HVB.out hlt)]] at ha
              have hs := allT_succ g j
              rw [HAL.out] at hs
              have i1 : hol g 1 (j : Int) = true → hol g 2 (j : Int) = true := hol_waits_alone HVB.out
              have i2 : hol g 0 0 = true → hol g 2 (j : Int) = true := hol_locks_alone HVB.out
              rw [HLK.out] at i2
              obtain ⟨q1, hq1⟩ : ∃ q, hol g 1 (j : Int) = q := ⟨_, rfl⟩
              obtain ⟨q2, hq2⟩ : ∃ q, hol g 2 (j : Int) = q := ⟨_, rfl⟩
              rw [hq1] at hw hs i1
              rw [hq2] at ha i1 i2
              have HW := hid hw; have HA := hid ha; have HS := hid hs; have I1 := hid i1; have I2 := hid i2
              clear hw ha hs i1 i2 hq1 hq2
              cases q1 <;> cases q2 <;> (try (exact absurd (I1.out rfl) (by decide))) <;> (try (exact absurd (I2.out rfl) (by decide)))
              all_goals (
                clear I1 I2
                cases al
                all_goals (
                  go_wp2_with (first
                    | (go_at_call 20; (with_reducible refine (HW.out _ HGW.out).mono ?_); rintro e w5 ⟨rfl, hx⟩; have c0 := (hx.cell (p := ⟨w.heap.size, 0, none⟩) hzr).trans k0'; have c1 := (hx.cell (p := ⟨w.heap.size, 1, none⟩) hzr).trans k1'; have HX := hid hx; clear hx)
                    | (go_at_call 20; (with_reducible refine (HA.out _ (grew_trans HGW.out HX.out)).mono ?_); rintro e w6 ⟨rfl, hx⟩; have HY := hid hx; clear hx))
                  go_roundg (3 - (j + 1))
                  case measure => have := HK.out; have := HLT.out; omega
                  case rel => exact ⟨j + 1, by have := HLT.out; omega, by go_num, by rw [HS.out]; rfl, hid rfl, hid (grew_trans HGR.out (grew_trans HX.out HY.out))⟩))
            · obtain rfl : j = 3 := by omega
              have hev := HEV.out
              rw [HAL.out] at hev
              subst hev
              go_wp2_with (go_at_call 17; (with_reducible refine (HAW.out _ HGW.out).mono ?_); rintro e w5 ⟨rfl, hx⟩)
              go_ret
              exact ⟨rfl, grew_trans HGW.out hx⟩)
      exact main ev lk himp HEV HLK H1 H2
end Go.Proofs.Ytojkohpniokaaaa
