/- Walk: Valid of the reference (16). -/
import Derived.Test.YtojkohpniokaaaaPgVal
import Derived.DeepKeys
namespace Go.Proofs.Ytojkohpniokaaaa
open Go.RowKit Go.Lin Go.Lin.Pg Go.Maps

theorem lits50 (D : Nat) (x : Mv) (k0 : (Lit.int .i64 x.1).wf = true) (k1 : (Lit.int .i64 x.2.1).wf = true) (k2 : (Lit.int .i64 x.2.2.1).wf = true) : Try.prog.keyLits (D + 2) 50 [.int .i64 x.1, .int .i64 x.2.1, .int .i64 x.2.2.1, .bool x.2.2.2] = some [.int .i64 x.1, .int .i64 x.2.1, .int .i64 x.2.2.1, .bool x.2.2.2] := by
  have u50 := Try.underlying50
  have u3 := Try.underlying3
  have u4 := Try.underlying4
  have c50 : Try.prog.cellsOf 50 = 4 := by kernel_rfl
  have c3 : Try.prog.cellsOf 3 = 1 := by kernel_rfl
  have c4 : Try.prog.cellsOf 4 = 1 := by kernel_rfl
  have e0 : Try.prog.keyLits (D + 1) 3 [.int .i64 x.1] = some [.int .i64 x.1] := by
    unfold Program.keyLits; rw [u3]; simp only [k0, and_self, if_true]
  have e1 : Try.prog.keyLits (D + 1) 3 [.int .i64 x.2.1] = some [.int .i64 x.2.1] := by
    unfold Program.keyLits; rw [u3]; simp only [k1, and_self, if_true]
  have e2 : Try.prog.keyLits (D + 1) 3 [.int .i64 x.2.2.1] = some [.int .i64 x.2.2.1] := by
    unfold Program.keyLits; rw [u3]; simp only [k2, and_self, if_true]
  have e3 : Try.prog.keyLits (D + 1) 4 [.bool x.2.2.2] = some [.bool x.2.2.2] := by
    unfold Program.keyLits; rw [u4]
  unfold Program.keyLits; rw [u50]
  simp only [c50, List.length_cons, List.length_nil]
  rw [if_pos (by exact ⟨trivial, by kernel_rfl⟩)]
  simp only [List.mapM_cons, List.mapM_nil, List.drop_zero, List.drop_succ_cons, List.take_succ_cons, List.take_zero, c3, c4, e0, e1, e2, e3]
  rfl

/-- A move whose numbers are the machine's. -/
def MvWf (x : Mv) : Prop := (Lit.int .i64 x.1).wf = true ∧ (Lit.int .i64 x.2.1).wf = true ∧ (Lit.int .i64 x.2.2.1).wf = true

theorem lits_iff (x y : Mv) : ([Lit.int .i64 x.1, .int .i64 x.2.1, .int .i64 x.2.2.1, .bool x.2.2.2] = [.int .i64 y.1, .int .i64 y.2.1, .int .i64 y.2.2.1, .bool y.2.2.2]) ↔ x = y := by
  constructor
  · intro h
    simp at h
    obtain ⟨h1, h2, h3, h4⟩ := h
    exact Prod.ext h1 (Prod.ext h2 (Prod.ext h3 h4))
  · rintro rfl; rfl

theorem eq50 (x y : Mv) (hx : MvWf x) (hy : MvWf y) (w : World) : (Op.equalIn 10000 50 (encM x) (encM y)).run Try.prog w = .ok (x == y) w := by
  have hf : ∀ z : Mv, (encM z).formed Try.prog 50 = true := fun z => by
    unfold encM Value.formed; rw [Try.underlying50]; simp only [show Try.prog.cellsOf 50 = 4 by kernel_rfl]; rfl
  obtain ⟨r, hr, hiff⟩ := run_equalIn_deep (P := Try.prog) 9997 3 50 (by kernel_rfl) w 2 2 (encM x) (encM y) _ _ (hf x) (hf y) (lits50 0 x hx.1 hx.2.1 hx.2.2) (lits50 0 y hy.1 hy.2.1 hy.2.2)
  have hb : r = (x == y) := by
    rw [Bool.eq_iff_iff, hiff, beq_iff_eq]
    exact lits_iff x y
  subst hb
  exact hr

theorem not_mem_succM {s : List Mv} {i : Nat} {y x : Mv} (h : s[i]? = some y) : (s.take (i + 1)).contains x = ((s.take i).contains x || (x == y)) := by
  rw [take_add_getM h, List.contains_eq_any_beq, List.contains_eq_any_beq, List.any_append]
  simp

theorem mvOk_wf {n : Int} (hn : n ≤ 8) {x : Mv} (h : mvOk n x = true) : MvWf x := by
  unfold mvOk isPl isTh at h
  simp only [fr, tg, th, Bool.and_eq_true, decide_eq_true_eq] at h
  exact ⟨WalkArith.wf_i64 (by omega), WalkArith.wf_i64 (by omega), WalkArith.wf_i64 (by omega)⟩

set_option maxHeartbeats 8000000 in
set_option maxRecDepth 20000 in
theorem rValid16_any (v : Value) (g : Gr) (w : World) (hv : IsGr w v g) : Calls Try.prog 16 #[v] w fun e w' => e = .returned (.bool (valid g)) ∧ Grew w w' := by
  have HV := hid hv
  obtain ⟨s0, hveq, -⟩ := id hv
  subst hveq
  obtain ⟨N, ps⟩ := g
  obtain ⟨s, hs, va, vc, rfl, hm, hdd⟩ := hv
  simp only [Value.agg.injEq, Array.mk.injEq, List.cons.injEq, and_true, true_and] at hs
  subst hs
  simp only at hm hdd ⊢
  obtain ⟨m, hmm⟩ : ∃ m, ps.length = m := ⟨_, rfl⟩
  obtain ⟨W0, hW0, g0, k0, k1, hz⟩ := box2 w (.int .i64 N) (.slice va m vc) 24
  have HP := hid (fun (W : World) (hW : Grew w W) (z : Int) => isPl_any _ ⟨N, ps⟩ z W (HV.out.grew hW))
  have HT := hid (fun (z : Int) (W : World) => isTh_any z W)
  simp only [hmm] at HP
  rw [hmm] at hm ⊢
  obtain ⟨R, hR⟩ : ∃ R, valid ⟨N, ps⟩ = R := ⟨_, rfl⟩
  rw [hR]
  have HR := hid (show R = (mvsOk N (ps.take 0) (ps.drop 0) && (decide (1 ≤ N) && decide (N ≤ 8)) && decide (m ≤ 20)) from by rw [← hR]; unfold valid; simp only [hmm, List.take_zero, List.drop_zero])
  have HM := hid hmm
  have HDD := hid hdd
  have hg := g0
  have HEQ := hid eq50
  clear hmm hdd hR
  by_cases h18 : 1 ≤ N ∧ N ≤ 8 ∧ m ≤ 20
  · obtain ⟨h1, h8, h20⟩ := h18
    have hn1 : ¬ N < 1 := by omega
    have hn8 : ¬ 8 < N := by omega
    have hm20 : ¬ (20 : Int) < (m : Int) := by omega
    have hd1 : decide (N < 1) = false := by rw [decide_eq_false_iff_not]; exact hn1
    have hd8 : decide (8 < N) = false := by rw [decide_eq_false_iff_not]; exact hn8
    have hd20 : decide ((20 : Int) < (m : Int)) = false := by rw [decide_eq_false_iff_not]; exact hm20
    have hd20' : decide (20 < m) = false := by rw [decide_eq_false_iff_not]; omega
    go_enter Try.func16, Try.ntmps16
    go_wp2
    go_loopg [3, 4, 24] m (fun gk _ _ i wr => ∃ j : Nat, j ≤ m ∧ i = .int .i64 j ∧ gk = m - j ∧ Hid (R = (mvsOk N (ps.take j) (ps.drop j) && (decide (1 ≤ N) && decide (N ≤ 8)) && decide (m ≤ 20))) ∧ Hid (∀ y ∈ ps.take j, MvWf y) ∧ Hid (Grew W0 wr))
    case atStart => exact ⟨0, by omega, rfl, rfl, HR, hid (fun y hy => by simp at hy), hid (grew_refl _)⟩
    case round =>
      obtain ⟨j, hj, rfl, hk, HRR, HWF, HG⟩ := hrel
      have HK := hid hk; clear hk
      rename World => wr
      have kw0 := (HG.out.cell (p := ⟨w.heap.size, 0, none⟩) hz).trans k0
      have kw1 := (HG.out.cell (p := ⟨w.heap.size, 1, none⟩) hz).trans k1
      have hzw := Nat.lt_of_lt_of_le hz HG.out.size
      by_cases hlt : j < m
      · obtain ⟨x, hx⟩ : ∃ x, ps[j]? = some x := ⟨_, List.getElem?_eq_getElem (by rw [HM.out]; exact hlt)⟩
        obtain ⟨bb, off, rfl, hpa⟩ := HDD.out j x hx
        have hpa2 := ((hpa.grew hpa.lt g0).grew (hpa.grew hpa.lt g0).lt HG.out)
        have c0 := hpa2.c0
        have c1 := hpa2.c1
        have c2 := hpa2.c2
        have c3 := hpa2.c3
        have hlt2 := hpa2.lt
        have hsucc := mvsOk_drop (n := N) (s := ps.take j) hx
        rw [← take_add_getM hx] at hsucc
        obtain ⟨W1, hW1, g1, hb1⟩ := box4v wr x
        have l0 := hb1.c0
        have l1 := hb1.c1
        have l2 := hb1.c2
        have l3 := hb1.c3
        have hz1 := hb1.lt
        have HTKX := hid (take_add_getM hx)
        obtain ⟨x1, x2, x3, x4⟩ := x
        simp only [Nat.zero_add] at c0 c1 c2 c3 l0 l1 l2 l3 hW1
        have HG1 := hid (grew_trans HG.out g1)
        have kx0 := (g1.cell (p := ⟨w.heap.size, 0, none⟩) hzw).trans kw0
        have kx1 := (g1.cell (p := ⟨w.heap.size, 1, none⟩) hzw).trans kw1
        have hzx := Nat.lt_of_lt_of_le hzw g1.size
        obtain ⟨p1, hp1⟩ : ∃ q, isPl N x1 = q := ⟨_, rfl⟩
        obtain ⟨p2, hp2⟩ : ∃ q, isPl N x3 = q := ⟨_, rfl⟩
        obtain ⟨p3, hp3⟩ : ∃ q, isTh x2 = q := ⟨_, rfl⟩
        have hpo : mvOk N (x1, x2, x3, x4) = (p1 && p2 && p3) := by unfold mvOk; simp only [fr, tg, th]; rw [hp1, hp2, hp3]
        have HMW := hid (fun (h : (p1 && p2 && p3) = true) => mvOk_wf h8 (hpo.trans h))
        rw [hpo] at hsucc
        have HP1 := hid (fun (W : World) (hW : Grew w W) => HP.out W hW x1)
        have HP2 := hid (fun (W : World) (hW : Grew w W) => HP.out W hW x3)
        have HP3 := hid (fun (W : World) => HT.out x2 W)
        simp only [hp1] at HP1; simp only [hp2] at HP2; rw [hp3] at HP3
        have HSC := hid hsucc
        have HX := hid hx
        have hg2 := grew_refl W1
        have HBAD := hid (fun (h : (p1 && p2 && p3) = false) => (by rw [HRR.out, HSC.out, h]; simp : R = false))
        have HW1 := hid (grew_trans g0 HG1.out)
        clear hsucc hx hpa hpa2 hp1 hp2 hp3 hpo hb1
        cases p1 <;> cases p2 <;> cases p3
        all_goals (
          first
          | (have HRN := hid (HBAD.out rfl)
             clear HBAD HMW
             go_wp2_with (first
               | (go_at_call 56; (with_reducible refine (HP1.out _ (grew_trans HW1.out hg2)).mono ?_); rintro e w1 ⟨rfl, hx⟩; replace hg2 := grew_trans hg2 hx; have hc := (bcell hg2).1; clear hx)
               | (go_at_call 56; (with_reducible refine (HP2.out _ (grew_trans HW1.out hg2)).mono ?_); rintro e w1 ⟨rfl, hx⟩; replace hg2 := grew_trans hg2 hx; replace hc := (bcell hg2).1; clear hx)
               | (go_at_call 57; (with_reducible refine (HP3.out _).mono ?_); rintro e w1 ⟨rfl, hx⟩; replace hg2 := grew_trans hg2 hx; replace hc := (bcell hg2).1; clear hx))
             go_ret
             exact ⟨by rw [HRN.out]; rfl, grew_trans HW1.out hg2⟩)
          | skip)
        have HXW := hid (HMW.out rfl)
        clear HBAD HMW
        have hjc : j ≤ vc := by omega
        have hijc : (j : Int) ≤ (vc : Int) := by omega
        go_wp2_with (first
          | (go_at_call 56; (with_reducible refine (HP1.out _ (grew_trans HW1.out hg2)).mono ?_); rintro e w1 ⟨rfl, hx⟩; replace hg2 := grew_trans hg2 hx; have hc := (bcell hg2).1; clear hx)
          | (go_at_call 56; (with_reducible refine (HP2.out _ (grew_trans HW1.out hg2)).mono ?_); rintro e w1 ⟨rfl, hx⟩; replace hg2 := grew_trans hg2 hx; replace hc := (bcell hg2).1; clear hx)
          | (go_at_call 57; (with_reducible refine (HP3.out _).mono ?_); rintro e w1 ⟨rfl, hx⟩; replace hg2 := grew_trans hg2 hx; replace hc := (bcell hg2).1; clear hx))
        have HG2 := hid hg2
        clear hc hg2
        go_loopg [6, 52] j (fun k2 _ i wr2 => ∃ i2 : Nat, i2 ≤ j ∧ i = .int .i64 i2 ∧ Hid (k2 = j - i2) ∧ Hid ((ps.take i2).contains (x1, x2, x3, x4) = false) ∧ Hid (Grew W1 wr2))
        case atStart => exact ⟨0, by omega, rfl, hid rfl, hid (by simp), HG2⟩
        case round =>
          clear HG2
          obtain ⟨i2, hi2, rfl, HK2, HC2, HG2⟩ := hrel
          rename World => wr2
          have jx0 := (HG2.out.cell (p := ⟨w.heap.size, 0, none⟩) hzx).trans kx0
          have jx1 := (HG2.out.cell (p := ⟨w.heap.size, 1, none⟩) hzx).trans kx1
          have jl0 := (HG2.out.cell (p := ⟨wr.heap.size, 0, none⟩) hz1).trans l0
          have jl1 := (HG2.out.cell (p := ⟨wr.heap.size, 1, none⟩) hz1).trans l1
          have jl2 := (HG2.out.cell (p := ⟨wr.heap.size, 2, none⟩) hz1).trans l2
          have jl3 := (HG2.out.cell (p := ⟨wr.heap.size, 3, none⟩) hz1).trans l3
          have hzy := Nat.lt_of_lt_of_le hz1 HG2.out.size
          by_cases hlt2' : i2 < j
          · obtain ⟨y, hy⟩ : ∃ y, ps[i2]? = some y := ⟨_, List.getElem?_eq_getElem (by rw [HM.out]; omega)⟩
            obtain ⟨bb2, off2, hva2, hpb⟩ := HDD.out i2 y hy
            simp only [Option.some.injEq, Addr.mk.injEq] at hva2
            obtain ⟨rfl, rfl, -⟩ := hva2
            have hpb2 := ((hpb.grew hpb.lt g0).grew (hpb.grew hpb.lt g0).lt HG1.out)
            have hpb3 := hpb2.grew hpb2.lt HG2.out
            have b0 := hpb3.c0
            have b1 := hpb3.c1
            have b2 := hpb3.c2
            have b3 := hpb3.c3
            have blt := hpb3.lt
            have hns := not_mem_succM (x := (x1, x2, x3, x4)) hy
            rw [HC2.out, Bool.false_or] at hns
            have hyw : MvWf y := HWF.out y (by
              have : y ∈ ps.take (i2 + 1) := by rw [take_add_getM hy]; simp
              exact ((List.take_prefix_take_left (show i2 + 1 ≤ j by omega)).sublist.subset this))
            have hby := fun (yw : World) => HEQ.out (x1, x2, x3, x4) y HXW.out hyw yw
            obtain ⟨W2, hW2, g2, hb2⟩ := box4v wr2 y
            have m0 := hb2.c0
            have m1 := hb2.c1
            have m2 := hb2.c2
            have m3 := hb2.c3
            obtain ⟨q, hq⟩ : ∃ q, ((x1, x2, x3, x4) == y) = q := ⟨_, rfl⟩
            rw [hq] at hns
            simp only [hq] at hby
            obtain ⟨y1, y2, y3, y4⟩ := y
            simp only [Nat.zero_add, encM] at b0 b1 b2 b3 m0 m1 m2 m3 hW2 hby
            have HNS := hid hns
            have HY := hid hy
            have HG3 := hid (grew_trans HG2.out g2)
            have nl0 := (g2.cell (p := ⟨wr.heap.size, 0, none⟩) hzy).trans jl0
            have nl1 := (g2.cell (p := ⟨wr.heap.size, 1, none⟩) hzy).trans jl1
            have nl2 := (g2.cell (p := ⟨wr.heap.size, 2, none⟩) hzy).trans jl2
            have nl3 := (g2.cell (p := ⟨wr.heap.size, 3, none⟩) hzy).trans jl3
            have hzz := Nat.lt_of_lt_of_le hzy g2.size
            have hzz2 := hb2.lt
            clear hns hy hpb hpb2 hpb3 hq hyw hb2
            cases q
            · go_wp2
              go_roundg (j - (i2 + 1))
              case measure => have := HK2.out; omega
              case rel => exact ⟨i2 + 1, by omega, by go_num, hid rfl, hid HNS.out, hid HG3.out⟩
            · have hmem : (ps.take j).contains (x1, x2, x3, x4) = true := by
                have h1 := HNS.out
                rw [List.contains_iff_mem] at h1 ⊢
                have hsub : (ps.take (i2 + 1)).Sublist (ps.take j) := (List.take_prefix_take_left (by omega)).sublist
                exact hsub.subset h1
              have hrn : R = false := by rw [HRR.out, HSC.out, hmem]; simp
              have HRN := hid hrn
              clear hmem hrn
              go_wp2
              go_ret
              exact ⟨by rw [HRN.out]; rfl, grew_trans HW1.out HG3.out⟩
          · obtain rfl : j = i2 := by omega
            go_wp2
            go_roundg (m - (j + 1))
            case measure => have := HK.out; omega
            case rel => exact ⟨j + 1, by omega, by go_num, rfl, hid (by rw [HRR.out, HSC.out, HC2.out]; simp), hid (fun y hy => by
              rw [HTKX.out] at hy
              rcases List.mem_append.1 hy with hy | hy
              · exact HWF.out y hy
              · rw [List.mem_singleton] at hy; subst hy; exact HXW.out), hid (grew_trans HG1.out HG2.out)⟩
      · obtain rfl : m = j := by omega
        have hrn : R = true := by
          rw [HRR.out, List.drop_of_length_le (by rw [HM.out]; exact Nat.le_refl _)]; simp [mvsOk, h1, h8, h20]
        have HRN := hid hrn
        clear hrn
        go_wp2
        go_ret
        exact ⟨by rw [HRN.out]; rfl, grew_trans g0 HG.out⟩
  · have hrn : R = false := by
      rw [HR.out]
      have : ((decide (1 ≤ N) && decide (N ≤ 8)) && decide (m ≤ 20)) = false := by
        rw [Bool.eq_false_iff]; intro h; simp at h; exact h18 ⟨h.1.1, h.1.2, h.2⟩
      rw [Bool.and_assoc, this, Bool.and_false]
    have HRN := hid hrn
    clear hrn
    by_cases hn1 : N < 1
    · have hd1 : decide (N < 1) = true := by rw [decide_eq_true_iff]; exact hn1
      go_enter Try.func16, Try.ntmps16
      go_wp2
      go_ret
      exact ⟨by rw [HRN.out]; rfl, hg⟩
    · have hd1 : decide (N < 1) = false := by rw [decide_eq_false_iff_not]; exact hn1
      by_cases hn8 : 8 < N
      · have hd8 : decide (8 < N) = true := by rw [decide_eq_true_iff]; exact hn8
        go_enter Try.func16, Try.ntmps16
        go_wp2
        go_ret
        exact ⟨by rw [HRN.out]; rfl, hg⟩
      · have hd8 : decide (8 < N) = false := by rw [decide_eq_false_iff_not]; exact hn8
        have hm20 : (20 : Int) < (m : Int) := by omega
        have hd20 : decide ((20 : Int) < (m : Int)) = true := by rw [decide_eq_true_iff]; exact hm20
        have hd20' : decide (20 < m) = true := by rw [decide_eq_true_iff]; omega
        go_enter Try.func16, Try.ntmps16
        go_wp2
        go_ret
        exact ⟨by rw [HRN.out]; rfl, hg⟩

end Go.Proofs.Ytojkohpniokaaaa
