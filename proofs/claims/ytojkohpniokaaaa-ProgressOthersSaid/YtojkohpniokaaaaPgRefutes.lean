/- Walk: Refutes (22) of the program. -/
import Derived.Test.YtojkohpniokaaaaPgProve
namespace Go.Lin.Pg
theorem pathI_mv {ms : List Mv} {l : List Int} {p q : Int} (h : pathI ms p l = some q) {j : Nat} (hj : j < l.length) : ∃ m, mvI ms (nth l j) = some m := by
  cases hm : mvI ms (nth l j) with
  | some m => exact ⟨m, rfl⟩
  | none =>
    exfalso
    have h1 : pathI ms p (l.take (j + 1)) = none := by
      rw [pathI_take hj]
      cases pathI ms p (l.take j) with
      | none => rfl
      | some r => simp only [Option.bind_some, pathI, hm]
    rw [pathI_none _ h1] at h
    cases h

theorem mvI_some {ms : List Mv} {i : Int} {m : Mv} (h : mvI ms i = some m) : ∃ k : Nat, i = (k : Int) ∧ k < ms.length ∧ ms[k]? = some m := by
  unfold mvI at h
  split at h
  · exact ⟨i.toNat, by omega, (List.getElem?_eq_some_iff.1 h).1, h⟩
  · cases h

def testI (ms : List Mv) (p : Mv → Bool) (i : Int) : Bool := match mvI ms i with | some m => p m | none => false
theorem allI_take {ms : List Mv} {p : Mv → Bool} {l : List Int} {j : Nat} (hj : j < l.length) : allI ms p (l.take (j + 1)) = (allI ms p (l.take j) && testI ms p (nth l j)) := by
  rw [take_succ_nth hj]
  unfold allI
  rw [List.all_append, List.all_cons, List.all_nil, Bool.and_true]
  rfl
theorem anyI_take {ms : List Mv} {p : Mv → Bool} {l : List Int} {j : Nat} (hj : j < l.length) : anyI ms p (l.take (j + 1)) = (anyI ms p (l.take j) || testI ms p (nth l j)) := by
  rw [take_succ_nth hj]
  unfold anyI
  rw [List.any_append, List.any_cons, List.any_nil, Bool.or_false]
  rfl
theorem allI_false {ms : List Mv} {p : Mv → Bool} {l : List Int} {j : Nat} (hj : j < l.length) (h : testI ms p (nth l j) = false) : allI ms p l = false := by
  unfold allI
  refine List.all_eq_false.2 ⟨nth l j, by rw [nth_lt hj]; exact List.getElem_mem hj, ?_⟩
  intro h2
  have h3 : testI ms p (nth l j) = true := h2
  rw [h] at h3
  cases h3
end Go.Lin.Pg
namespace Go.Proofs.Ytojkohpniokaaaa
open Go Go.RowKit Go.Lin Go.Lin.Pg
attribute [local go_sem] run_store_func run_store_nilFunc

set_option maxHeartbeats 8000000 in
set_option maxRecDepth 20000 in
theorem refutes22_any (v : Value) (g : Gr) (c t : Int) (pv cv : Value) (path circ : List Int) (w : World) (hn : -9223372036854775808 ≤ g.n ∧ g.n ≤ 9223372036854775807) (hv : IsGr w v g) (hp : IsInts Any w pv path) (hc : IsInts Any w cv circ) :
    Calls Try.prog 22 #[v, .int .i64 c, .int .i64 t, pv, cv] w fun e w' => e = .returned (.tuple #[.bool (refuteA g c t path circ).1, .int .i64 (refuteA g c t path circ).2]) ∧ Grew w w' := by
  have HV := hid hv
  have HP := hid hp
  have HC := hid hc
  obtain ⟨s, rfl, hms⟩ := hv
  obtain ⟨n, hn'⟩ : ∃ n, g.ms.length = n := ⟨_, rfl⟩
  obtain ⟨va, vc, rfl, ⟨hm1, hm2⟩, hmvs⟩ := hms
  rw [hn'] at hm1 hm2 HV ⊢
  have HMVS := hid hmvs; have HN := hid hn'
  obtain ⟨lp, hlp⟩ : ∃ l, path.length = l := ⟨_, rfl⟩
  obtain ⟨lc, hlc⟩ : ∃ l, circ.length = l := ⟨_, rfl⟩
  have HLP := hid hlp; have HLC := hid hlc
  obtain ⟨pa, pc, rfl, hpm, -⟩ := hp
  obtain ⟨ca, cc, rfl, hcm, hcc⟩ := hc
  rw [hlp] at HP hpm ⊢
  rw [hlc] at HC hcm hcc ⊢
  have HCC := hid hcc
  clear hmvs hn' hlp hlc hcc
  obtain ⟨W0, hW0, g0, k0, k1, hz⟩ := box2 w (.int .i64 g.n) (.slice va n vc) 24
  have HG0 := hid g0
  by_cases ha : askM g c t = 0
  · have he : refuteA g c t path circ = (refutesB g.ms c t path circ, 0) := by unfold refuteA; rw [if_pos ha]
    rw [he]
    simp only
    have HASK := hid (asked_ok (w := W0) hn (HV.out.grew g0) ha)
    have HIP := hid (fun (W' : World) (h : Grew w W') => isPath69_any (.agg #[.int .i64 g.n, .slice va n vc]) g (.slice pa lp pc) path 0 W' (HV.out.grew h) (Reads.grew HP.out h))
    have HIC := hid (fun (x : Int) (W' : World) (h : Grew w W') => isPath69_any (.agg #[.int .i64 g.n, .slice va n vc]) g (.slice ca lc cc) circ x W' (HV.out.grew h) (Reads.grew HC.out h))
    have hrf : refutesB g.ms c t path circ = match pathI g.ms 0 path with | none => false | some x => decide (path.length ≤ 1000) && (match pathI g.ms x circ with | none => false | some y => decide (circ.length ≤ 1000) && (y == x) && (allI g.ms (wi c t) circ && anyI g.ms (mu c t) circ)) := rfl
    rw [hrf]
    clear he ha hrf
    -- the path
    obtain ⟨⟨x, b1⟩, hx1⟩ : ∃ r, pathA g.ms 0 path = r := ⟨_, rfl⟩
    rw [hx1] at HIP
    simp only at HIP
    cases b1 with
    | false =>
      have hfl : (match pathI g.ms 0 path with | none => false | some x => decide (path.length ≤ 1000) && (match pathI g.ms x circ with | none => false | some y => decide (circ.length ≤ 1000) && (y == x) && (allI g.ms (wi c t) circ && anyI g.ms (mu c t) circ))) = false := by
        unfold pathA at hx1
        cases hp : pathI g.ms 0 path with
        | none => rfl
        | some z => rw [hp] at hx1; simp only [Prod.mk.injEq] at hx1; simp only; rw [hx1.2]; rfl
      rw [hfl]
      clear hfl hx1
      go_enter Try.func22, Try.ntmps22
      go_wp2_with (first
        | (go_at_call 58; (with_reducible refine HASK.out.mono ?_); rintro e w1 ⟨f1, c1, f2, c2, rfl, hx, -, -⟩; have HX := hid hx; obtain ⟨W2, hW2, g2, e0, e1, hz2⟩ := box2 w1 (.func (.func f1) #[] c1) (.func (.func f2) #[] c2) 72; have x0 := ((grew_trans hx g2).cell (p := ⟨w.heap.size, 0, none⟩) hz).trans k0; have x1 := ((grew_trans hx g2).cell (p := ⟨w.heap.size, 1, none⟩) hz).trans k1; have HG2 := hid (grew_trans HG0.out (grew_trans hx g2)); clear hx)
        | (go_at_call 69; (with_reducible refine (HIP.out _ HG2.out).mono ?_); rintro e w3 ⟨rfl, hy⟩; have HY := hid hy; clear hy))
      go_ret2
      exact ⟨rfl, grew_trans HG2.out HY.out⟩
    | true =>
      obtain ⟨hp1, hp2⟩ : pathI g.ms 0 path = some x ∧ path.length ≤ 1000 := by
        unfold pathA at hx1
        cases hp : pathI g.ms 0 path with
        | none => rw [hp] at hx1; cases hx1
        | some z => rw [hp] at hx1; simp only [Prod.mk.injEq, decide_eq_true_eq] at hx1; exact ⟨by rw [hx1.1], hx1.2⟩
      rw [hp1, decide_eq_true hp2]
      simp only [Bool.true_and]
      clear hx1 hp1 hp2
      obtain ⟨⟨y, b2⟩, hx2⟩ : ∃ r, pathA g.ms x circ = r := ⟨_, rfl⟩
      have HICx := hid (HIC.out x)
      rw [hx2] at HICx
      simp only at HICx
      clear HIC
      by_cases hb2 : b2 = true ∧ y = x
      · obtain ⟨rfl, rfl⟩ := hb2
        obtain ⟨hp1, hp2⟩ : pathI g.ms y circ = some y ∧ circ.length ≤ 1000 := by
          unfold pathA at hx2
          cases hp : pathI g.ms y circ with
          | none => rw [hp] at hx2; cases hx2
          | some z => rw [hp] at hx2; simp only [Prod.mk.injEq, decide_eq_true_eq] at hx2; exact ⟨by rw [hx2.1], hx2.2⟩
        have HPI := hid hp1
        rw [hp1, decide_eq_true hp2]
        simp only [Bool.true_and, beq_self_eq_true]
        clear hx2 hp1 hp2
        go_enter Try.func22, Try.ntmps22
        go_wp2_with (first
          | (go_at_call 58; (with_reducible refine HASK.out.mono ?_); rintro e w1 ⟨f1, c1, f2, c2, rfl, hx, hi1, hi2⟩; have HX := hid hx; obtain ⟨W2, hW2, g2, e0, e1, hz2⟩ := box2 w1 (.func (.func f1) #[] c1) (.func (.func f2) #[] c2) 72; have x0 := ((grew_trans hx g2).cell (p := ⟨w.heap.size, 0, none⟩) hz).trans k0; have x1 := ((grew_trans hx g2).cell (p := ⟨w.heap.size, 1, none⟩) hz).trans k1; have HG2 := hid (grew_trans HG0.out (grew_trans hx g2)); have HI1 := hid (hi1.grew g2); have HI2 := hid (hi2.grew g2); have HGX := hid (grew_trans hx g2); have hzx := Nat.lt_of_lt_of_le hz (grew_trans hx g2).size; clear hx hi1 hi2)
          | (go_at_call 69; (with_reducible refine (HIP.out _ HG2.out).mono ?_); rintro e w3 ⟨rfl, hy⟩; have HY := hid hy; have x0' := (hy.cell (p := ⟨w.heap.size, 0, none⟩) hzx).trans x0; have x1' := (hy.cell (p := ⟨w.heap.size, 1, none⟩) hzx).trans x1; have e0' := (hy.cell (p := ⟨w1.heap.size, 0, none⟩) hz2).trans e0; have e1' := (hy.cell (p := ⟨w1.heap.size, 1, none⟩) hz2).trans e1; have hzx3 := Nat.lt_of_lt_of_le hzx hy.size; have hz23 := Nat.lt_of_lt_of_le hz2 hy.size; clear hy)
          | (go_at_call 69; (with_reducible refine (HICx.out _ (grew_trans HG2.out HY.out)).mono ?_); rintro e w4 ⟨rfl, hy⟩; have HY4 := hid hy; have X0 := hid ((hy.cell (p := ⟨w.heap.size, 0, none⟩) hzx3).trans x0'); have X1 := hid ((hy.cell (p := ⟨w.heap.size, 1, none⟩) hzx3).trans x1'); have E0 := hid ((hy.cell (p := ⟨w1.heap.size, 0, none⟩) hz23).trans e0'); have E1 := hid ((hy.cell (p := ⟨w1.heap.size, 1, none⟩) hz23).trans e1'); have hzx4 := Nat.lt_of_lt_of_le hzx3 hy.size; have hz24 := Nat.lt_of_lt_of_le hz23 hy.size; clear hy))
        have HW4 := hid (grew_trans HG2.out (grew_trans HY.out HY4.out))
        have HF1 := hid (HI1.out.grew (grew_trans HY.out HY4.out))
        have HF2 := hid (HI2.out.grew (grew_trans HY.out HY4.out))
        obtain ⟨f1', c1', hfe1, hen1, hf1⟩ := id HF1.out
        obtain ⟨f2', c2', hfe2, hen2, hf2⟩ := id HF2.out
        simp only [Value.func.injEq, Fn.func.injEq, true_and] at hfe1 hfe2
        obtain ⟨rfl, rfl⟩ := hfe1
        obtain ⟨rfl, rfl⟩ := hfe2
        have HC1 := hid hf1; have HC2 := hid hf2
        clear hf1 hf2 x0 x1 e0 e1 x0' x1' e0' e1' k0 k1 HIP HICx HASK HI1 HI2 HF1 HF2 hW0 hW2 g0 g2
        go_loopg [17, 19, 54] lc (fun k sm _ i wr => ∃ (j : Nat), j ≤ lc ∧ i = .int .i64 (j : Int) ∧ sm = .bool (anyI g.ms (mu c t) (circ.take j)) ∧ Hid (k = lc - j) ∧ Hid (allI g.ms (wi c t) (circ.take j) = true) ∧ Hid (Grew w4 wr))
        case atStart => exact ⟨0, Nat.zero_le _, rfl, by simp [anyI], hid rfl, hid (by simp [allI]), hid (grew_refl _)⟩
        case round =>
          obtain ⟨j, hj, rfl, rfl, HK, HALL, HGR⟩ := hrel
          rename World => wr
          have HGW := hid (grew_trans HW4.out HGR.out)
          obtain ⟨sb, hsb⟩ : ∃ sb, anyI g.ms (mu c t) (circ.take j) = sb := ⟨_, rfl⟩
          have HSB := hid hsb
          rw [hsb]
          clear hsb
          by_cases hlt : j < lc
          · obtain ⟨m, hmv⟩ := pathI_mv HPI.out (j := j) (by rw [HLC.out]; exact hlt)
            obtain ⟨i, hyi, hin, hmi⟩ := mvI_some hmv
            have hti : ∀ p, testI g.ms p (nth circ j) = p m := fun p => by unfold testI; rw [hmv]
            have htall := allI_take (ms := g.ms) (p := wi c t) (l := circ) (j := j) (by rw [HLC.out]; exact hlt)
            have htany := anyI_take (ms := g.ms) (p := mu c t) (l := circ) (j := j) (by rw [HLC.out]; exact hlt)
            rw [hti, HALL.out, Bool.true_and] at htall
            rw [hti, HSB.out] at htany
            have HTA := hid htall; have HTN := hid htany
            have HFB := hid (fun (h : wi c t m = false) => allI_false (ms := g.ms) (p := wi c t) (l := circ) (j := j) (by rw [HLC.out]; exact hlt) (by rw [hti]; exact h))
            obtain ⟨b, off, o, rfl, hb, _, hcj⟩ := HCC.out j hlt
            have hbl := lt_of_obj hb
            have hcj0 := (HGW.out.cell (p := ⟨b, off + j, none⟩) hbl).trans hcj
            rw [hyi] at hcj0
            rw [HN.out] at hin
            have hinI : (i : Int) < (n : Int) := by omega
            have hltI : (j : Int) < (lc : Int) := by omega
            obtain ⟨bb, boff, rfl, hpa⟩ := HMVS.out i m hmi
            have hpa2 := hpa.grew hpa.lt HGW.out
            have p0 := hpa2.c0
            have p1 := hpa2.c1
            have p2 := hpa2.c2
            have p3 := hpa2.c3
            have hplt := hpa2.lt
            have X0' := (HGR.out.cell (p := ⟨w.heap.size, 0, none⟩) hzx4).trans X0.out
            have X1' := (HGR.out.cell (p := ⟨w.heap.size, 1, none⟩) hzx4).trans X1.out
            have E0' := (HGR.out.cell (p := ⟨w1.heap.size, 0, none⟩) hz24).trans E0.out
            have E1' := (HGR.out.cell (p := ⟨w1.heap.size, 1, none⟩) hz24).trans E1.out
            have hzxr := Nat.lt_of_lt_of_le hzx4 HGR.out.size
            have hz2r := Nat.lt_of_lt_of_le hz24 HGR.out.size
            have HD1 := hid (fun (W' : World) (h : Grew wr W') => HC1.out W' (grew_trans HGR.out h) m)
            have HD2 := hid (fun (W' : World) (h : Grew wr W') => HC2.out W' (grew_trans HGR.out h) m)
            obtain ⟨bp, hbp⟩ : ∃ bp, wi c t m = bp := ⟨_, rfl⟩
            obtain ⟨bq, hbq⟩ : ∃ bq, mu c t m = bq := ⟨_, rfl⟩
            rw [hbp] at HD1 HTA HFB
            rw [hbq] at HD2 HTN
            obtain ⟨x1, x2, x3, x4⟩ := m
            simp only [encM] at p0 p1 p2 p3 HD1 HD2
            clear hpa hpa2 hmi hmv hti htall htany hb hcj hbp hbq hyi
            cases bp with
            | false =>
              have HR := hid (HFB.out rfl)
              go_wp2
              refine wp_region_later (by kernel_rfl) (by kernel_rfl) (fun hL => ?_)
              repeat (go_big_quiet_step (exact calls_later (show Calls _ _ _ _ _ from HD1.out _ (Subtype.property _))))
              refine wpQuiet_nil ?_
              rintro wy ⟨z, hz'⟩
              have hwy : Grew wr wy := by rw [hz']; exact z.2
              clear hL hz' z
              go_wp2
              go_ret2
              exact ⟨by rw [HR.out]; rfl, grew_trans HGW.out hwy⟩
            | true =>
              cases sb with
              | true =>
                go_wp2
                refine wp_region_later (by kernel_rfl) (by kernel_rfl) (fun hL => ?_)
                repeat (go_big_quiet_step (exact calls_later (show Calls _ _ _ _ _ from HD1.out _ (Subtype.property _))))
                refine wpQuiet_nil ?_
                rintro wy ⟨z, hz'⟩
                have hwy : Grew wr wy := by rw [hz']; exact z.2
                clear hL hz' z
                go_wp2
                refine wp_region_later (by kernel_rfl) (by kernel_rfl) (fun hL => ?_)
                repeat (go_big_quiet_step (exact calls_later (show Calls _ _ _ _ _ from HD2.out _ (grew_trans hwy (Subtype.property _)))))
                refine wpQuiet_nil ?_
                rintro wu ⟨z, hz'⟩
                have hwu : Grew wy wu := by rw [hz']; exact z.2
                clear hL hz' z
                go_wp2
                go_roundg (lc - (j + 1))
                case measure => have := HK.out; omega
                case rel => exact ⟨j + 1, by omega, by go_num, by rw [HTN.out]; rfl, hid rfl, hid HTA.out, hid (grew_trans HGR.out (grew_trans hwy hwu))⟩
              | false =>
                go_wp2
                refine wp_region_later (by kernel_rfl) (by kernel_rfl) (fun hL => ?_)
                repeat (go_big_quiet_step (exact calls_later (show Calls _ _ _ _ _ from HD1.out _ (Subtype.property _))))
                refine wpQuiet_nil ?_
                rintro wy ⟨z, hz'⟩
                have hwy : Grew wr wy := by rw [hz']; exact z.2
                clear hL hz' z
                have Y0' := (hwy.cell (p := ⟨w.heap.size, 0, none⟩) hzxr).trans X0'
                have Y1' := (hwy.cell (p := ⟨w.heap.size, 1, none⟩) hzxr).trans X1'
                have F0' := (hwy.cell (p := ⟨w1.heap.size, 0, none⟩) hz2r).trans E0'
                have F1' := (hwy.cell (p := ⟨w1.heap.size, 1, none⟩) hz2r).trans E1'
                have q0 := (hwy.cell (p := ⟨bb, boff + i * 4, none⟩) hplt).trans p0
                have q1 := (hwy.cell (p := ⟨bb, boff + i * 4 + 1, none⟩) hplt).trans p1
                have q2 := (hwy.cell (p := ⟨bb, boff + i * 4 + 2, none⟩) hplt).trans p2
                have q3 := (hwy.cell (p := ⟨bb, boff + i * 4 + 3, none⟩) hplt).trans p3
                have hq1 := Nat.lt_of_lt_of_le hzxr hwy.size
                have hq2 := Nat.lt_of_lt_of_le hz2r hwy.size
                have hq3 := Nat.lt_of_lt_of_le hplt hwy.size
                go_wp2
                refine wp_region_later (by kernel_rfl) (by kernel_rfl) (fun hL => ?_)
                repeat (go_big_quiet_step (exact calls_later (show Calls _ _ _ _ _ from HD2.out _ (grew_trans hwy (Subtype.property _)))))
                refine wpQuiet_nil ?_
                rintro wu ⟨z, hz'⟩
                have hwu : Grew wy wu := by rw [hz']; exact z.2
                clear hL hz' z
                go_wp2
                go_roundg (lc - (j + 1))
                case measure => have := HK.out; omega
                case rel => exact ⟨j + 1, by omega, by go_num, by rw [HTN.out]; rfl, hid rfl, hid HTA.out, hid (grew_trans HGR.out (grew_trans hwy hwu))⟩
          · obtain rfl : j = lc := by omega
            have ha1 := HALL.out
            have ha2 := HSB.out
            rw [List.take_of_length_le (by rw [HLC.out]; exact Nat.le_refl _)] at ha1 ha2
            have HA1 := hid ha1; have HA2 := hid ha2
            clear ha1 ha2
            go_wp2
            go_ret2
            exact ⟨by rw [HA1.out, HA2.out]; rfl, HGW.out⟩
      · have hfl : (match pathI g.ms x circ with | none => false | some y => decide (circ.length ≤ 1000) && (y == x) && (allI g.ms (wi c t) circ && anyI g.ms (mu c t) circ)) = false := by
          unfold pathA at hx2
          cases hp : pathI g.ms x circ with
          | none => rfl
          | some z =>
            rw [hp] at hx2
            simp only [Prod.mk.injEq] at hx2
            obtain ⟨rfl, h3⟩ := hx2
            simp only
            rw [h3]
            cases b2 with
            | false => rfl
            | true =>
              have : (z == x) = false := beq_eq_false_iff_ne.2 (fun e => hb2 ⟨rfl, e⟩)
              rw [this]; rfl
        rw [hfl]
        clear hfl hx2
        cases b2 with
        | false =>
          go_enter Try.func22, Try.ntmps22
          go_wp2_with (first
            | (go_at_call 58; (with_reducible refine HASK.out.mono ?_); rintro e w1 ⟨f1, c1, f2, c2, rfl, hx, -, -⟩; have HX := hid hx; obtain ⟨W2, hW2, g2, e0, e1, hz2⟩ := box2 w1 (.func (.func f1) #[] c1) (.func (.func f2) #[] c2) 72; have x0 := ((grew_trans hx g2).cell (p := ⟨w.heap.size, 0, none⟩) hz).trans k0; have x1 := ((grew_trans hx g2).cell (p := ⟨w.heap.size, 1, none⟩) hz).trans k1; have hzx := Nat.lt_of_lt_of_le hz (grew_trans hx g2).size; have HG2 := hid (grew_trans HG0.out (grew_trans hx g2)); clear hx)
            | (go_at_call 69; (with_reducible refine (HIP.out _ HG2.out).mono ?_); rintro e w3 ⟨rfl, hy⟩; have HY := hid hy; have x0' := (hy.cell (p := ⟨w.heap.size, 0, none⟩) hzx).trans x0; have x1' := (hy.cell (p := ⟨w.heap.size, 1, none⟩) hzx).trans x1; clear hy)
            | (go_at_call 69; (with_reducible refine (HICx.out _ (grew_trans HG2.out HY.out)).mono ?_); rintro e w4 ⟨rfl, hy⟩; have HY4 := hid hy; clear hy))
          go_ret2
          exact ⟨rfl, grew_trans HG2.out (grew_trans HY.out HY4.out)⟩
        | true =>
          have hd1 : (y == x) = false := beq_eq_false_iff_ne.2 (fun e => hb2 ⟨rfl, e⟩)
          have hd2 : (y != x) = true := by simp [bne, hd1]
          clear hb2
          go_enter Try.func22, Try.ntmps22
          go_wp2_with (first
            | (go_at_call 58; (with_reducible refine HASK.out.mono ?_); rintro e w1 ⟨f1, c1, f2, c2, rfl, hx, -, -⟩; have HX := hid hx; obtain ⟨W2, hW2, g2, e0, e1, hz2⟩ := box2 w1 (.func (.func f1) #[] c1) (.func (.func f2) #[] c2) 72; have x0 := ((grew_trans hx g2).cell (p := ⟨w.heap.size, 0, none⟩) hz).trans k0; have x1 := ((grew_trans hx g2).cell (p := ⟨w.heap.size, 1, none⟩) hz).trans k1; have hzx := Nat.lt_of_lt_of_le hz (grew_trans hx g2).size; have HG2 := hid (grew_trans HG0.out (grew_trans hx g2)); clear hx)
            | (go_at_call 69; (with_reducible refine (HIP.out _ HG2.out).mono ?_); rintro e w3 ⟨rfl, hy⟩; have HY := hid hy; have x0' := (hy.cell (p := ⟨w.heap.size, 0, none⟩) hzx).trans x0; have x1' := (hy.cell (p := ⟨w.heap.size, 1, none⟩) hzx).trans x1; clear hy)
            | (go_at_call 69; (with_reducible refine (HICx.out _ (grew_trans HG2.out HY.out)).mono ?_); rintro e w4 ⟨rfl, hy⟩; have HY4 := hid hy; clear hy))
          go_ret2
          exact ⟨rfl, grew_trans HG2.out (grew_trans HY.out HY4.out)⟩
  · have he : refuteA g c t path circ = (false, askM g c t) := by unfold refuteA; rw [if_neg ha]
    rw [he]
    have HASK := hid (asked_bad (w := W0) hn (HV.out.grew g0) ha)
    obtain ⟨r', hr'⟩ : ∃ r, askM g c t = r := ⟨_, rfl⟩
    rw [hr'] at HASK ha ⊢
    clear he hr'
    go_enter Try.func22, Try.ntmps22
    go_wp2_with (go_at_call 58; (with_reducible refine HASK.out.mono ?_); rintro e w1 ⟨rfl, hx⟩)
    go_ret2
    exact ⟨rfl, grew_alloc (grew_trans HG0.out hx) _⟩
end Go.Proofs.Ytojkohpniokaaaa
