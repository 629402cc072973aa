/- Walk of the reference: Refutes (24). -/
import Derived.Test.YtojkohpniokaaaaPgRef4
namespace Go.Lin.Pg
theorem links_mv {ms : List Mv} {l : List Int} (h : linksB ms l = true) {k : Nat} (hk : k < l.length) : ∃ m, mvI ms (nth l k) = some m := by
  unfold linksB at h
  have := List.all_eq_true.1 h k (List.mem_range.2 hk)
  unfold linkB at this
  cases hm : mvI ms (nth l k) with
  | some m => exact ⟨m, rfl⟩
  | none => rw [hm] at this; cases this

theorem refutes_path {ms : List Mv} (hms : ∀ m ∈ ms, 0 ≤ tg m) {c t : Int} {path circ : List Int} (h : isPathB ms path = false) : refutesB ms c t path circ = false := by
  unfold refutesB
  rw [pathI_eq hms]
  unfold isPathB at h
  by_cases hl : (linksB ms path && beginsB ms 0 path) = true
  · rw [if_pos hl]
    rw [Bool.and_eq_true] at hl
    rw [hl.1, Bool.true_and] at h
    simp only
    rw [h]; rfl
  · rw [if_neg hl]

theorem refutes_circ {ms : List Mv} (hms : ∀ m ∈ ms, 0 ≤ tg m) {c t : Int} {path circ : List Int} (h : isPathB ms circ = false) : refutesB ms c t path circ = false := by
  unfold refutesB
  cases pathI ms 0 path with
  | none => rfl
  | some x =>
    simp only
    rw [pathI_eq hms]
    unfold isPathB at h
    by_cases hl : (linksB ms circ && beginsB ms x circ) = true
    · rw [if_pos hl]
      rw [Bool.and_eq_true] at hl
      rw [hl.1, Bool.true_and] at h
      simp only
      rw [h]; simp
    · rw [if_neg hl]; simp

theorem refutes_nil {ms : List Mv} {c t : Int} {path : List Int} : refutesB ms c t path [] = false := by
  unfold refutesB
  cases pathI ms 0 path with
  | none => rfl
  | some x => simp [pathI, anyI]

/-- For paths that are paths. -/
theorem refutes_eq {ms : List Mv} (hms : ∀ m ∈ ms, 0 ≤ tg m) {c t : Int} {path circ : List Int} (hp : isPathB ms path = true) (hc : isPathB ms circ = true) :
    refutesB ms c t path circ = (beginsB ms 0 path && (beginsB ms (endI ms 0 path) circ && (endI ms (endI ms 0 path) circ == endI ms 0 path) && (allI ms (wi c t) circ && anyI ms (mu c t) circ))) := by
  unfold isPathB at hp hc
  rw [Bool.and_eq_true] at hp hc
  unfold refutesB
  rw [pathI_eq hms, hp.1, Bool.true_and]
  cases beginsB ms 0 path with
  | false => rfl
  | true =>
    simp only [if_true]
    rw [hp.2, pathI_eq hms, hc.1]
    simp only [Bool.true_and]
    cases beginsB ms (endI ms 0 path) circ with
    | false => rfl
    | true =>
      simp only [if_true]
      rw [hc.2]
      first | done | rfl | simp

theorem begins_of {ms : List Mv} {p : Int} {l : List Int} {m : Mv} (hl : l ≠ []) (hp : 0 ≤ p) (h : mvI ms (nth l 0) = some m) : beginsB ms p l = (fr m == p) := by
  unfold beginsB
  rw [h, decide_eq_true hp]
  cases l with
  | nil => exact absurd rfl hl
  | cons a l => simp
theorem begins_nil {ms : List Mv} {p : Int} : beginsB ms p [] = true := rfl
theorem end_of {ms : List Mv} {p : Int} {l : List Int} {m : Mv} (hl : l ≠ []) (h : mvI ms (nth l (l.length - 1)) = some m) : endI ms p l = tg m := by
  unfold endI; rw [if_neg hl, h]
theorem end_nil {ms : List Mv} {p : Int} : endI ms p [] = p := by unfold endI; rw [if_pos rfl]
theorem end_nonneg {ms : List Mv} (hms : ∀ m ∈ ms, 0 ≤ tg m) {l : List Int} : 0 ≤ endI ms 0 l := by
  unfold endI
  split
  · omega
  · split
    · rename_i m hm
      unfold mvI at hm
      split at hm
      · exact hms m (List.mem_of_getElem? hm)
      · cases hm
    · omega
end Go.Lin.Pg
namespace Go.Proofs.Ytojkohpniokaaaa
open Go Go.RowKit Go.Lin Go.Lin.Pg

/-- What is read of a move whose number stands in a list. -/
theorem at_list {w W : World} {ms : List Mv} {n N : Nat} {va a : Option Addr} {l : List Int} (hmvs : ∀ (i : Nat) (m : Mv), ms[i]? = some m → ∃ b off, va = some ⟨b, off, none⟩ ∧ MvAt w b (off + i * 4) m) (hn : ms.length = n)
    (hc : ∀ i, i < N → ∃ b off o, a = some ⟨b, off, none⟩ ∧ w.heap[b]? = some o ∧ Any b o ∧ w.cell? ⟨b, off + i, none⟩ = some (.int .i64 (nth l i))) (hg : Grew w W) {k : Nat} (hk : k < N) {m : Mv} (hm : mvI ms (nth l k) = some m) :
    ∃ (i : Nat) (b off bb boff : Nat), i < n ∧ (i : Int) < (n : Int) ∧ a = some ⟨b, off, none⟩ ∧ W.cell? ⟨b, off + k, none⟩ = some (.int .i64 (i : Int)) ∧ b < W.heap.size ∧ va = some ⟨bb, boff, none⟩ ∧ MvAt W bb (boff + i * 4) m := by
  obtain ⟨i, hi, hin, hmi⟩ := mvI_some hm
  obtain ⟨b, off, o, ha, hb, _, hcj⟩ := hc k hk
  obtain ⟨bb, boff, hv, hpa⟩ := hmvs i m hmi
  have hbl := lt_of_obj hb
  refine ⟨i, b, off, bb, boff, by omega, by omega, ha, ?_, Nat.lt_of_lt_of_le hbl hg.size, hv, hpa.grew hpa.lt hg⟩
  rw [hi] at hcj
  exact (hg.cell (p := ⟨b, off + k, none⟩) hbl).trans hcj

set_option maxHeartbeats 8000000 in
set_option maxRecDepth 100000 in
theorem rRefutes24_any (v : Value) (g : Gr) (c t : Int) (pv cv : Value) (path circ : List Int) (w : World) (hv : IsGr w v g) (hp : IsInts Any w pv path) (hc : IsInts Any w cv circ) :
    Calls Try.prog 24 #[v, .int .i64 c, .int .i64 t, pv, cv] w fun e w' => e = .returned (.tuple #[.bool (refuteA g c t path circ).1, .int .i64 (refuteA g c t path circ).2]) ∧ Grew w w' := by
  have HV := hid hv
  have HP := hid hp
  have HC := hid hc
  obtain ⟨s, rfl, hms⟩ := hv
  obtain ⟨n, hn'⟩ : ∃ n, g.ms.length = n := ⟨_, rfl⟩
  obtain ⟨va, vc, rfl, ⟨hm1, hm2⟩, hmvs⟩ := hms
  rw [hn'] at hm1 hm2 HV ⊢
  have HMVS := hid hmvs; have HN := hid hn'
  obtain ⟨lp, hlp⟩ : ∃ l, path.length = l := ⟨_, rfl⟩
  obtain ⟨lc, hlc⟩ : ∃ l, circ.length = l := ⟨_, rfl⟩
  have HLP := hid hlp; have HLC := hid hlc
  obtain ⟨pa, pc, rfl, hpm, hpp⟩ := hp
  obtain ⟨ca, cc, rfl, hcm, hcc⟩ := hc
  rw [hlp] at HP hpm hpp ⊢
  rw [hlc] at HC hcm hcc ⊢
  have HPP := hid hpp
  have HCC := hid hcc
  obtain ⟨W0, hW0, g0, k0, k1, hz⟩ := box2 w (.int .i64 g.n) (.slice va n vc) 24
  have HG0 := hid g0
  have HASK := hid (asked70_any _ g c t W0 (HV.out.grew g0))
  clear hmvs hn' hlp hlc hpp hcc
  by_cases ha : askM g c t = 0
  · have he : refuteA g c t path circ = (refutesB g.ms c t path circ, 0) := by unfold refuteA; rw [if_pos ha]
    rw [he]
    simp only
    rw [ha] at HASK
    have HTG := hid (valid_tg (ask_valid ha).1)
    have hc3 := clm_cases ha
    have HF := hid (fun (m : Mv) (W : World) => falls72_any m c t W hc3)
    have HIP := hid (fun (W : World) (h : Grew w W) => isPath73_any (.agg #[.int .i64 g.n, .slice va n vc]) g (.slice pa lp pc) path W (HV.out.grew h) (Reads.grew HP.out h))
    have HIC := hid (fun (W : World) (h : Grew w W) => isPath73_any (.agg #[.int .i64 g.n, .slice va n vc]) g (.slice ca lc cc) circ W (HV.out.grew h) (Reads.grew HC.out h))
    obtain ⟨res, hres⟩ : ∃ res, refutesB g.ms c t path circ = res := ⟨_, rfl⟩
    have HRES := hid hres
    rw [hres]
    obtain ⟨bp, hbp⟩ : ∃ b, isPathB g.ms path = b := ⟨_, rfl⟩
    obtain ⟨bc, hbc⟩ : ∃ b, isPathB g.ms circ = b := ⟨_, rfl⟩
    have HBP := hid hbp; have HBC := hid hbc
    rw [hbp] at HIP
    rw [hbc] at HIC
    clear he ha hres hc3 hbp hbc
    cases bp with
    | false =>
      obtain rfl : res = false := by rw [← HRES.out, refutes_path HTG.out HBP.out]
      go_enter Try.func24, Try.ntmps24
      go_wp2_with (first
        | (go_at_call 70; (with_reducible refine HASK.out.mono ?_); rintro e w1 ⟨rfl, hx⟩; have HX := hid hx; have k0' := (hx.cell (p := ⟨w.heap.size, 0, none⟩) hz).trans k0; have k1' := (hx.cell (p := ⟨w.heap.size, 1, none⟩) hz).trans k1; clear hx)
        | (go_at_call 73; (with_reducible refine (HIP.out _ (grew_trans HG0.out HX.out)).mono ?_); rintro e w2 ⟨rfl, hy⟩; have HY := hid hy; clear hy))
      go_ret2
      exact ⟨rfl, grew_trans HG0.out (grew_trans HX.out HY.out)⟩
    | true =>
      cases bc with
      | false =>
        obtain rfl : res = false := by rw [← HRES.out, refutes_circ HTG.out HBC.out]
        go_enter Try.func24, Try.ntmps24
        go_wp2_with (first
          | (go_at_call 70; (with_reducible refine HASK.out.mono ?_); rintro e w1 ⟨rfl, hx⟩; have HX := hid hx; have k0' := (hx.cell (p := ⟨w.heap.size, 0, none⟩) hz).trans k0; have k1' := (hx.cell (p := ⟨w.heap.size, 1, none⟩) hz).trans k1; have hzx := Nat.lt_of_lt_of_le hz hx.size; clear hx)
          | (go_at_call 73; (with_reducible refine (HIP.out _ (grew_trans HG0.out HX.out)).mono ?_); rintro e w2 ⟨rfl, hy⟩; have HY := hid hy; have y0 := (hy.cell (p := ⟨w.heap.size, 0, none⟩) hzx).trans k0'; have y1 := (hy.cell (p := ⟨w.heap.size, 1, none⟩) hzx).trans k1'; clear hy)
          | (go_at_call 73; (with_reducible refine (HIC.out _ (grew_trans HG0.out (grew_trans HX.out HY.out))).mono ?_); rintro e w3 ⟨rfl, hy⟩; have HY3 := hid hy; clear hy))
        go_ret2
        exact ⟨rfl, grew_trans HG0.out (grew_trans HX.out (grew_trans HY.out HY3.out))⟩
      | true =>
        have HEQ := hid (refutes_eq (c := c) (t := t) HTG.out HBP.out HBC.out)
        have HLKP := hid (show linksB g.ms path = true by have h := HBP.out; unfold isPathB at h; rw [Bool.and_eq_true] at h; exact h.1)
        have HLKC := hid (show linksB g.ms circ = true by have h := HBC.out; unfold isPathB at h; rw [Bool.and_eq_true] at h; exact h.1)
        by_cases hl0 : lc = 0
        · subst hl0
          obtain rfl : res = false := by rw [← HRES.out, List.length_eq_zero_iff.1 HLC.out]; exact refutes_nil
          go_enter Try.func24, Try.ntmps24
          go_wp2_with (first
            | (go_at_call 70; (with_reducible refine HASK.out.mono ?_); rintro e w1 ⟨rfl, hx⟩; have HX := hid hx; have k0' := (hx.cell (p := ⟨w.heap.size, 0, none⟩) hz).trans k0; have k1' := (hx.cell (p := ⟨w.heap.size, 1, none⟩) hz).trans k1; have hzx := Nat.lt_of_lt_of_le hz hx.size; clear hx)
            | (go_at_call 73; (with_reducible refine (HIP.out _ (grew_trans HG0.out HX.out)).mono ?_); rintro e w2 ⟨rfl, hy⟩; have HY := hid hy; have y0 := (hy.cell (p := ⟨w.heap.size, 0, none⟩) hzx).trans k0'; have y1 := (hy.cell (p := ⟨w.heap.size, 1, none⟩) hzx).trans k1'; clear hy)
            | (go_at_call 73; (with_reducible refine (HIC.out _ (grew_trans HG0.out (grew_trans HX.out HY.out))).mono ?_); rintro e w3 ⟨rfl, hy⟩; have HY3 := hid hy; clear hy))
          go_ret2
          exact ⟨rfl, grew_trans HG0.out (grew_trans HX.out (grew_trans HY.out HY3.out))⟩
        · have hlcI : ((lc : Int) == 0) = false := by simp; omega
          have hlcI0 : (0 : Int) < (lc : Int) := by omega
          have HCNE := hid (show circ ≠ [] from fun e => by have := HLC.out; rw [e] at this; simp at this; omega)
          by_cases hl1 : lp = 0
          · subst hl1
            have HPN := hid (List.length_eq_zero_iff.1 HLP.out)
            have HBG := hid (show beginsB g.ms 0 path = true by rw [HPN.out]; rfl)
            have HAT := hid (show endI g.ms 0 path = 0 by rw [HPN.out, end_nil])
            go_enter Try.func24, Try.ntmps24
            go_wp2_with (first
              | (go_at_call 70; (with_reducible refine HASK.out.mono ?_); rintro e w1 ⟨rfl, hx⟩; have HX := hid hx; have k0' := (hx.cell (p := ⟨w.heap.size, 0, none⟩) hz).trans k0; have k1' := (hx.cell (p := ⟨w.heap.size, 1, none⟩) hz).trans k1; have hzx := Nat.lt_of_lt_of_le hz hx.size; clear hx)
              | (go_at_call 73; (with_reducible refine (HIP.out _ (grew_trans HG0.out HX.out)).mono ?_); rintro e w2 ⟨rfl, hy⟩; have HY := hid hy; have y0 := (hy.cell (p := ⟨w.heap.size, 0, none⟩) hzx).trans k0'; have y1 := (hy.cell (p := ⟨w.heap.size, 1, none⟩) hzx).trans k1'; have hzy := Nat.lt_of_lt_of_le hzx hy.size; clear hy)
              | (go_at_call 73; (with_reducible refine (HIC.out _ (grew_trans HG0.out (grew_trans HX.out HY.out))).mono ?_); rintro e w3 ⟨rfl, hy⟩; have HY3 := hid hy; have u1 := (hy.cell (p := ⟨w.heap.size, 1, none⟩) hzy).trans y1; have hzu := Nat.lt_of_lt_of_le hzy hy.size; have HGW := hid (grew_trans HG0.out (grew_trans HX.out (grew_trans HY.out hy))); clear hy))
            have U1 := hid u1
            obtain ⟨mc, hmc⟩ := links_mv HLKC.out (k := 0) (by rw [HLC.out]; omega)
            obtain ⟨me, hme⟩ := links_mv HLKC.out (k := circ.length - 1) (by rw [HLC.out]; omega)
            have hb0 := begins_of HCNE.out (show (0 : Int) ≤ 0 by have h := end_nonneg (l := path) HTG.out; rw [HAT.out] at h; exact h) hmc
            have he0 := end_of (p := 0) HCNE.out hme
            obtain ⟨l1, hl1⟩ : ∃ l1, lc - 1 = l1 := ⟨_, rfl⟩
            have hl1c : circ.length - 1 = l1 := by rw [HLC.out, hl1]
            rw [hl1c] at hme
            have hl1I : (lc : Int) - 1 = (l1 : Int) := by omega
            have hl1l : l1 < lc := by omega
            have hl1J : (l1 : Int) < (lc : Int) := by omega
            have hwr : IntKind.i64.wrap ((lc : Int) - 1) = (l1 : Int) := by rw [hl1I]; exact IntWalk.i64_in _ (by omega)
            obtain ⟨i0, b0, off0, bb0, boff0, hi0, hi0I, rfl, c0, hbl0, rfl, hm0⟩ := at_list HMVS.out HN.out HCC.out HGW.out (show 0 < lc by omega) hmc
            obtain ⟨i1, _, _, _, _, hi1, hi1I, e1, c1, -, e2, hm1'⟩ := at_list HMVS.out HN.out HCC.out HGW.out hl1l hme
            simp only [Option.some.injEq, Addr.mk.injEq, and_true] at e1 e2
            obtain ⟨rfl, rfl⟩ := e1
            obtain ⟨rfl, rfl⟩ := e2
            have d0 := hm0.c0
            have d2 := hm1'.c2
            have hlt0 := hm0.lt
            obtain ⟨x1, x2, x3, x4⟩ := mc
            obtain ⟨y1, y2, y3, y4⟩ := me
            simp only at d0 d2
            simp only [Nat.add_zero] at c0
            simp only [fr] at hb0
            simp only [tg] at he0
            have HB0 := hid hb0; have HE0 := hid he0
            have u1' := u1
            clear hmc hme hb0 he0 hl1 hl1c hl1I hm0 hm1' u1
            by_cases hx1 : x1 = 0
            · have hd1 : (x1 == 0) = true := by simp [hx1]
              have hd2 : (x1 != 0) = false := by simp [hx1]
              rw [hd1] at HB0
              by_cases hy3 : y3 = 0
              · have hd3 : (y3 == 0) = true := by simp [hy3]
                have hd4 : (y3 != 0) = false := by simp [hy3]
                have HEE := hid (show res = (allI g.ms (wi c t) circ && anyI g.ms (mu c t) circ) by rw [← HRES.out, HEQ.out, HBG.out, HAT.out, HB0.out, HE0.out, hd3]; simp)
                clear hd1 hd3
                have HXX := hid (And.intro hx1 hy3)
                clear hx1 hy3
                have hne1 : (x1 != 0) = false := hd2
                have hne2 : (y3 != 0) = false := hd4
                refine wp_region_later (by kernel_rfl) (by kernel_rfl) (fun hL => ?_)
                repeat (go_big_quiet_step (fail))
                refine wpQuiet_nil ?_
                rintro wf ⟨zz, hzz⟩
                have hwf : Grew w3 wf := by rw [hzz]; exact zz.2
                clear hL hzz zz
                have HWF := hid (grew_trans HGW.out hwf)
                have V1 := hid ((hwf.cell (p := ⟨w.heap.size, 1, none⟩) hzu).trans U1.out)
                have hzf := Nat.lt_of_lt_of_le hzu hwf.size
                clear c0 c1 d0 d2 u1' hwf hd2 hd4 hne1 hne2
                go_wp2
                go_loopg [14, 16, 17, 18, 91, 95] lc (fun k sm _ _ _ i _ wr => ∃ (j : Nat), j ≤ lc ∧ i = .int .i64 (j : Int) ∧ sm = .bool (anyI g.ms (mu c t) (circ.take j)) ∧ Hid (k = lc - j) ∧ Hid (allI g.ms (wi c t) (circ.take j) = true) ∧ Hid (Grew wf wr))
                case atStart => exact ⟨0, Nat.zero_le _, rfl, by simp [anyI], hid rfl, hid (by simp [allI]), hid (grew_refl _)⟩
                case round =>
                  obtain ⟨j, hj, rfl, rfl, HK, HALL, HGR⟩ := hrel
                  rename World => wr
                  have HGJ := hid (grew_trans HWF.out HGR.out)
                  obtain ⟨sb, hsb⟩ : ∃ sb, anyI g.ms (mu c t) (circ.take j) = sb := ⟨_, rfl⟩
                  have HSB := hid hsb
                  rw [hsb]
                  clear hsb
                  by_cases hlt : j < lc
                  · obtain ⟨m, hmv⟩ := links_mv HLKC.out (k := j) (by rw [HLC.out]; exact hlt)
                    have hti : ∀ p, testI g.ms p (nth circ j) = p m := fun p => by unfold testI; rw [hmv]
                    have htall := allI_take (ms := g.ms) (p := wi c t) (l := circ) (j := j) (by rw [HLC.out]; exact hlt)
                    have htany := anyI_take (ms := g.ms) (p := mu c t) (l := circ) (j := j) (by rw [HLC.out]; exact hlt)
                    rw [hti, HALL.out, Bool.true_and] at htall
                    rw [hti, HSB.out] at htany
                    have HTA := hid htall; have HTN := hid htany
                    have HFB := hid (fun (h : wi c t m = false) => allI_false (ms := g.ms) (p := wi c t) (l := circ) (j := j) (by rw [HLC.out]; exact hlt) (by rw [hti]; exact h))
                    obtain ⟨i, _, _, _, _, hi, hiI, e1, cj, hbl, e2, hmm⟩ := at_list HMVS.out HN.out HCC.out HGJ.out hlt hmv
                    simp only [Option.some.injEq, Addr.mk.injEq, and_true] at e1 e2
                    obtain ⟨rfl, rfl⟩ := e1
                    obtain ⟨rfl, rfl⟩ := e2
                    have p0 := hmm.c0
                    have p1 := hmm.c1
                    have p2 := hmm.c2
                    have p3 := hmm.c3
                    have hplt := hmm.lt
                    have hltI : (j : Int) < (lc : Int) := by omega
                    have v1' := (HGR.out.cell (p := ⟨w.heap.size, 1, none⟩) hzf).trans V1.out
                    have hzr := Nat.lt_of_lt_of_le hzf HGR.out.size
                    have HFX := hid (fun (W : World) => HF.out m W)
                    have HWT := hid (show decide ((wt c t m : Int) > 0) = mu c t m by unfold wt; cases mu c t m <;> simp)
                    obtain ⟨bp, hbp⟩ : ∃ bp, wi c t m = bp := ⟨_, rfl⟩
                    obtain ⟨bq, hbq⟩ : ∃ bq, mu c t m = bq := ⟨_, rfl⟩
                    obtain ⟨dq, hdq⟩ : ∃ d : Int, (wt c t m : Int) = d := ⟨_, rfl⟩
                    rw [hbp] at HTA HFB
                    rw [hbq] at HTN HWT
                    rw [hdq] at HWT
                    simp only [hbp, hdq] at HFX
                    obtain ⟨z1, z2, z3, z4⟩ := m
                    simp only [encM] at p0 p1 p2 p3 HFX
                    have hdw := HWT.out
                    clear hmm hmv hti htall htany hbp hbq hdq
                    cases bp with
                    | false =>
                      have HR := hid (show res = false by rw [HEE.out, HFB.out rfl]; rfl)
                      go_wp2_with (go_at_call 72; (with_reducible refine (HFX.out _).mono ?_); rintro e w5 ⟨rfl, hx5⟩; have HX5 := hid hx5; clear hx5)
                      go_ret2
                      exact ⟨by rw [HR.out]; rfl, grew_trans HGJ.out HX5.out⟩
                    | true =>
                      cases sb with
                      | true =>
                        go_wp2_with (go_at_call 72; (with_reducible refine (HFX.out _).mono ?_); rintro e w5 ⟨rfl, hx5⟩; have HX5 := hid hx5; clear hx5)
                        go_roundg (lc - (j + 1))
                        case measure => have := HK.out; omega
                        case rel => exact ⟨j + 1, by omega, by go_num, by rw [HTN.out]; rfl, hid rfl, hid HTA.out, hid (grew_trans HGR.out HX5.out)⟩
                      | false =>
                        cases bq
                        all_goals (
                          go_wp2_with (go_at_call 72; (with_reducible refine (HFX.out _).mono ?_); rintro e w5 ⟨rfl, hx5⟩; have HX5 := hid hx5; clear hx5)
                          go_roundg (lc - (j + 1))
                          case measure => have := HK.out; omega
                          case rel => exact ⟨j + 1, by omega, by go_num, by rw [HTN.out]; rfl, hid rfl, hid HTA.out, hid (grew_trans HGR.out HX5.out)⟩)
                  · obtain rfl : j = lc := by omega
                    have ha1 := HALL.out
                    have ha2 := HSB.out
                    rw [List.take_of_length_le (by rw [HLC.out]; exact Nat.le_refl _)] at ha1 ha2
                    have HR := hid (show res = sb by rw [HEE.out, ha1, ha2]; rfl)
                    clear ha1 ha2
                    go_wp2
                    go_ret2
                    exact ⟨by rw [HR.out]; rfl, HGJ.out⟩
              · have hd3 : (y3 == 0) = false := by simpa using hy3
                have hd4 : (y3 != 0) = true := by simpa using hy3
                obtain rfl : res = false := by rw [← HRES.out, HEQ.out, HBG.out, HAT.out, HB0.out, HE0.out, hd3]; rfl
                clear hd1
                refine wp_region_later (by kernel_rfl) (by kernel_rfl) (fun hL => ?_)
                repeat (go_big_quiet_step (fail))
                refine wpQuiet_nil ?_
                rintro wf ⟨zz, hzz⟩
                have hwf : Grew w3 wf := by rw [hzz]; exact zz.2
                clear hL hzz zz
                go_wp2
                go_ret2
                exact ⟨rfl, grew_trans HGW.out hwf⟩
            · have hd1 : (x1 == 0) = false := by simpa using hx1
              have hd2 : (x1 != 0) = true := by simpa using hx1
              rw [hd1] at HB0
              obtain rfl : res = false := by rw [← HRES.out, HEQ.out, HBG.out, HAT.out, HB0.out]; rfl
              refine wp_region_later (by kernel_rfl) (by kernel_rfl) (fun hL => ?_)
              repeat (go_big_quiet_step (fail))
              refine wpQuiet_nil ?_
              rintro wf ⟨zz, hzz⟩
              have hwf : Grew w3 wf := by rw [hzz]; exact zz.2
              clear hL hzz zz
              go_wp2
              go_ret2
              exact ⟨rfl, grew_trans HGW.out hwf⟩
          · have HPNE := hid (show path ≠ [] from fun e => by have := HLP.out; rw [e] at this; simp at this; omega)
            have hlpI : (0 : Int) < (lp : Int) := by omega
            have hlpI2 : (lp : Int) > 0 := by omega
            have hlpd : decide ((lp : Int) > 0) = true := decide_eq_true hlpI2
            have hlpn : 0 < lp := by omega
            have hlpe : decide (0 < lp) = true := decide_eq_true hlpn
            obtain ⟨mp, hmp⟩ := links_mv HLKP.out (k := 0) (by rw [HLP.out]; omega)
            obtain ⟨mq, hmq⟩ := links_mv HLKP.out (k := path.length - 1) (by rw [HLP.out]; omega)
            have hbg := begins_of HPNE.out (Int.le_refl 0) hmp
            have hen := end_of (p := 0) HPNE.out hmq
            obtain ⟨lq, hlq⟩ : ∃ lq, lp - 1 = lq := ⟨_, rfl⟩
            have hlqc : path.length - 1 = lq := by rw [HLP.out, hlq]
            rw [hlqc] at hmq
            have hlqI : (lp : Int) - 1 = (lq : Int) := by omega
            have hlql : lq < lp := by omega
            have hlqJ : (lq : Int) < (lp : Int) := by omega
            have hwq : IntKind.i64.wrap ((lp : Int) - 1) = (lq : Int) := by rw [hlqI]; exact IntWalk.i64_in _ (by omega)
            have HBGN := hid hbg; have HENN := hid hen; have HMP := hid hmp; have HMQ := hid hmq
            clear hbg hen hmp hmq hlq hlqc hlqI
            have HGEN := hid (fun (W : World) (h : Grew w W) => at_list HMVS.out HN.out HPP.out h (show 0 < lp by omega) HMP.out)
            have HGEQ := hid (fun (W : World) (h : Grew w W) => at_list HMVS.out HN.out HPP.out h hlql HMQ.out)
            go_enter Try.func24, Try.ntmps24
            go_wp2_with (first
              | (go_at_call 70; (with_reducible refine HASK.out.mono ?_); rintro e w1 ⟨rfl, hx⟩; have HX := hid hx; have k0' := (hx.cell (p := ⟨w.heap.size, 0, none⟩) hz).trans k0; have k1' := (hx.cell (p := ⟨w.heap.size, 1, none⟩) hz).trans k1; have hzx := Nat.lt_of_lt_of_le hz hx.size; clear hx)
              | (go_at_call 73; (with_reducible refine (HIP.out _ (grew_trans HG0.out HX.out)).mono ?_); rintro e w2 ⟨rfl, hy⟩; have HY := hid hy; have y0 := (hy.cell (p := ⟨w.heap.size, 0, none⟩) hzx).trans k0'; have y1 := (hy.cell (p := ⟨w.heap.size, 1, none⟩) hzx).trans k1'; have hzy := Nat.lt_of_lt_of_le hzx hy.size; clear hy)
              | (go_at_call 73; (with_reducible refine (HIC.out _ (grew_trans HG0.out (grew_trans HX.out HY.out))).mono ?_); rintro e w3 ⟨rfl, hy⟩; have HY3 := hid hy; have u1 := (hy.cell (p := ⟨w.heap.size, 1, none⟩) hzy).trans y1; have hzu := Nat.lt_of_lt_of_le hzy hy.size; have HGW := hid (grew_trans HG0.out (grew_trans HX.out (grew_trans HY.out hy))); clear hy))
            obtain ⟨j0, pb0, poff0, vb0, voff0, hj0, hj0I, rfl, pc0, hpbl, rfl, hpm0⟩ := HGEN.out w3 HGW.out
            obtain ⟨j1, _, _, _, _, hj1, hj1I, ep1, pc1, -, ep2, hpm1⟩ := HGEQ.out w3 HGW.out
            simp only [Option.some.injEq, Addr.mk.injEq, and_true] at ep1 ep2
            obtain ⟨rfl, rfl⟩ := ep1
            obtain ⟨rfl, rfl⟩ := ep2
            have pd0 := hpm0.c0
            have pd2 := hpm1.c2
            have hplt0 := hpm0.lt
            obtain ⟨p1, p2, p3, p4⟩ := mp
            obtain ⟨q1, q2, x, q4⟩ := mq
            simp only at pd0 pd2
            simp only [Nat.add_zero] at pc0
            simp only [fr] at HBGN
            simp only [tg] at HENN
            clear hpm0 hpm1
            by_cases hp0 : p1 = 0
            · subst hp0
              have HBG := hid (show beginsB g.ms 0 path = true by rw [HBGN.out]; rfl)
              have HAT := HENN
              refine wp_region_later (by kernel_rfl) (by kernel_rfl) (fun hL => ?_)
              repeat (go_big_quiet_step (fail))
              refine wpQuiet_nil ?_
              rintro wa ⟨zz, hzz⟩
              have hwa : Grew w3 wa := by rw [hzz]; exact zz.2
              clear hL hzz zz
              have pa2 := (hwa.cell (p := ⟨vb0, voff0 + j1 * 4 + 2, none⟩) hplt0).trans pd2
              have pa1 := (hwa.cell (p := ⟨pb0, poff0 + lq, none⟩) hpbl).trans pc1
              have u2 := (hwa.cell (p := ⟨w.heap.size, 1, none⟩) hzu).trans u1
              have hzu2 := Nat.lt_of_lt_of_le hzu hwa.size
              have hplt2 := Nat.lt_of_lt_of_le hplt0 hwa.size
              have hpbl2 := Nat.lt_of_lt_of_le hpbl hwa.size
              have HGW2 := hid (grew_trans HGW.out hwa)
              clear hwa pd0 pd2 pc0 pc1 u1
              go_wp2
              refine wp_region_later (by kernel_rfl) (by kernel_rfl) (fun hL => ?_)
              repeat (go_big_quiet_step (fail))
              refine wpQuiet_nil ?_
              rintro wb ⟨zz, hzz⟩
              have hwb : Grew wa wb := by rw [hzz]; exact zz.2
              clear hL hzz zz
              have u3 := (hwb.cell (p := ⟨w.heap.size, 1, none⟩) hzu2).trans u2
              have hzu3 := Nat.lt_of_lt_of_le hzu2 hwb.size
              have HGW3 := hid (grew_trans HGW2.out hwb)
              clear hwb pa1 pa2 u2
              go_wp2
              have U1 := hid u3
              obtain ⟨mc, hmc⟩ := links_mv HLKC.out (k := 0) (by rw [HLC.out]; omega)
              obtain ⟨me, hme⟩ := links_mv HLKC.out (k := circ.length - 1) (by rw [HLC.out]; omega)
              have hb0 := begins_of HCNE.out (show (0 : Int) ≤ x by have h := end_nonneg (l := path) HTG.out; rw [HAT.out] at h; exact h) hmc
              have he0 := end_of (p := x) HCNE.out hme
              obtain ⟨l1, hl1⟩ : ∃ l1, lc - 1 = l1 := ⟨_, rfl⟩
              have hl1c : circ.length - 1 = l1 := by rw [HLC.out, hl1]
              rw [hl1c] at hme
              have hl1I : (lc : Int) - 1 = (l1 : Int) := by omega
              have hl1l : l1 < lc := by omega
              have hl1J : (l1 : Int) < (lc : Int) := by omega
              have hwr : IntKind.i64.wrap ((lc : Int) - 1) = (l1 : Int) := by rw [hl1I]; exact IntWalk.i64_in _ (by omega)
              obtain ⟨i0, b0, off0, _, _, hi0, hi0I, rfl, c0, hbl0, e0, hm0⟩ := at_list HMVS.out HN.out HCC.out HGW3.out (show 0 < lc by omega) hmc
              simp only [Option.some.injEq, Addr.mk.injEq, and_true] at e0
              obtain ⟨rfl, rfl⟩ := e0
              obtain ⟨i1, _, _, _, _, hi1, hi1I, e1, c1, -, e2, hm1'⟩ := at_list HMVS.out HN.out HCC.out HGW3.out hl1l hme
              simp only [Option.some.injEq, Addr.mk.injEq, and_true] at e1 e2
              obtain ⟨rfl, rfl⟩ := e1
              obtain ⟨rfl, rfl⟩ := e2
              have d0 := hm0.c0
              have d2 := hm1'.c2
              have hlt0 := hm0.lt
              obtain ⟨x1, x2, x3, x4⟩ := mc
              obtain ⟨y1, y2, y3, y4⟩ := me
              simp only at d0 d2
              simp only [Nat.add_zero] at c0
              simp only [fr] at hb0
              simp only [tg] at he0
              have HB0 := hid hb0; have HE0 := hid he0
              have u1' := u3
              clear hmc hme hb0 he0 hl1 hl1c hl1I hm0 hm1' u3
              by_cases hx1 : x1 = x
              · have hd1 : (x1 == x) = true := by simp [hx1]
                have hd2 : (x1 != x) = false := by simp [hx1]
                rw [hd1] at HB0
                by_cases hy3 : y3 = x
                · have hd3 : (y3 == x) = true := by simp [hy3]
                  have hd4 : (y3 != x) = false := by simp [hy3]
                  have HEE := hid (show res = (allI g.ms (wi c t) circ && anyI g.ms (mu c t) circ) by rw [← HRES.out, HEQ.out, HBG.out, HAT.out, HB0.out, HE0.out, hd3]; simp)
                  clear hd1 hd3
                  have HXX := hid (And.intro hx1 hy3)
                  clear hx1 hy3
                  have hne1 : (x1 != x) = false := hd2
                  have hne2 : (y3 != x) = false := hd4
                  refine wp_region_later (by kernel_rfl) (by kernel_rfl) (fun hL => ?_)
                  repeat (go_big_quiet_step (fail))
                  refine wpQuiet_nil ?_
                  rintro wf ⟨zz, hzz⟩
                  have hwf : Grew wb wf := by rw [hzz]; exact zz.2
                  clear hL hzz zz
                  have HWF := hid (grew_trans HGW3.out hwf)
                  have V1 := hid ((hwf.cell (p := ⟨w.heap.size, 1, none⟩) hzu3).trans U1.out)
                  have hzf := Nat.lt_of_lt_of_le hzu3 hwf.size
                  clear c0 c1 d0 d2 u1' hwf hd2 hd4 hne1 hne2
                  go_wp2
                  go_loopg [14, 16, 17, 18, 91, 95] lc (fun k sm _ _ _ i _ wr => ∃ (j : Nat), j ≤ lc ∧ i = .int .i64 (j : Int) ∧ sm = .bool (anyI g.ms (mu c t) (circ.take j)) ∧ Hid (k = lc - j) ∧ Hid (allI g.ms (wi c t) (circ.take j) = true) ∧ Hid (Grew wf wr))
                  case atStart => exact ⟨0, Nat.zero_le _, rfl, by simp [anyI], hid rfl, hid (by simp [allI]), hid (grew_refl _)⟩
                  case round =>
                    obtain ⟨j, hj, rfl, rfl, HK, HALL, HGR⟩ := hrel
                    rename World => wr
                    have HGJ := hid (grew_trans HWF.out HGR.out)
                    obtain ⟨sb, hsb⟩ : ∃ sb, anyI g.ms (mu c t) (circ.take j) = sb := ⟨_, rfl⟩
                    have HSB := hid hsb
                    rw [hsb]
                    clear hsb
                    by_cases hlt : j < lc
                    · obtain ⟨m, hmv⟩ := links_mv HLKC.out (k := j) (by rw [HLC.out]; exact hlt)
                      have hti : ∀ p, testI g.ms p (nth circ j) = p m := fun p => by unfold testI; rw [hmv]
                      have htall := allI_take (ms := g.ms) (p := wi c t) (l := circ) (j := j) (by rw [HLC.out]; exact hlt)
                      have htany := anyI_take (ms := g.ms) (p := mu c t) (l := circ) (j := j) (by rw [HLC.out]; exact hlt)
                      rw [hti, HALL.out, Bool.true_and] at htall
                      rw [hti, HSB.out] at htany
                      have HTA := hid htall; have HTN := hid htany
                      have HFB := hid (fun (h : wi c t m = false) => allI_false (ms := g.ms) (p := wi c t) (l := circ) (j := j) (by rw [HLC.out]; exact hlt) (by rw [hti]; exact h))
                      obtain ⟨i, _, _, _, _, hi, hiI, e1, cj, hbl, e2, hmm⟩ := at_list HMVS.out HN.out HCC.out HGJ.out hlt hmv
                      simp only [Option.some.injEq, Addr.mk.injEq, and_true] at e1 e2
                      obtain ⟨rfl, rfl⟩ := e1
                      obtain ⟨rfl, rfl⟩ := e2
                      have p0 := hmm.c0
                      have p1 := hmm.c1
                      have p2 := hmm.c2
                      have p3 := hmm.c3
                      have hplt := hmm.lt
                      have hltI : (j : Int) < (lc : Int) := by omega
                      have v1' := (HGR.out.cell (p := ⟨w.heap.size, 1, none⟩) hzf).trans V1.out
                      have hzr := Nat.lt_of_lt_of_le hzf HGR.out.size
                      have HFX := hid (fun (W : World) => HF.out m W)
                      have HWT := hid (show decide ((wt c t m : Int) > 0) = mu c t m by unfold wt; cases mu c t m <;> simp)
                      obtain ⟨bp, hbp⟩ : ∃ bp, wi c t m = bp := ⟨_, rfl⟩
                      obtain ⟨bq, hbq⟩ : ∃ bq, mu c t m = bq := ⟨_, rfl⟩
                      obtain ⟨dq, hdq⟩ : ∃ d : Int, (wt c t m : Int) = d := ⟨_, rfl⟩
                      rw [hbp] at HTA HFB
                      rw [hbq] at HTN HWT
                      rw [hdq] at HWT
                      simp only [hbp, hdq] at HFX
                      obtain ⟨z1, z2, z3, z4⟩ := m
                      simp only [encM] at p0 p1 p2 p3 HFX
                      have hdw := HWT.out
                      clear hmm hmv hti htall htany hbp hbq hdq
                      cases bp with
                      | false =>
                        have HR := hid (show res = false by rw [HEE.out, HFB.out rfl]; rfl)
                        go_wp2_with (go_at_call 72; (with_reducible refine (HFX.out _).mono ?_); rintro e w5 ⟨rfl, hx5⟩; have HX5 := hid hx5; clear hx5)
                        go_ret2
                        exact ⟨by rw [HR.out]; rfl, grew_trans HGJ.out HX5.out⟩
                      | true =>
                        cases sb with
                        | true =>
                          go_wp2_with (go_at_call 72; (with_reducible refine (HFX.out _).mono ?_); rintro e w5 ⟨rfl, hx5⟩; have HX5 := hid hx5; clear hx5)
                          go_roundg (lc - (j + 1))
                          case measure => have := HK.out; omega
                          case rel => exact ⟨j + 1, by omega, by go_num, by rw [HTN.out]; rfl, hid rfl, hid HTA.out, hid (grew_trans HGR.out HX5.out)⟩
                        | false =>
                          cases bq
                          all_goals (
                            go_wp2_with (go_at_call 72; (with_reducible refine (HFX.out _).mono ?_); rintro e w5 ⟨rfl, hx5⟩; have HX5 := hid hx5; clear hx5)
                            go_roundg (lc - (j + 1))
                            case measure => have := HK.out; omega
                            case rel => exact ⟨j + 1, by omega, by go_num, by rw [HTN.out]; rfl, hid rfl, hid HTA.out, hid (grew_trans HGR.out HX5.out)⟩)
                    · obtain rfl : j = lc := by omega
                      have ha1 := HALL.out
                      have ha2 := HSB.out
                      rw [List.take_of_length_le (by rw [HLC.out]; exact Nat.le_refl _)] at ha1 ha2
                      have HR := hid (show res = sb by rw [HEE.out, ha1, ha2]; rfl)
                      clear ha1 ha2
                      go_wp2
                      go_ret2
                      exact ⟨by rw [HR.out]; rfl, HGJ.out⟩
                · have hd3 : (y3 == x) = false := by simpa using hy3
                  have hd4 : (y3 != x) = true := by simpa using hy3
                  obtain rfl : res = false := by rw [← HRES.out, HEQ.out, HBG.out, HAT.out, HB0.out, HE0.out, hd3]; rfl
                  clear hd1
                  refine wp_region_later (by kernel_rfl) (by kernel_rfl) (fun hL => ?_)
                  repeat (go_big_quiet_step (fail))
                  refine wpQuiet_nil ?_
                  rintro wf ⟨zz, hzz⟩
                  have hwf : Grew wb wf := by rw [hzz]; exact zz.2
                  clear hL hzz zz
                  go_wp2
                  go_ret2
                  exact ⟨rfl, grew_trans HGW3.out hwf⟩
              · have hd1 : (x1 == x) = false := by simpa using hx1
                have hd2 : (x1 != x) = true := by simpa using hx1
                rw [hd1] at HB0
                obtain rfl : res = false := by rw [← HRES.out, HEQ.out, HBG.out, HAT.out, HB0.out]; rfl
                refine wp_region_later (by kernel_rfl) (by kernel_rfl) (fun hL => ?_)
                repeat (go_big_quiet_step (fail))
                refine wpQuiet_nil ?_
                rintro wf ⟨zz, hzz⟩
                have hwf : Grew wb wf := by rw [hzz]; exact zz.2
                clear hL hzz zz
                go_wp2
                go_ret2
                exact ⟨rfl, grew_trans HGW3.out hwf⟩
            · obtain rfl : res = false := by
                rw [← HRES.out, HEQ.out, HBGN.out, show (p1 == 0) = false by simpa using hp0]; rfl
              have hpd1 : (p1 == 0) = false := by simpa using hp0
              have hpd2 : (p1 != 0) = true := by simpa using hp0
              refine wp_region_later (by kernel_rfl) (by kernel_rfl) (fun hL => ?_)
              repeat (go_big_quiet_step (fail))
              refine wpQuiet_nil ?_
              rintro wa ⟨zz, hzz⟩
              have hwa : Grew w3 wa := by rw [hzz]; exact zz.2
              clear hL hzz zz
              go_wp2
              go_ret2
              exact ⟨rfl, grew_trans HGW.out hwa⟩
  · have he : refuteA g c t path circ = (false, askM g c t) := by unfold refuteA; rw [if_neg ha]
    rw [he]
    obtain ⟨r', hr'⟩ : ∃ r, askM g c t = r := ⟨_, rfl⟩
    rw [hr'] at HASK ha ⊢
    have ha1 : (r' == 0) = false := by simpa using ha
    have ha2 : (r' != 0) = true := by simpa using ha
    clear he hr'
    go_enter Try.func24, Try.ntmps24
    go_wp2_with (go_at_call 70; (with_reducible refine HASK.out.mono ?_); rintro e w1 ⟨rfl, hx⟩)
    go_ret2
    exact ⟨rfl, grew_trans HG0.out hx⟩
end Go.Proofs.Ytojkohpniokaaaa
