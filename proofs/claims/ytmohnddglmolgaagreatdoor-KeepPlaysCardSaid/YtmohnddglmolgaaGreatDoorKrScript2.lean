/- Walk of the reference: a line of a script (50). Printed by gen_krscript.py. -/
import Derived.Test.YtmohnddglmolgaaGreatDoorKrScript
import Derived.Deep.RegionLaw
namespace Go.Proofs.YtmohnddglmolgaaGreatDoor
open Go Go.RowKit Go.Lin Go.Lin.Kp

set_option maxHeartbeats 40000000 in
set_option maxRecDepth 20000 in
theorem script50_any (bs bm bb : Nat) (D : Dk) (F G : Nat → Prop) (s : ByteArray) (w : World) (h : RDeskS 117 w bs bm (ptr bb) ⟨D.M, some D.b⟩ F G) (hok : DkOk D) (hle : Le D.M D.b) (hsz : D.M.size + 20 < 1000000000) (hs : s.size ≤ 10000) :
    Calls Tryz.prog 50 #[ptr bs, .string s] w (RLine w bs bm F G (scriptM askA D s.data.toList)) := by
  have HSP := hid (rsplit94_any 32 32 rfl s w (by omega))
  have HD := hid h
  have hbk := rbook_here h
  have HC := hid (fun (W : World) (hg : Grew w W) => (⟨by have := cell_of_row W bs 0 _ _ _ (h.grew hg).obj; simpa using this, by have := cell_of_row W bs 1 _ _ _ (h.grew hg).obj; simpa using this⟩ : W.cell? ⟨bs, 0, none⟩ = some (ptr bm) ∧ W.cell? ⟨bs, 1, none⟩ = some (ptr bb)))
  have HASK := hid (fun (W : World) (hg : Grew w W) => rask82_any bb bm D.b G s W (hbk.grew hg) hok.b)
  have HNUM := hid (fun (x : ByteArray) (hx : x.size ≤ 10000) (W : World) => rnum97_any x W (by omega))
  have HCEL := hid (fun (x : ByteArray) (hx : x.size ≤ 10000) (W : World) => rcells98_any x W (by omega))
  have HTOLD := hid told95_any
  have HADD := hid (fun (W : World) (hg : Grew w W) (n : Int) => radd80_any bb bm D.b D.M F G n W (hbk.grew hg) (h.mem.grew hg) h.disj hok.M (show D.M.size + 10 < _ by omega) hok.b hle)
  have HCHG := hid (fun (W : World) (hg : Grew w W) (i n : Int) => rchange81_any bb bm D.b D.M F G i n W (hbk.grew hg) (h.mem.grew hg) h.disj hok.M hsz hok.b hle)
  have HFAIL := hid (fun (W : World) (hg : Grew w W) (k : Int) (v : Value) (l : List Int) (hv : IsInts Any W v l) => rfail77_any bm D.M F k v l W (h.mem.grew hg) hv)
  have HCR := hid (fun (W : World) (hg : Grew w W) (v : Value) (l : List Int) (hv : IsInts (fun k _ => k ≠ bm) W v l) => rcrash78_any bm D.M F v l W (h.mem.grew hg) (show D.M.size < _ by omega) hv)
  have HOP := hid (fun (W : World) (hg : Grew w W) => ropen49_any bm D.M F W (h.mem.grew hg) hok.M (show D.M.size + 10 < _ by omega))
  have HER := hid (open_err (M := D.M))
  have HBM := hid (show bm < w.heap.size from h.mem.lt)
  obtain ⟨ru, hru⟩ := hbk
  obtain ⟨la, lc, rfl, hlm, -⟩ := id hru.list
  have HL1 := hid (fun (W : World) (hg : Grew w W) => (hru.grew hg).c1)
  have HLI := hid (fun (W : World) (hg : Grew w W) => (hru.grew hg).list.any)
  have HBO := hid hok.b
  have fo := ask_eq s [111, 112, 101, 110]
  have fl := ask_eq s [108, 105, 115, 116]
  obtain ⟨l, hl⟩ : ∃ l, s.data.toList = l := ⟨_, rfl⟩
  rw [hl] at fo fl ⊢
  rw [hl] at HSP
  rw [hl] at HASK
  clear h hok hle hsz hru hl
  by_cases h_open : l = wOpen
  · rw [decide_eq_true (show l = [111, 112, 101, 110] from h_open)] at fo
    clear fl
    obtain ⟨⟨ob, err, M'⟩, hop⟩ : ∃ x, D.M.open_ = x := ⟨_, rfl⟩
    have hsc : scriptM askA D l = (okM err, ⟨M', ob.getD D.b⟩) := by
      rw [h_open, script_some open_parse]
      show (okM D.M.open_.2.1, (⟨D.M.open_.2.2, D.M.open_.1.getD D.b⟩ : Dk)) = _
      rw [hop]
    have HSC := hid hsc
    rw [hop] at HOP HER
    have hER := HER.out
    simp only at hER
    clear hsc hop h_open
    cases ob with
    | none =>
      have her : (err == 0) = false := by rw [beq_eq_false_iff_ne]; exact hER.2 rfl
      clear hER
      go_enter Tryz.func50, Tryz.ntmps50
      go_wp2_with (first
        | (go_at_call 94; (with_reducible refine HSP.out.mono ?_); rintro e w1 ⟨u, ws, rfl, hsg, hws, hsm, hwl, hg⟩; have HSG := hid hsg; have HWS := hid hws; have HSM := hid hsm; have HG1 := hid hg; obtain ⟨q0, q1⟩ := HC.out _ hg; have q2 := HL1.out _ hg; clear hsg hsm hwl hws hg)
        | (go_at_call 49; (with_reducible refine (HOP.out _ HG1.out).mono ?_); rintro e w2 ⟨hm, hk, rfl⟩; have HM := hid hm; have HK := hid hk; clear hm hk)
        | (go_at_call 95; (with_reducible refine (HTOLD.out _ _).mono ?_); rintro e w5 ⟨rfl, rfl⟩))
      go_ret2
      rw [HSC.out]
      exact rline_mem HD.out HG1.out HM.out (fun _ e => .inl e) HK.out
    | some b' =>
      obtain rfl : err = 0 := hER.1 b' rfl
      clear hER
      go_enter Tryz.func50, Tryz.ntmps50
      go_wp2_with (first
        | (go_at_call 94; (with_reducible refine HSP.out.mono ?_); rintro e w1 ⟨u, ws, rfl, hsg, hws, hsm, hwl, hg⟩; have HSG := hid hsg; have HWS := hid hws; have HSM := hid hsm; have HG1 := hid hg; obtain ⟨q0, q1⟩ := HC.out _ hg; have q2 := HL1.out _ hg; clear hsg hsm hwl hws hg)
        | (go_at_call 49; (with_reducible refine (HOP.out _ HG1.out).mono ?_); rintro e w2 ⟨hm, hk, bb', G', rfl, hb, hG⟩; have HM := hid hm; have HK := hid hk; have HB := hid hb; have HGL := hid hG; have ho2 := hk.obj _ _ (HD.out.grew HG1.out).obj HD.out.nF; have d2 := cell_of_row w2 bs 1 _ _ _ ho2; have f2 := frozen_of_row w2 bs 1 _ _ ho2; clear hm hk hb hG ho2)
        | (go_at_call 95; (with_reducible refine (HTOLD.out _ _).mono ?_); rintro e w5 ⟨rfl, rfl⟩))
      go_ret2
      rw [HSC.out]
      exact rline_open HD.out HG1.out HM.out HK.out HB.out HGL.out
  rw [decide_eq_false (show ¬ l = [111, 112, 101, 110] from h_open)] at fo
  by_cases h_list : l = wList
  · rw [decide_eq_true (show l = [108, 105, 115, 116] from h_list)] at fl
    have hsc : scriptM askA D l = ((if D.b.list.length = 0 then [45] else joinM 44 D.b.list, 0), D) := by
      rw [h_list, script_some list_parse]; rfl
    have HSC := hid hsc
    have HJ := hid (fun (W : World) (hg : Grew w W) => rjoined96_any _ D.b.list 44 W (HLI.out W hg) (by have := HBO.out.1; omega) (fun x hx => by have := isNum_iff.1 (HBO.out.2 x hx); omega))
    obtain ⟨n, hn⟩ : ∃ n, D.b.list.length = n := ⟨_, rfl⟩
    rw [hn] at HJ HSC HL1
    clear hsc h_list hn
    by_cases h0 : n = 0
    · have e0 : ((n : Int) == 0) = true := by rw [h0]; rfl
      have HN0 := hid h0
      clear h0
      go_enter Tryz.func50, Tryz.ntmps50
      go_wp2_with (go_at_call 94; (with_reducible refine HSP.out.mono ?_); rintro e w1 ⟨u, ws, rfl, hsg, hws, hsm, hwl, hg⟩; have HSG := hid hsg; have HWS := hid hws; have HSM := hid hsm; have HG1 := hid hg; obtain ⟨q0, q1⟩ := HC.out _ hg; have q2 := HL1.out _ hg; clear hsg hsm hwl hws hg)
      go_ret2
      rw [HSC.out, if_pos HN0.out]
      exact rline_grew (a := ([45], 0)) HD.out HG1.out
    · have e0 : ((n : Int) == 0) = false := by rw [beq_eq_false_iff_ne]; omega
      have HN0 := hid h0
      clear h0
      go_enter Tryz.func50, Tryz.ntmps50
      go_wp2_with (first
        | (go_at_call 94; (with_reducible refine HSP.out.mono ?_); rintro e w1 ⟨u, ws, rfl, hsg, hws, hsm, hwl, hg⟩; have HSG := hid hsg; have HWS := hid hws; have HSM := hid hsm; have HG1 := hid hg; obtain ⟨q0, q1⟩ := HC.out _ hg; have q2 := HL1.out _ hg; clear hsg hsm hwl hws hg)
        | (go_at_call 96; (with_reducible refine (HJ.out _ HG1.out).mono ?_); rintro e w2 ⟨rfl, hg⟩; have HG2 := hid (grew_trans HG1.out hg); clear hg))
      go_ret2
      rw [HSC.out, if_neg HN0.out]
      exact rline_grew (a := (joinM 44 D.b.list, 0)) HD.out HG2.out
  rw [decide_eq_false (show ¬ l = [108, 105, 115, 116] from h_list)] at fl
  have HNO := hid (And.intro h_open h_list)
  clear h_open h_list HL1 HLI HBO
  go_enter Tryz.func50, Tryz.ntmps50
  go_upto_region 11 with (go_at_call 94; (with_reducible refine HSP.out.mono ?_); rintro e w1 ⟨u, ws, rfl, hsg, hws, hsm, hwl, hg⟩; have HSG := hid hsg; have HWS := hid hws; have HSM := hid hsm; have HG1 := hid hg; obtain ⟨q0, q1⟩ := HC.out _ hg; clear hsg hsm hwl hws hg)
  obtain ⟨x0, r, rfl⟩ : ∃ x0 r, ws = x0 :: r := by
    cases ws with
    | nil => exact absurd HWS.out.symm (splitL_ne 32 l)
    | cons x r => exact ⟨x, r, rfl⟩
  have hsp : splitL 32 l = x0.data.toList :: bytesOf r := HWS.out.symm
  have HSPL := hid hsp
  obtain ⟨m, hm⟩ : ∃ m, (x0 :: r).length = m := ⟨_, rfl⟩
  rw [hm] at HSG
  have hmr : r.length + 1 = m := hm
  have HMR := hid hmr
  obtain ⟨g, off, c, cur, rfl, hgb, hgo, -, hmx, hat⟩ := HSG.out.at (by omega)
  have HW := hid (fun (i : Nat) (x : ByteArray) (hx : (x0 :: r)[i]? = some x) => (by
    have hi : i < m := by rw [← hm]; exact (List.getElem?_eq_some_iff.1 hx).1
    have := hat i (by omega)
    rw [List.getElem?_map, hx] at this
    exact this : w1.cell? ⟨g, off + i, none⟩ = some (.string x)))
  have c0 := HW.out 0 x0 rfl
  simp only [Nat.add_zero] at c0
  have hm1 : 0 < m := by omega
  have hm1I : (0 : Int) < (m : Int) := by omega
  have fa := ask_eq x0 [97, 100, 100]
  have fc := ask_eq x0 [99, 104, 97, 110, 103, 101]
  have ff := ask_eq x0 [102, 97, 105, 108]
  have fr := ask_eq x0 [99, 114, 97, 115, 104]
  obtain ⟨z0, hz0⟩ : ∃ z, x0.data.toList = z := ⟨_, rfl⟩
  rw [hz0] at fa fc ff fr hsp
  have HZ0 := hid hz0
  have HS0 := hid hsp
  clear hm hmr hgb hgo hmx hat hz0 hsp HSP fo fl
  by_cases ha : z0 = wAdd
  · rw [decide_eq_true (show z0 = [97, 100, 100] from ha)] at fa
    rw [decide_eq_false (show ¬ z0 = [99, 104, 97, 110, 103, 101] by rw [ha]; decide)] at fc
    rw [decide_eq_false (show ¬ z0 = [102, 97, 105, 108] by rw [ha]; decide)] at ff
    rw [decide_eq_false (show ¬ z0 = [99, 114, 97, 115, 104] by rw [ha]; decide)] at fr
    by_cases h1 : r.length = 1
    · obtain ⟨x1, rfl⟩ : ∃ x1, r = [x1] := by rcases r with _ | ⟨x1, _ | ⟨x2, t⟩⟩; (cases h1); exact ⟨x1, rfl⟩; (simp at h1)
      obtain rfl : m = 2 := HMR.out.symm
      have c1 := HW.out 1 x1 rfl
      have hx1 := HSM.out x1 (by simp)
      have HN1 := hid (fun W => HNUM.out x1 (by omega) W)
      have hp := parse_add1 (x := l) (a := x1.data.toList) (by rw [HS0.out, ha]; rfl)
      cases hq : numM x1.data.toList with
      | none =>
        rw [hq] at hp HN1
        simp only [rnumV] at HN1
        have HP := hid hp
        clear hq hp ha h1 hx1
        go_wp2_with (first
          | (go_at_call 97; (with_reducible refine (HN1.out _).mono ?_); rintro e w4 ⟨rfl, rfl⟩)
          | (go_at_call 82; (with_reducible refine (HASK.out _ HG1.out).mono ?_); rintro e w9 ⟨rfl, hg⟩; have HG9 := hid (grew_trans HG1.out hg); clear hg))
        go_ret2
        rw [script_bad HSPL.out (by simp) HP.out]
        exact rline_grew HD.out HG9.out
      | some n =>
        rw [hq] at hp HN1
        simp only [rnumV] at HN1
        have HP := hid hp
        clear hq hp ha h1 hx1
        go_wp2_with (first
          | (go_at_call 97; (with_reducible refine (HN1.out _).mono ?_); rintro e w4 ⟨rfl, rfl⟩)
          | (go_at_call 80; (with_reducible refine (HADD.out _ HG1.out n).mono ?_); rintro e w6 ⟨rfl, hm, hb, hk⟩; have HM := hid hm; have HB := hid hb; have HK := hid hk; clear hm hb hk)
          | (go_at_call 95; (with_reducible refine (HTOLD.out _ _).mono ?_); rintro e w5 ⟨rfl, rfl⟩))
        go_ret2
        rw [script_some HP.out]
        exact rline_deed HD.out HG1.out HM.out HB.out HK.out
    · have HP := hid (parse_other HSPL.out (fun e => h1 (by have := e.2; rw [List.length_map] at this; exact this)) (fun e => absurd ((HZ0.out.symm.trans e.1).symm.trans ha) (by decide)) (fun e => absurd ((HZ0.out.symm.trans e.1).symm.trans ha) (by decide)) (fun e => absurd ((HZ0.out.symm.trans e.1).symm.trans ha) (by decide)) HNO.out.1 HNO.out.2)
      have e2 : ((m : Int) == 2) = false := by rw [beq_eq_false_iff_ne]; have := HMR.out; omega
      clear ha h1
      go_wp2_with (go_at_call 82; (with_reducible refine (HASK.out _ HG1.out).mono ?_); rintro e w9 ⟨rfl, hg⟩; have HG9 := hid (grew_trans HG1.out hg); clear hg)
      go_ret2
      rw [script_ask HP.out]
      exact rline_grew HD.out HG9.out
  by_cases hc : z0 = wChange
  · rw [decide_eq_false (show ¬ z0 = [97, 100, 100] by rw [hc]; decide)] at fa
    rw [decide_eq_true (show z0 = [99, 104, 97, 110, 103, 101] from hc)] at fc
    rw [decide_eq_false (show ¬ z0 = [102, 97, 105, 108] by rw [hc]; decide)] at ff
    rw [decide_eq_false (show ¬ z0 = [99, 114, 97, 115, 104] by rw [hc]; decide)] at fr
    by_cases h1 : r.length = 2
    · obtain ⟨x1, x2, rfl⟩ : ∃ x1 x2, r = [x1, x2] := by rcases r with _ | ⟨x1, _ | ⟨x2, _ | ⟨x3, t⟩⟩⟩; (cases h1); (cases h1); exact ⟨x1, x2, rfl⟩; (simp at h1)
      obtain rfl : m = 3 := HMR.out.symm
      have c1 := HW.out 1 x1 rfl
      have c2 := HW.out 2 x2 rfl
      have hx1 := HSM.out x1 (by simp)
      have hx2 := HSM.out x2 (by simp)
      have HN1 := hid (fun W => HNUM.out x1 (by omega) W)
      have HN2 := hid (fun W => HNUM.out x2 (by omega) W)
      have hp := parse_change2 (x := l) (a := x1.data.toList) (b := x2.data.toList) (by rw [HS0.out, hc]; rfl)
      cases hq1 : numM x1.data.toList with
      | none =>
        cases hq2 : numM x2.data.toList with
        | none =>
          rw [hq1, hq2] at hp
          rw [hq1] at HN1
          rw [hq2] at HN2
          simp only [rnumV] at HN1 HN2
          have HP := hid hp
          clear hq1 hq2 hp hc h1 hx1 hx2
          go_wp2_with (first
            | (go_at_call 97; (with_reducible refine (HN1.out _).mono ?_); rintro e w4 ⟨rfl, rfl⟩)
            | (go_at_call 97; (with_reducible refine (HN2.out _).mono ?_); rintro e w4 ⟨rfl, rfl⟩)
            | (go_at_call 82; (with_reducible refine (HASK.out _ HG1.out).mono ?_); rintro e w9 ⟨rfl, hg⟩; have HG9 := hid (grew_trans HG1.out hg); clear hg))
          go_ret2
          rw [script_bad HSPL.out (by simp) HP.out]
          exact rline_grew HD.out HG9.out
        | some n2 =>
          rw [hq1, hq2] at hp
          rw [hq1] at HN1
          rw [hq2] at HN2
          simp only [rnumV] at HN1 HN2
          have HP := hid hp
          clear hq1 hq2 hp hc h1 hx1 hx2
          go_wp2_with (first
            | (go_at_call 97; (with_reducible refine (HN1.out _).mono ?_); rintro e w4 ⟨rfl, rfl⟩)
            | (go_at_call 97; (with_reducible refine (HN2.out _).mono ?_); rintro e w4 ⟨rfl, rfl⟩)
            | (go_at_call 82; (with_reducible refine (HASK.out _ HG1.out).mono ?_); rintro e w9 ⟨rfl, hg⟩; have HG9 := hid (grew_trans HG1.out hg); clear hg))
          go_ret2
          rw [script_bad HSPL.out (by simp) HP.out]
          exact rline_grew HD.out HG9.out
      | some n1 =>
        cases hq2 : numM x2.data.toList with
        | none =>
          rw [hq1, hq2] at hp
          rw [hq1] at HN1
          rw [hq2] at HN2
          simp only [rnumV] at HN1 HN2
          have HP := hid hp
          clear hq1 hq2 hp hc h1 hx1 hx2
          go_wp2_with (first
            | (go_at_call 97; (with_reducible refine (HN1.out _).mono ?_); rintro e w4 ⟨rfl, rfl⟩)
            | (go_at_call 97; (with_reducible refine (HN2.out _).mono ?_); rintro e w4 ⟨rfl, rfl⟩)
            | (go_at_call 82; (with_reducible refine (HASK.out _ HG1.out).mono ?_); rintro e w9 ⟨rfl, hg⟩; have HG9 := hid (grew_trans HG1.out hg); clear hg))
          go_ret2
          rw [script_bad HSPL.out (by simp) HP.out]
          exact rline_grew HD.out HG9.out
        | some n2 =>
          rw [hq1, hq2] at hp
          rw [hq1] at HN1
          rw [hq2] at HN2
          simp only [rnumV] at HN1 HN2
          have HP := hid hp
          clear hq1 hq2 hp hc h1 hx1 hx2
          go_wp2_with (first
            | (go_at_call 97; (with_reducible refine (HN1.out _).mono ?_); rintro e w4 ⟨rfl, rfl⟩)
            | (go_at_call 97; (with_reducible refine (HN2.out _).mono ?_); rintro e w4 ⟨rfl, rfl⟩)
            | (go_at_call 81; (with_reducible refine (HCHG.out _ HG1.out n1 n2).mono ?_); rintro e w6 ⟨rfl, hm, hb, hk⟩; have HM := hid hm; have HB := hid hb; have HK := hid hk; clear hm hb hk)
            | (go_at_call 95; (with_reducible refine (HTOLD.out _ _).mono ?_); rintro e w5 ⟨rfl, rfl⟩))
          go_ret2
          rw [script_some HP.out]
          exact rline_deed HD.out HG1.out HM.out HB.out HK.out
    · have HP := hid (parse_other HSPL.out (fun e => absurd ((HZ0.out.symm.trans e.1).symm.trans hc) (by decide)) (fun e => h1 (by have := e.2; rw [List.length_map] at this; exact this)) (fun e => absurd ((HZ0.out.symm.trans e.1).symm.trans hc) (by decide)) (fun e => absurd ((HZ0.out.symm.trans e.1).symm.trans hc) (by decide)) HNO.out.1 HNO.out.2)
      have e2 : ((m : Int) == 3) = false := by rw [beq_eq_false_iff_ne]; have := HMR.out; omega
      clear hc h1 ha
      go_wp2_with (go_at_call 82; (with_reducible refine (HASK.out _ HG1.out).mono ?_); rintro e w9 ⟨rfl, hg⟩; have HG9 := hid (grew_trans HG1.out hg); clear hg)
      go_ret2
      rw [script_ask HP.out]
      exact rline_grew HD.out HG9.out
  by_cases hf : z0 = wFail
  · rw [decide_eq_false (show ¬ z0 = [97, 100, 100] by rw [hf]; decide)] at fa
    rw [decide_eq_false (show ¬ z0 = [99, 104, 97, 110, 103, 101] by rw [hf]; decide)] at fc
    rw [decide_eq_true (show z0 = [102, 97, 105, 108] from hf)] at ff
    rw [decide_eq_false (show ¬ z0 = [99, 114, 97, 115, 104] by rw [hf]; decide)] at fr
    by_cases h1 : r.length = 2
    · obtain ⟨x1, x2, rfl⟩ : ∃ x1 x2, r = [x1, x2] := by rcases r with _ | ⟨x1, _ | ⟨x2, _ | ⟨x3, t⟩⟩⟩; (cases h1); (cases h1); exact ⟨x1, x2, rfl⟩; (simp at h1)
      obtain rfl : m = 3 := HMR.out.symm
      have c1 := HW.out 1 x1 rfl
      have c2 := HW.out 2 x2 rfl
      have hx1 := HSM.out x1 (by simp)
      have hx2 := HSM.out x2 (by simp)
      have HN1 := hid (fun W => HNUM.out x1 (by omega) W)
      have HN2 := hid (fun W => HCEL.out x2 (by omega) W)
      have hp := parse_fail2 (x := l) (a := x1.data.toList) (b := x2.data.toList) (by rw [HS0.out, hf]; rfl)
      cases hq1 : numM x1.data.toList with
      | none =>
        cases hq2 : placesM x2.data.toList with
        | none =>
          rw [hq1, hq2] at hp
          rw [hq1] at HN1
          rw [hq2] at HN2
          simp only [rnumV] at HN1
          have HP := hid hp
          clear hq1 hq2 hp hf h1 hx1 hx2
          go_wp2_with (first
            | (go_at_call 97; (with_reducible refine (HN1.out _).mono ?_); rintro e w4 ⟨rfl, rfl⟩)
            | (go_at_call 98; (with_reducible refine (HN2.out _).mono ?_); rintro e w4 ⟨hg, rfl⟩; have HG2 := hid (grew_trans HG1.out hg); obtain ⟨p0, p1⟩ := HC.out _ (grew_trans HG1.out hg); clear hg)
            | (go_at_call 82; (with_reducible refine (HASK.out _ HG2.out).mono ?_); rintro e w9 ⟨rfl, hg⟩; have HG9 := hid (grew_trans HG2.out hg); clear hg))
          go_ret2
          rw [script_bad HSPL.out (by simp) HP.out]
          exact rline_grew HD.out HG9.out
        | some n2 =>
          rw [hq1, hq2] at hp
          rw [hq1] at HN1
          rw [hq2] at HN2
          simp only [rnumV] at HN1
          have HP := hid hp
          clear hq1 hq2 hp hf h1 hx1 hx2
          go_wp2_with (first
            | (go_at_call 97; (with_reducible refine (HN1.out _).mono ?_); rintro e w4 ⟨rfl, rfl⟩)
            | (go_at_call 98; (with_reducible refine (HN2.out _).mono ?_); rintro e w4 ⟨hg, v, base, rfl, hsv, hbase⟩; have HG2 := hid (grew_trans HG1.out hg); obtain ⟨p0, p1⟩ := HC.out _ (grew_trans HG1.out hg); obtain ⟨va, vc, rfl, _⟩ := hsv.shape; have HSV := hid hsv; have HBA := hid hbase; clear hg hsv hbase)
            | (go_at_call 82; (with_reducible refine (HASK.out _ HG2.out).mono ?_); rintro e w9 ⟨rfl, hg⟩; have HG9 := hid (grew_trans HG2.out hg); clear hg))
          go_ret2
          rw [script_bad HSPL.out (by simp) HP.out]
          exact rline_grew HD.out HG9.out
      | some n1 =>
        cases hq2 : placesM x2.data.toList with
        | none =>
          rw [hq1, hq2] at hp
          rw [hq1] at HN1
          rw [hq2] at HN2
          simp only [rnumV] at HN1
          have HP := hid hp
          clear hq1 hq2 hp hf h1 hx1 hx2
          go_wp2_with (first
            | (go_at_call 97; (with_reducible refine (HN1.out _).mono ?_); rintro e w4 ⟨rfl, rfl⟩)
            | (go_at_call 98; (with_reducible refine (HN2.out _).mono ?_); rintro e w4 ⟨hg, rfl⟩; have HG2 := hid (grew_trans HG1.out hg); obtain ⟨p0, p1⟩ := HC.out _ (grew_trans HG1.out hg); clear hg)
            | (go_at_call 82; (with_reducible refine (HASK.out _ HG2.out).mono ?_); rintro e w9 ⟨rfl, hg⟩; have HG9 := hid (grew_trans HG2.out hg); clear hg))
          go_ret2
          rw [script_bad HSPL.out (by simp) HP.out]
          exact rline_grew HD.out HG9.out
        | some n2 =>
          rw [hq1, hq2] at hp
          rw [hq1] at HN1
          rw [hq2] at HN2
          simp only [rnumV] at HN1
          have HP := hid hp
          clear hq1 hq2 hp hf h1 hx1 hx2
          go_wp2_with (first
            | (go_at_call 97; (with_reducible refine (HN1.out _).mono ?_); rintro e w4 ⟨rfl, rfl⟩)
            | (go_at_call 98; (with_reducible refine (HN2.out _).mono ?_); rintro e w4 ⟨hg, v, base, rfl, hsv, hbase⟩; have HG2 := hid (grew_trans HG1.out hg); obtain ⟨p0, p1⟩ := HC.out _ (grew_trans HG1.out hg); obtain ⟨va, vc, rfl, _⟩ := hsv.shape; have HSV := hid hsv; have HBA := hid hbase; clear hg hsv hbase)
            | (go_at_call 77; (with_reducible refine (HFAIL.out _ HG2.out n1 _ n2 HSV.out.isInts.any).mono ?_); rintro e w6 ⟨rfl, hk, F2, hm, hF⟩; have HM := hid hm; have HK := hid hk; have HF := hid hF; clear hm hk hF)
            | (go_at_call 95; (with_reducible refine (HTOLD.out _ _).mono ?_); rintro e w5 ⟨rfl, rfl⟩))
          go_ret2
          rw [script_some HP.out]
          exact rline_mem HD.out HG2.out HM.out HF.out HK.out
    · have HP := hid (parse_other HSPL.out (fun e => absurd ((HZ0.out.symm.trans e.1).symm.trans hf) (by decide)) (fun e => absurd ((HZ0.out.symm.trans e.1).symm.trans hf) (by decide)) (fun e => h1 (by have := e.2; rw [List.length_map] at this; exact this)) (fun e => absurd ((HZ0.out.symm.trans e.1).symm.trans hf) (by decide)) HNO.out.1 HNO.out.2)
      have e2 : ((m : Int) == 3) = false := by rw [beq_eq_false_iff_ne]; have := HMR.out; omega
      clear hf h1 ha hc
      go_wp2_with (go_at_call 82; (with_reducible refine (HASK.out _ HG1.out).mono ?_); rintro e w9 ⟨rfl, hg⟩; have HG9 := hid (grew_trans HG1.out hg); clear hg)
      go_ret2
      rw [script_ask HP.out]
      exact rline_grew HD.out HG9.out
  by_cases hr : z0 = wCrash
  · rw [decide_eq_false (show ¬ z0 = [97, 100, 100] by rw [hr]; decide)] at fa
    rw [decide_eq_false (show ¬ z0 = [99, 104, 97, 110, 103, 101] by rw [hr]; decide)] at fc
    rw [decide_eq_false (show ¬ z0 = [102, 97, 105, 108] by rw [hr]; decide)] at ff
    rw [decide_eq_true (show z0 = [99, 114, 97, 115, 104] from hr)] at fr
    by_cases h1 : r.length = 1
    · obtain ⟨x1, rfl⟩ : ∃ x1, r = [x1] := by rcases r with _ | ⟨x1, _ | ⟨x2, t⟩⟩; (cases h1); exact ⟨x1, rfl⟩; (simp at h1)
      obtain rfl : m = 2 := HMR.out.symm
      have c1 := HW.out 1 x1 rfl
      have hx1 := HSM.out x1 (by simp)
      have HN2 := hid (fun W => HCEL.out x1 (by omega) W)
      have hp := parse_crash1 (x := l) (a := x1.data.toList) (by rw [HS0.out, hr]; rfl)
      cases hq2 : placesM x1.data.toList with
      | none =>
        rw [hq2] at hp HN2
        have HP := hid hp
        clear hq2 hp hr h1 hx1
        go_wp2_with (first
          | (go_at_call 98; (with_reducible refine (HN2.out _).mono ?_); rintro e w4 ⟨hg, rfl⟩; have HG2 := hid (grew_trans HG1.out hg); obtain ⟨p0, p1⟩ := HC.out _ (grew_trans HG1.out hg); clear hg)
          | (go_at_call 82; (with_reducible refine (HASK.out _ HG2.out).mono ?_); rintro e w9 ⟨rfl, hg⟩; have HG9 := hid (grew_trans HG2.out hg); clear hg))
        go_ret2
        rw [script_bad HSPL.out (by simp) HP.out]
        exact rline_grew HD.out HG9.out
      | some n2 =>
        rw [hq2] at hp HN2
        have HP := hid hp
        clear hq2 hp hr h1 hx1
        go_wp2_with (first
          | (go_at_call 98; (with_reducible refine (HN2.out _).mono ?_); rintro e w4 ⟨hg, v, base, rfl, hsv, hbase⟩; have HG2 := hid (grew_trans HG1.out hg); obtain ⟨p0, p1⟩ := HC.out _ (grew_trans HG1.out hg); obtain ⟨va, vc, rfl, _⟩ := hsv.shape; have HSV := hid hsv; have HBA := hid hbase; clear hg hsv hbase)
          | (go_at_call 78; (with_reducible refine (HCR.out _ HG2.out _ n2 (HSV.out.isInts.mono fun k _ hh => by have := HBM.out; have := HG1.out.size; have := HBA.out; have := hh.1; omega)).mono ?_); rintro e w6 ⟨rfl, hm, hk⟩; have HM := hid hm; have HK := hid hk; clear hm hk)
          | (go_at_call 95; (with_reducible refine (HTOLD.out _ _).mono ?_); rintro e w5 ⟨rfl, rfl⟩))
        go_ret2
        rw [script_some HP.out]
        exact rline_mem HD.out HG2.out HM.out (fun _ e => .inl e) HK.out
    · have HP := hid (parse_other HSPL.out (fun e => absurd ((HZ0.out.symm.trans e.1).symm.trans hr) (by decide)) (fun e => absurd ((HZ0.out.symm.trans e.1).symm.trans hr) (by decide)) (fun e => absurd ((HZ0.out.symm.trans e.1).symm.trans hr) (by decide)) (fun e => h1 (by have := e.2; rw [List.length_map] at this; exact this)) HNO.out.1 HNO.out.2)
      have e2 : ((m : Int) == 2) = false := by rw [beq_eq_false_iff_ne]; have := HMR.out; omega
      clear hr h1 ha hc hf
      go_wp2_with (go_at_call 82; (with_reducible refine (HASK.out _ HG1.out).mono ?_); rintro e w9 ⟨rfl, hg⟩; have HG9 := hid (grew_trans HG1.out hg); clear hg)
      go_ret2
      rw [script_ask HP.out]
      exact rline_grew HD.out HG9.out
  have h_fa := ha; have h_fc := hc; have h_ff := hf; have h_fr := hr
  rw [decide_eq_false (show ¬ z0 = [97, 100, 100] from h_fa)] at fa
  rw [decide_eq_false (show ¬ z0 = [99, 104, 97, 110, 103, 101] from h_fc)] at fc
  rw [decide_eq_false (show ¬ z0 = [102, 97, 105, 108] from h_ff)] at ff
  rw [decide_eq_false (show ¬ z0 = [99, 114, 97, 115, 104] from h_fr)] at fr
  have HP := hid (parse_other HSPL.out (fun e => h_fa (HZ0.out ▸ e.1)) (fun e => h_fc (HZ0.out ▸ e.1)) (fun e => h_ff (HZ0.out ▸ e.1)) (fun e => h_fr (HZ0.out ▸ e.1)) HNO.out.1 HNO.out.2)
  clear ha hc hf hr h_fa h_fc h_ff h_fr
  go_wp2_with (go_at_call 82; (with_reducible refine (HASK.out _ HG1.out).mono ?_); rintro e w9 ⟨rfl, hg⟩; have HG9 := hid (grew_trans HG1.out hg); clear hg)
  go_ret2
  rw [script_ask HP.out]
  exact rline_grew HD.out HG9.out

end Go.Proofs.YtmohnddglmolgaaGreatDoor
