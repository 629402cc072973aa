/- Walk: PutBy. -/
import Derived.Test.YtcifpigjcfkhmaaHPut
namespace Go.Proofs.Ytcifpigjcfkhmaa
open Go.RowKit Go.Lin Go.Lin.Hz

theorem YAll.frozen {w : World} {b : Nat} {Y : Yd} {tb cap : Nat} {lv : List Value} {Fp : List Nat} (h : YAll w b Y tb cap lv Fp) : (∀ j, w.frozen? ⟨b, j, none⟩ = false) ∧ (∀ j, w.frozen? ⟨tb, j, none⟩ = false) :=
  ⟨fun _ => frozen_of_row _ _ _ _ _ h.run.obj, fun _ => let ⟨_, hc⟩ := h.run.tobj; frozen_of_row _ _ _ _ _ hc⟩

theorem keeps_then {Fp Fp' : List Nat} {a b c : World} (h : Keeps (fun k _ => k ∈ Fp) a b) (h2 : Keeps (fun k _ => k ∈ Fp') b c) (hf : ∀ k ∈ Fp', k ∈ Fp ∨ a.heap.size ≤ k) : Keeps (fun k _ => k ∈ Fp) a c :=
  ⟨h2.os.trans h.os, h2.tape.trans h.tape, h2.output.trans h.output, Nat.le_trans h.size h2.size, fun k o hk hn => h2.obj k o (h.obj k o hk hn) (fun hm => by
    rcases hf k hm with h3 | h3
    · exact hn h3
    · have := lt_of_obj hk; omega)⟩

theorem Does.trans {w w1 w2 : World} {b : Nat} {Y1 Y2 : Yd} {Fp : List Nat} (h : Does w w1 b Fp Y1) (h2 : ∀ Fp1, IsYard w1 b Y1 Fp1 → Does w1 w2 b Fp1 Y2) : Does w w2 b Fp Y2 := by
  obtain ⟨F1, a1, a2, a3⟩ := h
  obtain ⟨F2, b1, b2, b3⟩ := h2 F1 a1
  refine ⟨F2, b1, keeps_then a2 b2 a3, fun k hk => ?_⟩
  rcases b3 k hk with h | h
  · exact a3 k h
  · exact .inr (Nat.le_trans a2.size h)

/-- What a node that is put by is in memory, ahead of the sweep. -/
theorem YAll.put {w w3 w' : World} {b : Nat} {Y : Yd} {tb cap : Nat} {lv : List Value} {Fp : List Nat} (h : YAll w b Y tb cap lv Fp) (hg : Grew w w3) {i k : Nat} (hi : i < Y.th.length) (hk : k < 8) {v v' : Value} (hv : lv[i]? = some v) {W5 : World} (h5 : w3.setCell ⟨b, 1 + k, none⟩ (.int .i64 2) = W5) {o : Obj}
    (hkp : Keeps (fun k _ => foot v = some k) (W5.alloc o) w') (hs : Lst 3 w' v' ((thAt Y i).l ++ [(k : Int)])) (hf : ∀ k, foot v' = some k → foot v = some k ∨ (W5.alloc o).heap.size ≤ k) :
    ∃ Fp', YAll (w'.setCell ⟨tb, i * 3 + 2, none⟩ v') b (putY Y i k) tb cap (lv.set i v') Fp' ∧ Keeps (fun k _ => k ∈ Fp) w (w'.setCell ⟨tb, i * 3 + 2, none⟩ v') ∧ (∀ k ∈ Fp', k ∈ Fp ∨ w.heap.size ≤ k) ∧ w'.frozen? ⟨tb, i * 3 + 2, none⟩ = false ∧ w'.cell? ⟨tb, i * 3 + 2, none⟩ = some v := by
  subst h5
  have h1 : YAll ((w3.setCell ⟨b, 1 + k, none⟩ (.int .i64 2)).alloc o) b (Hz.setN Y k 2) tb cap lv Fp := ((h.grew hg).setN hk 2).grew (grew_alloc (grew_refl _) _)
  have hb : b ∈ Fp := by rw [h.fp]; simp
  have ht : tb ∈ Fp := by rw [h.fp]; simp
  have hvF : ∀ k, foot v = some k → k ∈ Fp := by
    intro k hk; rw [h.fp]
    exact List.mem_cons_of_mem _ (List.mem_cons_of_mem _ (List.mem_filterMap.2 ⟨v, List.mem_of_getElem? hv, hk⟩))
  have h2 := YAll.setList h1 (i := i) hi hv hkp hs hf
  have hnd := h.nd
  rw [h.fp] at hnd
  simp only [List.nodup_cons, List.mem_cons, not_or] at hnd
  have hvt : ∀ o : Obj, ¬ foot v = some tb := fun _ e => hnd.2.1 (List.mem_filterMap.2 ⟨v, List.mem_of_getElem? hv, e⟩)
  have htl := h1.run.th.lt
  refine ⟨_, h2, ?_, fun k hk => (YAll.setList_fp h1 hv hf k hk).imp id (fun h => ?_), ?_, ?_⟩
  rotate_left 2
  · obtain ⟨cur, hc⟩ := h1.run.tobj
    exact frozen_of_row _ _ _ _ _ (hkp.obj _ _ hc (hvt (.cells cur 81)))
  · have := h1.run.th.l i hi
    rw [hv] at this
    rw [← this]
    exact keeps_cell hkp _ htl hvt
  · exact (((Grew.keeps hg).trans (keeps_store_in _ _ _ _ hb)).alloc _).trans ((hkp.mono (fun k _ e => hvF k e)).trans (keeps_store_in _ _ _ _ ht))
  · have := hg.size; simp at h; omega

set_option maxHeartbeats 4000000 in
theorem putBy_any (Y : Yd) (hI : Inv Y) (b : Nat) (Fp : List Nat) (t n : Int) (w : World) (hy : IsYard w b Y Fp) :
    Calls Try.prog 28 #[.pointer (some ⟨b, 0, none⟩), .int .i64 t, .int .i64 n] w fun e w' => e = .returned (.tuple #[.int .i64 (putBy Y t n).2.1, .int .i64 (putBy Y t n).2.2]) ∧ Does w w' b Fp (putBy Y t n).1 := by
  obtain ⟨tb, cap, lv, hA⟩ := YAll.of hy hI.st hI.th.2
  have HY := hid hy
  have HA := hid hA
  have hv := hA.run.view
  have hh := hv.head
  have HH := hid hh
  have hlt := hh.lt
  have hlt2 := hv.th.lt
  have hg := grew_refl w
  have HT := hid (fun (y : World) (hy : Grew w y) => isThreadY hI b t y (hh.grew hy))
  by_cases hb : (isT Y t && isN n) = true
  · have HB := hid hb
    have hb' := hb
    simp only [Bool.and_eq_true] at hb'
    obtain ⟨ht, hn⟩ := hb'
    by_cases hst : stAt Y n = 1
    · have hIp := hI.putY ht hn hst
      rw [isT_iff] at ht
      rw [isN_iff] at hn
      obtain ⟨i, rfl⟩ : ∃ i : Nat, t = i := ⟨t.toNat, by omega⟩
      obtain ⟨k, rfl⟩ : ∃ k : Nat, n = k := ⟨n.toNat, by omega⟩
      have hk8 : k < 8 := by omega
      have hi : i < Y.th.length := by omega
      obtain ⟨v, hvv, hvs⟩ := hA.list i hi
      obtain ⟨va, vc, hve, hvm⟩ := hvs.shape
      have hth : thAt Y (i : Int) = Y.th.getD i noTh := rfl
      obtain ⟨l, hl⟩ : ∃ l, (Y.th.getD i noTh).l = l := ⟨_, rfl⟩
      rw [hl] at hvs hve hvm
      have hl4 : l.length ≤ 8 := by
        have := list_le hI (t := (i : Int)) (isT_iff.2 (by omega))
        rw [hth, hl] at this; exact this
      obtain ⟨sz, hsz⟩ : ∃ sz, Y.size = sz := ⟨_, rfl⟩
      have cst := hh.cs k hk8
      rw [show nth Y.st k = 1 from hst] at cst
      have c0 := hh.c0
      rw [hsz] at c0
      have c9 := hv.c9
      obtain ⟨m, hm⟩ : ∃ m, Y.th.length = m := ⟨_, rfl⟩
      have him : i < m := by omega
      have hm4 : m ≤ 4 := by have := hI.th.2; omega
      obtain ⟨m', hm'⟩ : ∃ m', (l ++ [(k : Int)]).length = m' := ⟨_, rfl⟩
      have hm8 : m' ≤ 9 := by rw [← hm']; simp; omega
      have hml : m' = l.length + 1 := by rw [← hm']; simp
      have hpl : ∀ y : World, YAll y b (Hz.setN Y k 2) tb cap lv Fp → y.cell? ⟨b, 9, none⟩ = some (.slice (some ⟨tb, 0, none⟩) m cap) ∧ y.cell? ⟨tb, i * 3 + 2, none⟩ = some v ∧ (∀ j, y.frozen? ⟨b, j, none⟩ = false) ∧ (∀ j, y.frozen? ⟨tb, j, none⟩ = false) ∧ Lst 3 y v l := by
        intro y h
        refine ⟨by rw [← hm]; exact h.run.view.c9, by rw [h.run.th.l i hi, hvv], h.frozen.1, h.frozen.2, ?_⟩
        obtain ⟨x, hx, hs⟩ := h.list i hi
        rw [hvv] at hx
        cases hx
        rw [← hl]; exact hs
      have HPL := hid hpl
      have HV := hid hvv
      have HVS := hid hvs
      have HE := hid hve
      have HTHL := hid (show (thAt Y (i : Int)).l = l by rw [hth, hl])
      have HM' := hid hm'
      have HML := hid hml
      have HSZ := hid hsz
      have HCL := hid (fun (v' : Value) (w' : World) (h : Lst 3 w' v' (l ++ [(k : Int)])) => show ∃ a c, v' = .slice a m' c by
        obtain ⟨a, c, h1, _⟩ := h.shape
        rw [hm'] at h1
        exact ⟨a, c, h1⟩)
      have hl9 : l.length < 1000000000 := by omega
      have HL9 := hid hl9
      have HK := hid hk8
      have HI := hid hi
      have hfz0 := hA.frozen.1 (1 + k)
      by_cases hlss : (m' : Int) < sz
      · have hres : putBy Y (i : Int) (k : Int) = (putY Y i k, 0, 0) := by
          have h2 : ((thAt Y (i : Int)).l.length : Int) + 1 < Y.size := by rw [HTHL.out, hsz]; omega
          simp only [putBy, hb, hst, h2, if_true]
        rw [hres]
        have hdec : decide ((m' : Int) < sz) = true := by simpa using hlss
        clear hres hlss hpl hvv hvs hve hvm hth hl hl4 hsz hm hm' hml hl9 hst hb ht hn hv hh hA hy hIp hm8
        go_enter Try.func28, Try.ntmps28
        go_wp2_with (first
          | (go_at_call 59; with_reducible refine (HT.out _ hg).mono ?_; rintro e w1 ⟨q1, rfl, hs1, hx⟩; have S1 := hid hs1; clear hs1; replace hg := grew_trans hg hx; have hc := (bcell hg).1)
          | (go_at_call 58; with_reducible refine (isNodeY _ _ _).mono ?_; rintro e w2 ⟨q2, rfl, hs2, hx⟩; have S2 := hid hs2; have S1' := hid (S1.out.grew hx); clear hs2; replace hg := grew_trans hg hx; have hc := (bcell hg).1)
          | (go_at_call 49; with_reducible refine (ask2 hI HH.out asks80 asks79 hg S1'.out (fun _ => S2.out)).mono ?_; go_loud (rintro e w3 ⟨rfl, hx⟩; replace hg := grew_trans hg hx; have hc := (bcell hg).1; rw [HB.out]; have hfz := (hg.frozen (p := ⟨b, 1 + k, none⟩) hlt).trans hfz0; have hcl := (hg.cell (p := ⟨b, 1 + k, none⟩) hlt).trans cst; obtain ⟨W5, hW5⟩ : ∃ W5, w3.setCell ⟨b, 1 + k, none⟩ (.int .i64 2) = W5 := ⟨_, rfl⟩; have hA5 := hid ((HA.out.grew hg).setN HK.out 2); rw [hW5] at hA5; obtain ⟨d9, dl, fb, ft, hls⟩ := HPL.out _ hA5.out; have HLS := hid hls; clear hls fb ft))
          | (at_builtin; refine wpList_append_lst rfl _ _ 24 rfl 3 Try.underlying24 Try.info3 rfl (by decide) v l rfl (HLS.out.grew (grew_alloc (grew_refl _) _)) _ _ (k : Int) rfl (one_new _ _ _) HL9.out ?_
             go_loud (intro v7 w7 hl7 hk7 hf7
                      obtain ⟨a7, c7, rfl⟩ := HCL.out _ _ hl7
                      obtain ⟨Fp', hA7, hk8, hf8, fr7, ce7⟩ := YAll.put HA.out hg HI.out HK.out HV.out hW5 hk7 (by rw [HTHL.out]; exact hl7) hf7
                      obtain ⟨W7, hW7⟩ : ∃ W7, w7.setCell ⟨tb, i * 3 + 2, none⟩ (.slice a7 m' c7) = W7 := ⟨_, rfl⟩
                      rw [hW7] at hA7 hk8
                      have HA7 := hid hA7
                      have HK8 := hid hk8
                      have HF8 := hid hf8
                      have e0 : W7.cell? ⟨b, 0, none⟩ = some (.int .i64 sz) := by rw [← HSZ.out]; exact hA7.run.view.head.c0
                      have el : W7.cell? ⟨tb, i * 3 + 2, none⟩ = some (.slice a7 m' c7) := by
                        rw [hA7.run.th.l i (by simpa [putY, setT, setN] using HI.out)]
                        have : i < lv.length := by rw [HA.out.run.th.len]; exact HI.out
                        simp [this]
                      clear hl7 hk7 hf7 hA7 hk8 hf8)))
        go_quiet (fail)
        have gq : Grew W7 (W7.drewN nq) := grew_drewN (grew_refl _) _
        have HGQ := hid gq
        go_wp2
        go_ret2
        exact ⟨rfl, _, (HA7.out.grew HGQ.out).yard, HK8.out.trans (Grew.keeps HGQ.out), HF8.out⟩
      · have hres : putBy Y (i : Int) (k : Int) = (sweepY (putY Y i k) i, sweepN (putY Y i k) i, 0) := by
          have h2 : ¬ ((thAt Y (i : Int)).l.length : Int) + 1 < Y.size := by rw [HTHL.out, hsz]; omega
          simp only [putBy, hb, hst, h2, if_true, if_false]
        rw [hres]
        have hdec : decide ((m' : Int) < sz) = false := by simpa using hlss
        have HIP := hid hIp; clear hIp
        clear hres hlss hpl hvv hvs hve hvm hth hl hl4 hsz hm hm' hml hl9 hst hb ht hn hv hh hA hy hm8
        go_enter Try.func28, Try.ntmps28
        go_wp2_with (first
          | (go_at_call 59; with_reducible refine (HT.out _ hg).mono ?_; rintro e w1 ⟨q1, rfl, hs1, hx⟩; have S1 := hid hs1; clear hs1; replace hg := grew_trans hg hx; have hc := (bcell hg).1)
          | (go_at_call 58; with_reducible refine (isNodeY _ _ _).mono ?_; rintro e w2 ⟨q2, rfl, hs2, hx⟩; have S2 := hid hs2; have S1' := hid (S1.out.grew hx); clear hs2; replace hg := grew_trans hg hx; have hc := (bcell hg).1)
          | (go_at_call 49; with_reducible refine (ask2 hI HH.out asks80 asks79 hg S1'.out (fun _ => S2.out)).mono ?_; go_loud (rintro e w3 ⟨rfl, hx⟩; replace hg := grew_trans hg hx; have hc := (bcell hg).1; rw [HB.out]; have hfz := (hg.frozen (p := ⟨b, 1 + k, none⟩) hlt).trans hfz0; have hcl := (hg.cell (p := ⟨b, 1 + k, none⟩) hlt).trans cst; obtain ⟨W5, hW5⟩ : ∃ W5, w3.setCell ⟨b, 1 + k, none⟩ (.int .i64 2) = W5 := ⟨_, rfl⟩; have hA5 := hid ((HA.out.grew hg).setN HK.out 2); rw [hW5] at hA5; obtain ⟨d9, dl, fb, ft, hls⟩ := HPL.out _ hA5.out; have HLS := hid hls; clear hls fb ft))
          | (at_builtin; refine wpList_append_lst rfl _ _ 24 rfl 3 Try.underlying24 Try.info3 rfl (by decide) v l rfl (HLS.out.grew (grew_alloc (grew_refl _) _)) _ _ (k : Int) rfl (one_new _ _ _) HL9.out ?_
             go_loud (intro v7 w7 hl7 hk7 hf7
                      obtain ⟨a7, c7, rfl⟩ := HCL.out _ _ hl7
                      obtain ⟨Fp', hA7, hk8, hf8, fr7, ce7⟩ := YAll.put HA.out hg HI.out HK.out HV.out hW5 hk7 (by rw [HTHL.out]; exact hl7) hf7
                      obtain ⟨W7, hW7⟩ : ∃ W7, w7.setCell ⟨tb, i * 3 + 2, none⟩ (.slice a7 m' c7) = W7 := ⟨_, rfl⟩
                      rw [hW7] at hA7 hk8
                      have HA7 := hid hA7
                      have HK8 := hid hk8
                      have HF8 := hid hf8
                      have e0 : W7.cell? ⟨b, 0, none⟩ = some (.int .i64 sz) := by rw [← HSZ.out]; exact hA7.run.view.head.c0
                      have el : W7.cell? ⟨tb, i * 3 + 2, none⟩ = some (.slice a7 m' c7) := by
                        rw [hA7.run.th.l i (by simpa [putY, setT, setN] using HI.out)]
                        have : i < lv.length := by rw [HA.out.run.th.len]; exact HI.out
                        simp [this]
                      clear hl7 hk7 hf7 hA7 hk8 hf8)))
        go_quiet (fail)
        have HGQ := hid (show Grew W7 (W7.drewN nq) from grew_drewN (grew_refl _) _)
        have HS := hid (sweep61_any _ HIP.out b tb cap _ Fp' i (by simpa [putY, setT, Hz.setN] using HI.out) _ (HA7.out.grew HGQ.out))
        go_wp2_with (go_at_call 61; (with_reducible refine HS.out.mono ?_); rintro e w9 ⟨rfl, hy9, hk9⟩; have HY9 := hid hy9; have HK9 := hid hk9; clear hy9 hk9)
        go_ret2
        exact ⟨rfl, _, HY9.out, keeps_then (HK8.out.trans (Grew.keeps HGQ.out)) HK9.out HF8.out, HF8.out⟩
    · have hres : putBy Y t n = (Y, 0, 5) := by simp [putBy, hb, hst]
      rw [hres]
      rw [isN_iff] at hn
      obtain ⟨k, rfl⟩ : ∃ k : Nat, n = k := ⟨n.toNat, by omega⟩
      have hk8 : k < 8 := by omega
      have cst := hh.cs k hk8
      obtain ⟨x, hx⟩ : ∃ x, nth Y.st k = x := ⟨_, rfl⟩
      have hne : (x != 1) = true := by rw [← hx]; simpa [stAt] using hst
      rw [hx] at cst
      clear hb ht hn hst hres hx hv hh hA hy
      go_enter Try.func28, Try.ntmps28
      go_wp2_with (first
        | (go_at_call 59; with_reducible refine (HT.out _ hg).mono ?_; rintro e w1 ⟨q1, rfl, hs1, hx⟩; have S1 := hid hs1; clear hs1; replace hg := grew_trans hg hx; have hc := (bcell hg).1)
        | (go_at_call 58; with_reducible refine (isNodeY _ _ _).mono ?_; rintro e w2 ⟨q2, rfl, hs2, hx⟩; have S2 := hid hs2; have S1' := hid (S1.out.grew hx); clear hs2; replace hg := grew_trans hg hx; have hc := (bcell hg).1)
        | (go_at_call 49; with_reducible refine (ask2 hI HH.out asks80 asks79 hg S1'.out (fun _ => S2.out)).mono ?_; rintro e w3 ⟨rfl, hx⟩; replace hg := grew_trans hg hx; have hc := (bcell hg).1; rw [HB.out]))
      go_ret2
      exact ⟨rfl, Does.same HY.out hg⟩
  · have hb' : (isT Y t && isN n) = false := by simpa using hb
    have hres : putBy Y t n = (Y, 0, 2) := by simp [putBy, hb']
    rw [hres]
    have HB := hid hb'
    clear hb hb' hres hv hh hA hy
    go_enter Try.func28, Try.ntmps28
    go_wp2_with (first
      | (go_at_call 59; with_reducible refine (HT.out _ hg).mono ?_; rintro e w1 ⟨q1, rfl, hs1, hx⟩; have S1 := hid hs1; clear hs1; replace hg := grew_trans hg hx; have hc := (bcell hg).1)
      | (go_at_call 58; with_reducible refine (isNodeY _ _ _).mono ?_; rintro e w2 ⟨q2, rfl, hs2, hx⟩; have S2 := hid hs2; have S1' := hid (S1.out.grew hx); clear hs2; replace hg := grew_trans hg hx; have hc := (bcell hg).1)
      | (go_at_call 49; with_reducible refine (ask2 hI HH.out asks80 asks79 hg S1'.out (fun _ => S2.out)).mono ?_; rintro e w3 ⟨rfl, hx⟩; replace hg := grew_trans hg hx; have hc := (bcell hg).1; rw [HB.out]))
    go_ret2
    exact ⟨rfl, Does.same HY.out hg⟩

end Go.Proofs.Ytcifpigjcfkhmaa
