/- Walk: the reference's PutBy. -/
import Derived.Test.YtcifpigjcfkhmaaHRef5
import Derived.Deep.RegionHeld3
namespace Go.Proofs.Ytcifpigjcfkhmaa
open Go.RowKit Go.Lin Go.Lin.Hz

theorem cell_up_alloc {x : World} {b j : Nat} {v : Value} (h : x.cell? ⟨b, j, none⟩ = some v) (o : Obj) : (x.alloc o).cell? ⟨b, j, none⟩ = some v := by
  rw [World.cell?_alloc_lt (a := ⟨b, j, none⟩) _ _ (World.block_lt_of_cell? _ _ h)]; exact h
theorem cell_up_drew {x : World} {b j : Nat} {v : Value} (h : x.cell? ⟨b, j, none⟩ = some v) : x.drew.cell? ⟨b, j, none⟩ = some v := h
theorem cell_up_drewN {x : World} {b j n : Nat} {v : Value} (h : x.cell? ⟨b, j, none⟩ = some v) : (x.drewN n).cell? ⟨b, j, none⟩ = some v := h
theorem cell_up_set {x : World} {b j lb i : Nat} {u v : Value} (hne : b ≠ lb) (h : x.cell? ⟨b, j, none⟩ = some v) : (x.setCell ⟨lb, i, none⟩ u).cell? ⟨b, j, none⟩ = some v := by
  rw [World.cell?_setCell_far _ _ _ _ (fun e => hne e.symm)]; exact h

theorem keeps_up {may may2 : Nat → Obj → Prop} {w wr w9 : World} (h : Keeps may w wr) (h2 : Keeps may2 wr w9) (hb : ∀ k o, may2 k o → w.heap.size ≤ k) : Keeps may w w9 :=
  ⟨h2.os.trans h.os, h2.tape.trans h.tape, h2.output.trans h.output, Nat.le_trans h.size h2.size, fun k o hk hn => h2.obj k o (h.obj k o hk hn) (fun e => by have := hb k _ e; have := lt_of_obj hk; omega)⟩

theorem RAll.put {W5 y w9 : World} {b : Nat} {Y : Yd} {sb sc lb lc : Nat} {lv : List Value} {Lb : List Nat} (hA : RAll W5 b Y sb sc lb lc lv Lb) (hg : Grew W5 y) {v8 v9 : Value} {l9 : List Int} (hk9 : Keeps (fun k _ => foot v8 = some k) y w9) (hf8 : ∀ k, foot v8 = some k → W5.heap.size ≤ k)
    (hl9 : Lst 3 w9 v9 l9) (hf9 : ∀ k, foot v9 = some k → foot v8 = some k ∨ y.heap.size ≤ k) {i : Nat} (hi : i < Y.th.length) :
    RAll (w9.setCell ⟨lb, i, none⟩ v9) b (setT Y i { thAt Y i with l := l9 }) sb sc lb lc (lv.set i v9) ((foot v9).toList ++ Lb) ∧ w9.frozen? ⟨lb, i, none⟩ = false ∧ w9.cell? ⟨lb, i, none⟩ = lv[i]? ∧ (∀ k ∈ (foot v9).toList, W5.heap.size ≤ k) ∧ Keeps (fun k _ => k = lb ∨ W5.heap.size ≤ k) W5 (w9.setCell ⟨lb, i, none⟩ v9) ∧ w9.cell? ⟨b, 11, none⟩ = some (.slice (some ⟨lb, 0, none⟩) Y.th.length lc) ∧ b < w9.heap.size := by
  have hc := hA.cell
  have h1 : RAll w9 b Y sb sc lb lc lv Lb := (hA.grew hg).keeps hk9 (fun k o hk hm => by
    have := hf8 k hm
    have := hc.lt; have := hc.slt; have := hc.llt
    simp only [List.mem_cons] at hk
    rcases hk with rfl | rfl | rfl | hk
    · omega
    · omega
    · omega
    · have := (hA.nl k hk).2.2.2; omega)
  have hlow : ∀ k ∈ (foot v9).toList, W5.heap.size ≤ k := fun k hk => by
    have hk' : foot v9 = some k := by simpa using hk
    rcases hf9 k hk' with h | h
    · exact hf8 k h
    · exact Nat.le_trans hg.size h
  refine ⟨RAll.setList h1 hi (Reads.mono hl9.reads (fun k o h => by rw [h]; simp)) (fun k hk => ?_), h1.cell.fl i, h1.cell.l i hi, hlow, ?_, h1.cell.c11, h1.cell.lt⟩
  · have h2 := hlow k hk
    have hk' : foot v9 = some k := by simpa using hk
    have := hc.lt; have := hc.slt; have := hc.llt
    exact ⟨by omega, by omega, by omega, hl9.lt hk'⟩
  · exact ((Grew.keeps hg).trans (hk9.mono (fun k _ e => .inr (hf8 k e)))).trans ((keeps_store w9 lb i v9).mono (fun k _ e => .inl e))

theorem RDoes.after {w w1 w2 : World} {b : Nat} {Y : Yd} {Fp F1 : List Nat} (hk : Keeps (fun k _ => k ∈ Fp) w w1) (hf : ∀ k ∈ F1, k ∈ Fp ∨ w.heap.size ≤ k) (h : RDoes w1 w2 b F1 Y) : RDoes w w2 b Fp Y := by
  obtain ⟨F2, b1, b2, b3⟩ := h
  refine ⟨F2, b1, keeps_then hk b2 hf, fun k hk' => ?_⟩
  rcases b3 k hk' with h | h
  · exact hf k h
  · exact .inr (Nat.le_trans hk.size h)

theorem keeps_mix {Fp : List Nat} {w W5 W7 : World} {lb : Nat} (h : Keeps (fun k _ => k ∈ Fp) w W5) (h2 : Keeps (fun k _ => k = lb ∨ W5.heap.size ≤ k) W5 W7) (hl : lb ∈ Fp) : Keeps (fun k _ => k ∈ Fp) w W7 :=
  ⟨h2.os.trans h.os, h2.tape.trans h.tape, h2.output.trans h.output, Nat.le_trans h.size h2.size, fun k o hk hn => h2.obj k o (h.obj k o hk hn) (fun e => by
    rcases e with rfl | e
    · exact hn hl
    · have := lt_of_obj hk; have := h.size; omega)⟩

set_option maxHeartbeats 8000000 in
theorem rPutBy_any (Y : Yd) (hI : Inv Y) (b : Nat) (Fp : List Nat) (t n : Int) (w : World) (hy : IsRef w b Y Fp) :
    Calls Try.prog 40 #[.pointer (some ⟨b, 0, none⟩), .int .i64 t, .int .i64 n] w fun e w' => e = .returned (.tuple #[.int .i64 (putBy Y t n).2.1, .int .i64 (putBy Y t n).2.2]) ∧ RDoes w w' b Fp (putBy Y t n).1 := by
  have HY := hid hy
  obtain ⟨sb, sc, lb, lc, lv, Lb, hA, rfl⟩ := hy
  have hc := hA.cell
  have HA := hid hA
  have h4 := hI.th.2
  have hlt := hc.lt
  have hlt3 := hc.llt
  have hg := grew_refl w
  have HT := hid (rThreadY (h4 := h4) hc t)
  have HN := hid (fun y => rNode_any n y)
  have FZ := hid hc.fb
  cases hp1 : isT Y t <;> cases hp3 : isN n
  case true.true =>
    have hn := isN_iff.1 hp3
    obtain ⟨k, rfl⟩ : ∃ k : Nat, n = k := ⟨n.toNat, by omega⟩
    have hk8 : k < 8 := by omega
    have ht := isT_iff.1 hp1
    obtain ⟨i, rfl⟩ : ∃ i : Nat, t = i := ⟨t.toNat, by omega⟩
    have hi : i < Y.th.length := by omega
    have HI := hid hi
    have cst := hc.cs k hk8
    by_cases hst : stAt Y (k : Int) = 1
    · have hIp := hI.putY hp1 hp3 hst
      obtain ⟨v, hvv, -⟩ := hA.list i hi
      have hvs := hA.list_at hi hvv
      obtain ⟨l, hl⟩ : ∃ l, (thAt Y (i : Int)).l = l := ⟨_, rfl⟩
      rw [hl] at hvs
      have hl8 : l.length ≤ 8 := by have := list_le hI hp1; rw [hl] at this; exact this
      rw [show nth Y.st k = 1 from hst] at cst
      obtain ⟨va, vc, hve, -⟩ := hvs
      obtain ⟨nl, hnl⟩ : ∃ n, l.length = n := ⟨_, rfl⟩
      rw [hnl] at hve
      subst hve
      obtain ⟨m, hm⟩ : ∃ m, Y.th.length = m := ⟨_, rfl⟩
      have him : i < m := by omega
      have HM := hid hm
      have HNL := hid hnl
      have HVV := hid hvv
      have HL := hid hl
      have HIP := hid hIp
      have HP1 := hid hp1
      have HP3 := hid hp3
      have HST := hid hst
      obtain ⟨sz, hsz⟩ : ∃ sz, Y.size = sz := ⟨_, rfl⟩
      have HSZ := hid hsz
      rw [hm] at h4
      rw [hp1] at HT
      rw [hp3] at HN
      obtain ⟨Y', r1, r2, hR⟩ : ∃ Y' r1 r2, putBy Y (i : Int) (k : Int) = (Y', r1, r2) := ⟨_, _, _, rfl⟩
      rw [hR]
      have HR := hid hR
      clear hR hsz hm hnl hvv hl hp1 hp3 hst hIp hc hA ht hi hn
      go_enter Try.func40, Try.ntmps40
      go_wp2_with (first
        | (go_at_call 65; with_reducible refine (HT.out _ hg).mono ?_; rintro e w1 ⟨rfl, hx⟩; replace hg := grew_trans hg hx; have hc := (bcell hg).1)
        | (go_at_call 63; (with_reducible refine (HN.out _).mono ?_); go_loud (
            rintro e w1 ⟨rfl, hx⟩; replace hg := grew_trans hg hx; have hc := (bcell hg).1
            have hfz := (hg.frozen (p := ⟨b, 2 + k, none⟩) hlt).trans (FZ.out (2 + k)); have hcl := (hg.cell (p := ⟨b, 2 + k, none⟩) hlt).trans cst
            obtain ⟨W5, hW5⟩ : ∃ W5, w1.setCell ⟨b, 2 + k, none⟩ (.int .i64 2) = W5 := ⟨_, rfl⟩
            have HA5 := hid ((HA.out.grew hg).setN hk8 2)
            have HK5 := hid ((Grew.keeps hg).trans (keeps_store_in (Fp := b :: sb :: lb :: Lb) w1 b (2 + k) (.int .i64 2) (by simp)))
            rw [hW5] at HA5 HK5
            have hw5 : w.heap.size ≤ W5.heap.size := HK5.out.size
            have c11 := HA5.out.cell.c11
            rw [show (Hz.setN Y k 2).th.length = m from HM.out] at c11
            have cl := HA5.out.cell.l i (by rw [show (Hz.setN Y k 2).th.length = m from HM.out]; exact him)
            rw [HVV.out] at cl
            have hb5 := HA5.out.cell.lt
            have hl5 := HA5.out.cell.llt
            have HV5 := hid (Reads.any (HA5.out.list_at HI.out HVV.out))
            rw [show (thAt (Hz.setN Y k 2) (i : Int)).l = l from HL.out] at HV5
            have hfl5 := HA5.out.cell.fl i)))
      have hg5 := grew_refl W5
      have HL9 := hid (show l.length < 1000000000 by omega)
      have HL8 := hid (show l.length ≤ 1000000 by omega)
      have HM' := hid (show (l ++ [(k : Int)]).length = nl + 1 by simp [HNL.out])
      have hbl : b ≠ lb := HA.out.ne.2.1
      clear hfz hcl hc hg hx hl8
      rw [show Op.load 24 (Operand.tmp 40) = id (Op.load 24 (Operand.tmp 40)) from rfl]
      go_region_held3 (fun w' => w'.cell? ⟨b, 11, none⟩ = some (.slice (some ⟨lb, 0, none⟩) m lc)) ((repeat' (first | assumption | refine cell_up_alloc ?_ _ | refine cell_up_drew ?_ | refine cell_up_drewN ?_ | refine cell_up_set hbl ?_))) ((first
        | (refine step_append_zero (by rfl) _ _ 24 (by rfl) 3 Try.underlying24 Try.info3 rfl (by decide) _ (by rfl) (.slice va nl vc) l (by rfl) (HV5.out.grew (by repeat' (first | exact grew_refl _ | assumption | refine grew_alloc ?_ _ | refine Below.setCell ?_ (by (try simp); omega) _ | refine grew_drewN ?_ _ | refine grew_drew ?_ | refine grew_trans ?_ (by assumption)))) HL8.out ?_
           go_loud (
             intro v8 w8 hl8 hf8 hg8
             have HL8 := hid hl8
             have hgW8 : Grew W5 w8 := grew_trans (by repeat' (first | exact grew_refl _ | assumption | refine grew_alloc ?_ _ | refine Below.setCell ?_ (by (try simp); omega) _ | refine grew_drewN ?_ _ | refine grew_drew ?_ | refine grew_trans ?_ (by assumption))) hg8
             have HF8 := hid (show ∀ k, foot v8 = some k → W5.heap.size ≤ k from fun k h => by have := hf8 k h; simp at this; omega)
             have hc8 := (bcell hgW8).1
             have h118 := (hgW8.cell (p := ⟨b, 11, none⟩) hb5).trans c11
             have hb8 : b < w8.heap.size := Nat.lt_of_lt_of_le hb5 hgW8.size
             have hlb8 : lb < w8.heap.size := Nat.lt_of_lt_of_le hl5 hgW8.size
             clear hl8 hf8))
        | (refine step_append_lst (by rfl) _ _ 24 (by rfl) 3 Try.underlying24 Try.info3 rfl (by decide) v8 l (by rfl) (HL8.out.grew (by repeat' (first | exact grew_refl _ | assumption | refine grew_alloc ?_ _ | refine Below.setCell ?_ (by (try simp); omega) _ | refine grew_drewN ?_ _ | refine grew_drew ?_ | refine grew_trans ?_ (by assumption)))) _ _ (k : Int) (by rfl) (by first | exact one_new _ _ _ | exact (hg8.cell (by first | (simp; done) | (simp; omega))).trans (by first | (simp; done) | exact old_new _ _ _ _)) HL9.out ?_
           go_loud (
             intro v9 w9 hl9 hk9 hf9
             obtain ⟨a9, c9, hve9, -⟩ := hl9.shape
             rw [HM'.out] at hve9
             subst hve9
             obtain ⟨hA9, hfz9, hcl9, hlo9, hkp9, h119, hb9⟩ := RAll.put HA5.out (show Grew W5 _ from (by repeat' (first | exact grew_refl _ | assumption | refine grew_alloc ?_ _ | refine Below.setCell ?_ (by (try simp); omega) _ | refine grew_drewN ?_ _ | refine grew_drew ?_ | refine grew_trans ?_ (by assumption)))) hk9 HF8.out hl9 hf9 HI.out
             rw [HVV.out] at hcl9
             rw [show (Hz.setN Y k 2).th.length = m from HM.out] at h119
             have HA9 := hid hA9
             have HLO9 := hid hlo9
             have HKP9 := hid hkp9
             clear hA9 hlo9 hkp9 hl9 hk9 hf9))))
      all_goals
        obtain ⟨W7, hW7⟩ : ∃ W7, w9.setCell ⟨lb, i, none⟩ (.slice a9 (nl + 1) c9) = W7 := ⟨_, rfl⟩
        rw [hW7] at HA9 HKP9 ⊢
        clear hW7 hgW8 hg8 hc8 h118 hb8 hlb8 hfz9 hcl9 h119 hb9 hb5 hl5 hfl5 c11 cl hW5
        have hA7 : RAll W7 b (putY Y i k) sb sc lb lc (lv.set i (.slice a9 (nl + 1) c9)) ((foot (.slice a9 (nl + 1) c9)).toList ++ Lb) := by
          have h := HA9.out
          rw [show thAt (Hz.setN Y k 2) (i : Int) = thAt Y (i : Int) from rfl] at h
          unfold putY
          rw [HL.out]
          exact h
        have hkp7 := keeps_mix HK5.out HKP9.out (by simp)
        have hfp7 : ∀ q ∈ b :: sb :: lb :: ((foot (.slice a9 (nl + 1) c9)).toList ++ Lb), q ∈ b :: sb :: lb :: Lb ∨ w.heap.size ≤ q := by
          intro q hq
          simp only [List.mem_cons, List.mem_append] at hq ⊢
          rcases hq with rfl | rfl | rfl | hq | hq
          · simp
          · simp
          · simp
          · exact .inr (Nat.le_trans hw5 (HLO9.out q hq))
          · simp [hq]
        have hc7 := hA7.cell
        have e11 := hc7.c11
        rw [show (putY Y i k).th.length = m by simpa [putY, setT, Hz.setN] using HM.out] at e11
        have el := hc7.l i (by simpa [putY, setT, Hz.setN] using HI.out)
        rw [List.getElem?_set_self (by rw [HA.out.len]; exact HI.out)] at el
        have e1 := hc7.c1
        rw [show (putY Y i k).size = sz from HSZ.out] at e1
        have eb := hc7.lt
        have ell := hc7.llt
        have HA7 := hid hA7
        have HKP7 := hid hkp7
        have HFP7 := hid hfp7
        clear hA7 hkp7 hfp7 hc7 HA9 HKP9 HLO9 HF8 HL8 HV5
        have hq2 : (((nl + 1 : Nat) : Int) : Int) = (nl : Int) + 1 := by omega
        have HQ2 := hid hq2
        clear hq2
        by_cases hlss : (nl : Int) + 1 < sz
        · have hres : putBy Y (i : Int) (k : Int) = (putY Y i k, 0, 0) := by
            have h2 : ((thAt Y (i : Int)).l.length : Int) + 1 < Y.size := by rw [HL.out, HNL.out, HSZ.out]; exact hlss
            simp only [putBy, HP1.out, HP3.out, HST.out, h2, Bool.and_self, if_true]
          rw [HR.out] at hres
          have HRES := hid hres
          have hdec : decide ((nl : Int) + 1 < sz) = true := by simpa using hlss
          clear hres hlss
          go_wp2
          go_quiet (fail)
          have HGQ := hid (show Grew W7 (W7.drewN nq) from grew_drewN (grew_refl _) _)
          go_wp2
          go_ret2
          have h := HRES.out
          simp only [Prod.mk.injEq] at h
          obtain ⟨rfl, rfl, rfl⟩ := h
          exact ⟨rfl, _, ⟨_, _, _, _, _, _, HA7.out.grew HGQ.out, rfl⟩, HKP7.out.trans (Grew.keeps HGQ.out), HFP7.out⟩
        · have hres : putBy Y (i : Int) (k : Int) = (sweepY (putY Y i k) i, sweepN (putY Y i k) i, 0) := by
            have h2 : ¬ ((thAt Y (i : Int)).l.length : Int) + 1 < Y.size := by rw [HL.out, HNL.out, HSZ.out]; exact hlss
            simp only [putBy, HP1.out, HP3.out, HST.out, h2, Bool.and_self, if_true, if_false]
          rw [HR.out] at hres
          have HRES := hid hres
          have hdec : decide ((nl : Int) + 1 < sz) = false := by simpa using hlss
          clear hres hlss
          go_wp2
          go_quiet (fail)
          have HGQ := hid (show Grew W7 (W7.drewN nq) from grew_drewN (grew_refl _) _)
          have HSW := hid (rSweep_any _ HIP.out b _ (i : Int) (W7.drewN nq) ⟨_, _, _, _, _, _, HA7.out.grew HGQ.out, rfl⟩)
          go_wp2_with (go_at_call 43; (with_reducible refine HSW.out.mono ?_); rintro e wz ⟨rfl, hdz⟩; have HDZ := hid hdz; clear hdz)
          go_ret2
          have h := HRES.out
          simp only [Prod.mk.injEq] at h
          obtain ⟨rfl, rfl, rfl⟩ := h
          have hsw : sweep (putY Y (i : Int) k) (i : Int) = (sweepY (putY Y (i : Int) k) i, sweepN (putY Y (i : Int) k) i, 0) := by
            simp only [sweep, isT_putY.trans HP1.out, if_true]
          have hd := HDZ.out
          rw [hsw] at hd ⊢
          exact ⟨rfl, RDoes.after (HKP7.out.trans (Grew.keeps HGQ.out)) HFP7.out hd⟩
    · have hres : putBy Y (i : Int) (k : Int) = (Y, 0, 5) := by simp only [putBy, hp1, hp3, Bool.and_self, if_true, hst, if_false]
      rw [hres]
      obtain ⟨x, hx⟩ : ∃ x, nth Y.st k = x := ⟨_, rfl⟩
      have hne : (x != 1) = true := by rw [← hx]; simpa [stAt] using hst
      rw [hx] at cst
      rw [hp1] at HT
      rw [hp3] at HN
      clear hres ht hp1 hp3 hc hA hn hst hx
      go_enter Try.func40, Try.ntmps40
      go_wp2_with (first | (go_at_call 65; with_reducible refine (HT.out _ hg).mono ?_; rintro e w1 ⟨rfl, hx⟩; replace hg := grew_trans hg hx; have hc := (bcell hg).1) | (go_at_call 63; with_reducible refine (HN.out _).mono ?_; rintro e w1 ⟨rfl, hx⟩; replace hg := grew_trans hg hx; have hc := (bcell hg).1))
      go_ret2
      exact ⟨rfl, RDoes.same HY.out hg⟩
  all_goals
    have hres : putBy Y t n = (Y, 0, 2) := by simp [putBy, hp1, hp3]
    rw [hres]
    rw [hp1] at HT
    rw [hp3] at HN
    clear hres hp1 hp3 hc hA
    go_enter Try.func40, Try.ntmps40
    go_wp2_with (first | (go_at_call 65; with_reducible refine (HT.out _ hg).mono ?_; rintro e w1 ⟨rfl, hx⟩; replace hg := grew_trans hg hx; have hc := (bcell hg).1) | (go_at_call 63; with_reducible refine (HN.out _).mono ?_; rintro e w1 ⟨rfl, hx⟩; replace hg := grew_trans hg hx; have hc := (bcell hg).1))
    go_ret2
    exact ⟨rfl, RDoes.same HY.out hg⟩

end Go.Proofs.Ytcifpigjcfkhmaa
