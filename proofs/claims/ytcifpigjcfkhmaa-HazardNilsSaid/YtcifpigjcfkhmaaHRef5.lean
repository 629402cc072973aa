/- Walks: the reference's Sweep, PutBy. -/
import Derived.Test.YtcifpigjcfkhmaaHRef4
namespace Go.Lin.Hz
open Go.RowKit Go.Lin

theorem src_of_ints {P : Program} {w : World} {t e : TypeId} (ht : P.underlying t = some (.slice e)) {v : Value} {l : List Int} (h : IsInts Any w v l) : Src P 1 t v l.length (l.map (.int .i64)) w := by
  obtain ⟨a, cap, rfl, hm, hc⟩ := h
  cases a with
  | none =>
    cases l with
    | nil => exact Src.ofNil w ht cap
    | cons x l => obtain ⟨_, _, _, h2, _⟩ := hc 0 (by simp); cases h2
  | some ad =>
    refine Src.ofSlice _ ht ad l.length cap _ (by simp) ?_ ?_
    · intro j u hj
      have hjn : j < l.length := by have := (List.getElem?_eq_some_iff.1 hj).1; simpa using this
      simp only [List.getElem?_map, List.getElem?_eq_getElem hjn, Option.map_some, Option.some.injEq] at hj
      obtain ⟨b, off, o, h2, h3, _, h5⟩ := hc j hjn
      cases h2
      rw [Addr.add_lit, h5, ← hj, ← nth_lt hjn]
    · intro u hu
      obtain ⟨i, _, rfl⟩ := List.mem_map.1 hu
      rfl

/-- A list appended to a slice without room, as a step. -/
theorem step_append_zero {P : Program} {w : World} {ops : Array Oper} {o : Oper} {a : Act} {K : Act → World → Prop} {Q : Exit → Act → World → Prop} {E : Prop} (hgd : o.guard = none) (s x : Operand) (t : TypeId)
    (ho : o.op = .call { callee := .builtin .append, args := #[s, x], argTypes := #[t, t] })
    (e : TypeId) {z : Value} {bytes : Nat} (ht : P.underlying t = some (.slice e)) (hinfo : (P.info? e).map (fun i => (i.zero, i.size, i.bytes)) = some (some z, 1, bytes)) (hzs : z.cells.size = 1) (hb : bytes ≤ 64)
    (ao : Option Addr) (hs : a.eval s = .slice ao 0 0) (v : Value) (l : List Int) (hx : a.eval x = v) (hv : IsInts Any w v l) (hl : l.length ≤ 1000000)
    (hK : ∀ v' w', Lst e w' v' l → (∀ k, foot v' = some k → w.heap.size ≤ k) → Grew w w' → K (a.put o.dst v') w') :
    if Region.wanted o (yielded ops a.tmps) = true then Oper.wp P o a w K Q else E := by
  have hw : Region.wanted o (yielded ops a.tmps) = true := by simp [Region.wanted, hgd]
  rw [if_pos hw]
  obtain ⟨i, hi, hz0, hz1, hz2⟩ := info_parts hinfo
  have hsrc := src_of_ints (P := P) ht hv
  cases l with
  | nil =>
    have hrun : (Builtin.append_ #[t, t] o.type #[.slice ao 0 0, v]).run P w = .ok (.slice ao 0 0) w := by
      have h0 : Src P 1 t v 0 [] w := hsrc
      cases ao <;> simp [Builtin.append_, run_underlying ht, sizeOf, typeInfo, hi, hz1, h0.len, h0.cells, storeCells]
    unfold Oper.wp execOp
    simp only [ho, resolve, invoke, builtin, Sem.run_bind, Sem.run_pure, Result.andThen_ok, List.map_toArray, List.map_cons, List.map_nil, hs, hx, hrun]
    exact hK _ _ (Lst.nil _ _ _) (fun k hk => by cases ao <;> simp [foot] at hk) (grew_refl _)
  | cons y l =>
    have hm0 : 0 < (y :: l).length := by simp
    obtain ⟨n, hn⟩ : ∃ n, (y :: l).length = n := ⟨_, rfl⟩
    rw [hn] at hm0 hsrc hl
    have hby : n * bytes ≤ 140737488355328 := Nat.le_trans (Nat.mul_le_mul hl hb) (by decide)
    obtain ⟨v', w', hr, h2, h3⟩ := run_append_zero (P := P) t t o.type e i z 1 bytes ht hi hz0 hz1 hz2 hzs ao _ n _ hsrc hm0 (by unfold maxLen; omega) hby
    unfold Oper.wp execOp
    simp only [ho, resolve, invoke, builtin, Sem.run_bind, Sem.run_pure, Result.andThen_ok, List.map_toArray, List.map_cons, List.map_nil, hs, hx, hr]
    rw [← hn] at h2
    obtain ⟨h4, h5⟩ := Lst.of_seg (n := e) h2
    exact hK _ _ h4 h5 ⟨h3.os, h3.tape, h3.output, h3.size, fun k hk => h3.block k hk (by simp)⟩

/-- One number appended to a list, as a step. -/
theorem step_append_lst {P : Program} {w : World} {ops : Array Oper} {o : Oper} {a : Act} {K : Act → World → Prop} {Q : Exit → Act → World → Prop} {E : Prop} (hgd : o.guard = none) (s x : Operand) (t : TypeId)
    (ho : o.op = .call { callee := .builtin .append, args := #[s, x], argTypes := #[t, t] })
    (e : TypeId) {z : Value} {bytes : Nat} (ht : P.underlying t = some (.slice e)) (hinfo : (P.info? e).map (fun i => (i.zero, i.size, i.bytes)) = some (some z, 1, bytes)) (hzs : z.cells.size = 1) (hb : bytes ≤ 64)
    (v : Value) (l : List Int) (hs : a.eval s = v) (hown : Lst e w v l) (b c : Nat) (u : Int) (hx : a.eval x = .slice (some ⟨b, 0, none⟩) 1 c) (hc : w.cell? ⟨b, 0, none⟩ = some (.int .i64 u))
    (hn : l.length < 1000000000)
    (h : ∀ v' w', Lst e w' v' (l ++ [u]) → Keeps (fun k _ => foot v = some k) w w' → (∀ k, foot v' = some k → foot v = some k ∨ w.heap.size ≤ k) → K (a.put o.dst v') w') :
    if Region.wanted o (yielded ops a.tmps) = true then Oper.wp P o a w K Q else E := by
  have hw : Region.wanted o (yielded ops a.tmps) = true := by simp [Region.wanted, hgd]
  rw [if_pos hw]
  obtain ⟨i, hi, hz0, hz1, hz2⟩ := info_parts hinfo
  have hsrc : Src P 1 t (.slice (some ⟨b, 0, none⟩) 1 c) 1 [.int .i64 u] w := Src.ofSlice _ ht ⟨b, 0, none⟩ 1 c [.int .i64 u] rfl (by
    intro j w' hj
    have : j = 0 := by
      rcases j with _ | j
      · rfl
      · simp at hj
    subst this
    simp at hj
    subst hj
    rw [Addr.add_lit]; exact hc) (by simp [Value.oneCell'])
  rcases hown with ⟨ad, rfl, rfl⟩ | ⟨hf, hseg⟩
  · obtain ⟨v', w', hr, h2, h3⟩ := run_append_zero (P := P) t t o.type e i z 1 bytes ht hi hz0 hz1 hz2 hzs ad _ 1 _ hsrc (by omega) (by unfold maxLen; omega) (by omega)
    unfold Oper.wp execOp
    simp only [ho, resolve, invoke, builtin, Sem.run_bind, Sem.run_pure, Result.andThen_ok, List.map_toArray, List.map_cons, List.map_nil, hs, hx, hr]
    obtain ⟨h4, h5⟩ := Lst.of_seg (l := [u]) (n := e) h2
    exact h v' w' h4 ((keeps_of_grown h3).mono (fun k _ e => by cases e)) (fun k hk => .inr (h5 k hk))
  · refine wp_append_seg s x t t ho 0 e i z 1 bytes ht hi hz0 hz1 hz2 hzs v l.length _ hs hseg _ hx 1 _ hsrc (by unfold maxLen; omega) ?_ (Nat.zero_le _) fun v' w' h1 h2 h3 => ?_
    · calc (l.length + 1) * bytes ≤ 1000000000 * 64 := Nat.mul_le_mul (by omega) hb
        _ ≤ 140737488355328 := by decide
    · have h1' : Seg w' 0 e 1 v' (l ++ [u]).length ((l ++ [u]).map (.int .i64)) := by simpa using h1
      refine h v' w' (Lst.of_seg h1').1 ((keeps_of_grown h2).mono (fun k _ e => by rw [hf]; exact e)) (fun k hk => ?_)
      have h4 := foot_own hk
      rcases h3 with h3 | h3
      · exact .inl (by rw [hf, ← h3, h4])
      · right; rw [h3] at h4; simp at h4; omega

end Go.Lin.Hz
namespace Go.Proofs.Ytcifpigjcfkhmaa
open Go.RowKit Go.Lin Go.Lin.Hz

theorem gone_len (Y : Yd) (l : List Int) : (gone Y l).length + (stay Y l).length = l.length := by
  induction l with
  | nil => rfl
  | cons x l ih =>
    unfold gone stay at *
    cases h : held Y x <;> simp [h] <;> omega

theorem midY_st (Y : Yd) (l : List Int) (h : Y.st.length = 8) : (midY Y l).st.length = 8 := by unfold midY; rw [freeAll_length]; exact h

theorem keeps_mem {w w' : World} {may : Nat → Obj → Prop} {v : Value} {l : List Int} {Lb : List Nat} (h : IsInts (fun k _ => k ∈ Lb) w v l) (hk : Keeps may w w') (hm : ∀ k o, k ∈ Lb → ¬ may k o) : IsInts Any w' v l :=
  Reads.any (Reads.keeps h hk (fun k o hk => hm k o hk))

theorem RAll.list_at {w : World} {b : Nat} {Y : Yd} {sb sc lb lc : Nat} {lv : List Value} {Lb : List Nat} (h : RAll w b Y sb sc lb lc lv Lb) {i : Nat} (hi : i < Y.th.length) {v : Value} (hv : lv[i]? = some v) : IsInts (fun k _ => k ∈ Lb) w v (thAt Y i).l := by
  obtain ⟨x, h1, h2⟩ := h.list i hi
  rw [hv] at h1
  cases h1
  exact h2

theorem keeps_high {may : Nat → Obj → Prop} {w wr w9 : World} {v : Value} (h : Keeps may w wr) (h2 : Keeps (fun k _ => v.ownBlock = some k) wr w9) (hb : ∀ k, v.ownBlock = some k → w.heap.size ≤ k) : Keeps may w w9 :=
  ⟨h2.os.trans h.os, h2.tape.trans h.tape, h2.output.trans h.output, Nat.le_trans h.size h2.size, fun k o hk hn => h2.obj k o (h.obj k o hk hn) (fun e => by have := hb k e; have := lt_of_obj hk; omega)⟩

theorem sweepY_eq (Y : Yd) (t : Int) : sweepY Y t = setT (midY Y (thAt Y t).l) t { thAt (midY Y (thAt Y t).l) t with l := stay Y (thAt Y t).l } := rfl

set_option maxHeartbeats 8000000 in
theorem rSweep_any (Y : Yd) (hI : Inv Y) (b : Nat) (Fp : List Nat) (t : Int) (w : World) (hy : IsRef w b Y Fp) :
    Calls Try.prog 43 #[.pointer (some ⟨b, 0, none⟩), .int .i64 t] w fun e w' => e = .returned (.tuple #[.int .i64 (sweep Y t).2.1, .int .i64 (sweep Y t).2.2]) ∧ RDoes w w' b Fp (sweep Y t).1 := by
  have HY := hid hy
  obtain ⟨sb, sc, lb, lc, lv, Lb, hA, rfl⟩ := hy
  have hc := hA.cell
  have HA := hid hA
  have h4 := hI.th.2
  have hlt := hc.lt
  have hlt3 := hc.llt
  have hg := grew_refl w
  have HT := hid (rThreadY (h4 := h4) hc t)
  cases hp1 : isT Y t
  · have hres : sweep Y t = (Y, 0, 2) := by simp [sweep, hp1]
    rw [hres]
    rw [hp1] at HT
    clear hres hp1 hc hA
    go_enter Try.func43, Try.ntmps43
    go_wp2_with (go_at_call 65; with_reducible refine (HT.out _ hg).mono ?_; rintro e w1 ⟨rfl, hx⟩; replace hg := grew_trans hg hx; have hc := (bcell hg).1)
    go_ret2
    exact ⟨rfl, RDoes.same HY.out hg⟩
  · have hres : sweep Y t = (sweepY Y t, sweepN Y t, 0) := by simp only [sweep, hp1, if_true]
    rw [hres]
    have ht := isT_iff.1 hp1
    obtain ⟨i, rfl⟩ : ∃ i : Nat, t = i := ⟨t.toNat, by omega⟩
    have hi : i < Y.th.length := by omega
    obtain ⟨v, hvv, -⟩ := hA.list i hi
    have hvs := hA.list_at hi hvv
    obtain ⟨l, hl⟩ : ∃ l, (thAt Y (i : Int)).l = l := ⟨_, rfl⟩
    rw [hl] at hvs
    have hlN : ∀ x ∈ l, isN x = true := fun x hx => list_node hI hp1 (by rw [hl]; exact hx)
    have hl8 : l.length ≤ 8 := by have := list_le hI hp1; rw [hl] at this; exact this
    obtain ⟨r, hr⟩ : ∃ r, sweepN Y (i : Int) = r := ⟨_, rfl⟩
    have hr2 : r = ((gone Y l).length : Int) := by
      rw [← hr]; unfold sweepN; rw [hl]; have := gone_len Y l; omega
    rw [hr]
    obtain ⟨Y', hY'⟩ : ∃ Y', sweepY Y (i : Int) = Y' := ⟨_, rfl⟩
    rw [hY']
    have HYE := hid (show setT (midY Y l) (i : Int) { thAt (midY Y l) (i : Int) with l := stay Y l } = Y' by rw [← hY', sweepY_eq, hl])
    have HR := hid hr2
    have HLN := hid hlN
    have HV := hid hvs
    have HVV := hid hvv
    obtain ⟨va, vc, hve, -⟩ := hvs
    obtain ⟨n, hn⟩ : ∃ n, l.length = n := ⟨_, rfl⟩
    rw [hn] at hve hl8
    subst hve
    obtain ⟨m, hm⟩ : ∃ m, Y.th.length = m := ⟨_, rfl⟩
    have him : i < m := by omega
    have HM := hid hm
    have HN := hid hn
    have HBA := hid (show b ≠ sb ∧ b ≠ lb ∧ sb ≠ lb from hA.ne)
    rw [hm] at h4
    rw [hp1] at HT
    clear hres hr hr2 hY' hl hlN hvv hm hn hc hA hp1 ht hi
    go_enter Try.func43, Try.ntmps43
    go_wp2_with (go_at_call 65; with_reducible refine (HT.out _ hg).mono ?_; rintro e w1 ⟨rfl, hx⟩; replace hg := grew_trans hg hx; have hc := (bcell hg).1)
    go_loopg [6, 7, 8, 9] n (fun k out fr ix _ wr => ∃ j p q : Nat, j ≤ n ∧ p ≤ j ∧ q ≤ j ∧ ix = .int .i64 j ∧ k = n - j ∧ fr = .int .i64 q ∧ Hid (p = (stay Y (l.take j)).length) ∧ Hid (q = (gone Y (l.take j)).length) ∧ Hid (Seg wr w.heap.size 3 1 out p ((stay Y (l.take j)).map (.int .i64))) ∧
      Hid (RAll wr b (midY Y (l.take j)) sb sc lb lc lv Lb) ∧ Hid (Keeps (fun k _ => k = b) w wr))
    case atStart => exact ⟨0, 0, 0, by omega, by omega, by omega, rfl, rfl, rfl, hid rfl, hid rfl, hid (Seg.nil _ _ _ _), hid (HA.out.grew hg), hid (Grew.keeps hg)⟩
    case round =>
      clear hg hx hc
      obtain ⟨j, p, q, hj, hpj, hqj, rfl, hk, rfl, HP, HQ, HS, HAJ, HKP⟩ := hrel
      have HK := hid hk; clear hk
      have hcj := HAJ.out.cell
      have c11 := hcj.c11
      rw [show (midY Y (l.take j)).th.length = m from HM.out] at c11
      have cl := hcj.l i (by rw [show (midY Y (l.take j)).th.length = m from HM.out]; exact him)
      rw [HVV.out] at cl
      have hbl := hcj.lt
      have hll := hcj.llt
      have hwz := HKP.out.size
      by_cases hltj : j < n
      · have hread := keeps_mem HV.out HKP.out (fun k o hk e => (HA.out.nl k hk).1 e)
        obtain ⟨va', vc', hve', hm', hcc⟩ := hread
        rw [HN.out] at hcc hm'
        obtain ⟨gb, off, ob, hva, hob, _, hcx⟩ := hcc j hltj
        have hve2 : va = va' := by simp at hve'; exact hve'.1
        subst hve2
        subst hva
        have hgl := lt_of_obj hob
        have hnN := HLN.out (nth l j) (by rw [nth_lt (by rw [HN.out]; exact hltj)]; exact List.getElem_mem _)
        rw [isN_iff] at hnN
        obtain ⟨c, hce⟩ : ∃ c : Nat, nth l j = c := ⟨(nth l j).toNat, by omega⟩
        replace hcx : _ = some (Value.int .i64 (nth l j)) := hcx
        rw [hce] at hcx hnN
        have hc8 : c < 8 := by omega
        have hts := take_succ_nth (xs := l) (k := j) (by rw [HN.out]; exact hltj)
        rw [hce] at hts
        have HTS := hid hts
        rename World => wr
        have HIH := hid (fun (y : World) (hy : Grew wr y) => isHeld_any (midY Y (l.take j)) (by rw [show (midY Y (l.take j)).th.length = m from HM.out]; exact h4) b (c : Int) y (HAJ.out.grew hy).cell)
        have hst8 := hcj.cs c hc8
        have hfb := hcj.fb (2 + c)
        obtain ⟨hd, hhd⟩ : ∃ hd, held Y (c : Int) = hd := ⟨_, rfl⟩
        have HHD := hid hhd
        rw [show held (midY Y (l.take j)) (c : Int) = hd from hhd] at HIH
        have hg := grew_refl wr
        clear hcj hcc hob hce hts hhd hm' hve'
        cases hd
        · have htl : stay Y (l.take (j + 1)) = stay Y (l.take j) ∧ gone Y (l.take (j + 1)) = gone Y (l.take j) ++ [(c : Int)] ∧ midY Y (l.take (j + 1)) = Hz.setN (midY Y (l.take j)) c 0 := by
            rw [HTS.out, stay_snoc, gone_snoc, midY_snoc, HHD.out]
            refine ⟨rfl, rfl, ?_⟩
            unfold testY
            rw [show held (midY Y (l.take j)) (c : Int) = false from HHD.out]
            rfl
          have HTL := hid htl
          clear htl
          go_wp2_with (go_at_call 68; with_reducible refine (HIH.out _ hg).mono ?_; rintro e w1 ⟨rfl, rfl⟩)
          go_roundg (n - (j + 1))
          case measure => have := HK.out; omega
          case rel =>
            refine ⟨j + 1, p, q + 1, by omega, by omega, by omega, by go_num, rfl, by go_num, hid (by rw [HTL.out.1]; exact HP.out), hid (by rw [HTL.out.2.1]; simp [HQ.out]), hid ?_, hid ?_, hid (HKP.out.trans (keeps_store _ _ _ _))⟩
            · rw [HTL.out.1]
              exact Seg.keeps HS.out (keeps_store _ _ _ _) (fun k o hk _ e => by have := (HS.out.own k hk).1; omega)
            · rw [HTL.out.2.2]; exact HAJ.out.setN hc8 0
        · have htl : stay Y (l.take (j + 1)) = stay Y (l.take j) ++ [(c : Int)] ∧ gone Y (l.take (j + 1)) = gone Y (l.take j) ∧ midY Y (l.take (j + 1)) = midY Y (l.take j) := by
            rw [HTS.out, stay_snoc, gone_snoc, midY_snoc, HHD.out]
            refine ⟨rfl, rfl, ?_⟩
            unfold testY
            rw [show held (midY Y (l.take j)) (c : Int) = true from HHD.out]
            rfl
          have HTL := hid htl
          clear htl
          obtain ⟨vs, hvs⟩ : ∃ vs, (stay Y (l.take j)).map (Value.int .i64) = vs := ⟨_, rfl⟩
          have HVS := hid hvs
          rw [hvs] at HS
          have hseg := HS.out
          have hg0 := hg
          clear hvs
          go_wp2_with (first
            | (go_at_call 68; with_reducible refine (HIH.out _ hg0).mono ?_; rintro e w1 ⟨rfl, rfl⟩)
            | (at_builtin; refine wpList_append_one rfl _ _ 24 rfl w.heap.size 3 Try.underlying24 Try.info3 rfl (by decide) _ p _ rfl (hseg.alloc _) _ _ _ rfl (one_new _ _ _) rfl (by omega) ?_ ?_; (simp only [World.size_alloc]; omega); intro v9 w9 hown9 hgrow9 hblk9; have HGR9 := hid hgrow9; clear hgrow9 hblk9))
          go_roundg (n - (j + 1))
          case measure => have := HK.out; omega
          case rel =>
            have hk9 := ((Keeps.refl (fun k _ => u6.ownBlock = some k) wr).alloc (.cells #[.int .i64 (c : Int)] 3)).trans (keeps_of_grown HGR9.out)
            have hob : ∀ k, u6.ownBlock = some k → w.heap.size ≤ k := fun k hk => (hseg.own k hk).1
            refine ⟨j + 1, p + 1, q, by omega, by omega, by omega, by go_num, rfl, rfl, hid (by rw [HTL.out.1]; simp [HP.out]), hid (by rw [HTL.out.2.1]; exact HQ.out), hid (by rw [HTL.out.1]; simpa [HVS.out] using hown9), hid ?_, hid (keeps_high HKP.out hk9 hob)⟩
            rw [HTL.out.2.2]
            refine HAJ.out.keeps hk9 (fun k o hk hm => ?_)
            have h1 := hob k hm
            have h2 := HA.out.cell.lt
            have h3 := HA.out.cell.slt
            have h4 := HA.out.cell.llt
            simp only [List.mem_cons] at hk
            rcases hk with rfl | rfl | rfl | hk
            · omega
            · omega
            · omega
            · have := (HA.out.nl k hk).2.2.2; omega
      · obtain rfl : j = n := by omega
        have htk : l.take j = l := List.take_of_length_le (by rw [HN.out]; omega)
        rw [htk] at HP HQ HS HAJ
        clear htk
        obtain ⟨sa, scp, hse, -⟩ := HS.out.shape
        subst hse
        have hfl := hcj.fl i
        rename World => wr
        have hs' : Seg wr w.heap.size 3 1 (.slice sa p scp) (stay Y l).length ((stay Y l).map (.int .i64)) := by rw [← HP.out]; exact HS.out
        obtain ⟨hl1, hl2⟩ := Lst.of_seg hs'
        have hread : IsInts (fun k _ => k ∈ (foot (.slice sa p scp)).toList) wr (.slice sa p scp) (stay Y l) := Reads.mono hl1.reads (fun k o h => by rw [h]; simp)
        have hnb : ∀ k ∈ (foot (.slice sa p scp)).toList, w.heap.size ≤ k ∧ k < wr.heap.size := fun k hk => by
          have hk' : foot (.slice sa p scp) = some k := by simpa using hk
          exact ⟨hl2 k hk', hl1.lt hk'⟩
        have hend := RAll.setList HAJ.out (i := i) (by rw [show (midY Y l).th.length = m from HM.out]; exact him) hread (fun k hk => by
          have h1 := hnb k hk
          have h2 := HA.out.cell.lt
          have h3 := HA.out.cell.slt
          have h4 := HA.out.cell.llt
          exact ⟨by omega, by omega, by omega, h1.2⟩)
        rw [HYE.out] at hend
        have HEND := hid hend
        have HNB := hid hnb
        clear hs' hl1 hl2 hread hnb hend
        go_wp2
        go_ret2
        refine ⟨by rw [HR.out, ← HQ.out]; rfl, _, ⟨_, _, _, _, _, _, HEND.out, rfl⟩, (HKP.out.mono (fun k _ e => by rw [e]; simp)).trans (keeps_store_in _ _ _ _ (by simp)), fun k hk => ?_⟩
        simp only [List.mem_cons, List.mem_append] at hk ⊢
        rcases hk with rfl | rfl | rfl | hk | hk
        · simp
        · simp
        · simp
        · exact .inr (HNB.out k hk).1
        · simp [hk]

end Go.Proofs.Ytcifpigjcfkhmaa
