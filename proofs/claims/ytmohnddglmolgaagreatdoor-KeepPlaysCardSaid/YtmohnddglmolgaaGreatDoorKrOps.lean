/- The reference's memory; walks: Read (72), KeptOf (73), Fail (77), Crash (78), Start (79), New (36), store (93). -/
import Derived.Test.YtmohnddglmolgaaGreatDoorKrMemA
namespace Go.Proofs.YtmohnddglmolgaaGreatDoor
open Go Go.RowKit Go.Lin Go.Lin.Kp

theorem rread72_any (bm : Nat) (M : Mem) (F : Nat → Prop) (c : Int) (w : World) (h : IsRMem w bm M F) :
    Calls Tryz.prog 72 #[ptr bm, .int .i64 c] w fun e w' => e = .returned (.tuple #[.int .i64 (M.read c).1, .int .i64 (M.read c).2]) ∧ w = w' := by
  have HIC := hid (rIsCell103_any c)
  obtain ⟨ov, h⟩ := h
  have con := h.cOn
  have HH := hid h
  unfold Mem.read
  obtain ⟨x, hx⟩ : ∃ x, isCell c = x := ⟨_, rfl⟩
  have HX := hid hx
  rw [hx] at HIC ⊢
  obtain ⟨o, ho⟩ : ∃ o, M.on = o := ⟨_, rfl⟩
  rw [ho] at con ⊢
  clear hx h ho
  cases x
  · simp only [Bool.false_eq_true, if_false]
    go_enter Tryz.func72, Tryz.ntmps72
    go_wp2_with (go_at_call 103; (with_reducible refine (HIC.out _).mono ?_); rintro e w1 ⟨rfl, rfl⟩)
    go_ret2
    exact ⟨rfl, rfl⟩
  · have hc := isCell_iff.1 HX.out
    obtain ⟨ci, rfl⟩ : ∃ ci : Nat, c = (ci : Int) := ⟨c.toNat, by omega⟩
    have hci : ci < 64 := by omega
    have hcI : (ci : Int) < 64 := by omega
    have cf := HH.out.cF hci
    simp only [Int.toNat_natCast, if_true]
    clear hc
    cases o
    · simp only [Bool.false_eq_true, if_false]
      go_enter Tryz.func72, Tryz.ntmps72
      go_wp2_with (go_at_call 103; (with_reducible refine (HIC.out _).mono ?_); rintro e w1 ⟨rfl, rfl⟩)
      go_ret2
      exact ⟨rfl, rfl⟩
    · simp only [if_true]
      go_enter Tryz.func72, Tryz.ntmps72
      go_wp2_with (go_at_call 103; (with_reducible refine (HIC.out _).mono ?_); rintro e w1 ⟨rfl, rfl⟩)
      go_ret2
      exact ⟨rfl, rfl⟩

theorem rkept73_any (bm : Nat) (M : Mem) (F : Nat → Prop) (c : Int) (w : World) (h : IsRMem w bm M F) :
    Calls Tryz.prog 73 #[ptr bm, .int .i64 c] w fun e w' => e = .returned (.tuple #[.int .i64 (M.keptAt c).1, .int .i64 (M.keptAt c).2]) ∧ w = w' := by
  have HIC := hid (rIsCell103_any c)
  obtain ⟨ov, h⟩ := h
  have HH := hid h
  unfold Mem.keptAt
  obtain ⟨x, hx⟩ : ∃ x, isCell c = x := ⟨_, rfl⟩
  have HX := hid hx
  rw [hx] at HIC ⊢
  clear hx h
  cases x
  · simp only [Bool.false_eq_true, if_false]
    go_enter Tryz.func73, Tryz.ntmps73
    go_wp2_with (go_at_call 103; (with_reducible refine (HIC.out _).mono ?_); rintro e w1 ⟨rfl, rfl⟩)
    go_ret2
    exact ⟨rfl, rfl⟩
  · have hc := isCell_iff.1 HX.out
    obtain ⟨ci, rfl⟩ : ∃ ci : Nat, c = (ci : Int) := ⟨c.toNat, by omega⟩
    have hci : ci < 64 := by omega
    have hcI : (ci : Int) < 64 := by omega
    have cf := HH.out.cK hci
    simp only [Int.toNat_natCast, if_true]
    clear hc
    go_enter Tryz.func73, Tryz.ntmps73
    go_wp2_with (go_at_call 103; (with_reducible refine (HIC.out _).mono ?_); rintro e w1 ⟨rfl, rfl⟩)
    go_ret2
    exact ⟨rfl, rfl⟩

/-! ### Crash -/

set_option maxHeartbeats 1000000 in
theorem rcrash78_any (bm : Nat) (M : Mem) (F : Nat → Prop) (v : Value) (l : List Int) (w : World) (h : IsRMem w bm M F) (hsz : M.size < 1000000000) (hv : IsInts (fun k _ => k ≠ bm) w v l) :
    Calls Tryz.prog 78 #[ptr bm, v] w (RLeft w bm F (.int .i64 (M.crash l).1) (M.crash l).2) := by
  have HM := hid h
  have HE := hid (rAreCells105_any v l w (hv.mono fun _ _ _ => trivial))
  have HF := hid (fun (he : areEarly l = true) => rfail106_any bm M F v l w h (by unfold Mem.size at hsz; omega) he hv)
  obtain ⟨ov, h⟩ := h
  have con := h.cOn
  unfold Mem.crash
  obtain ⟨c, hc⟩ : ∃ c, areEarly l = c := ⟨_, rfl⟩
  obtain ⟨o, ho⟩ : ∃ o, M.on = o := ⟨_, rfl⟩
  rw [hc] at HE HF ⊢
  rw [ho] at con ⊢
  clear hc ho h hv hsz
  cases c with
  | false =>
    simp only [Bool.false_eq_true, if_false]
    clear HF
    go_enter Tryz.func78, Tryz.ntmps78
    go_wp2_with (go_at_call 105; (with_reducible refine HE.out.mono ?_); rintro e w1 ⟨rfl, rfl⟩)
    go_ret
    exact ⟨rfl, HM.out, Keeps.refl _ _⟩
  | true =>
    replace HF := hid (HF.out rfl)
    cases o with
    | false =>
      simp only [Bool.false_eq_true, if_true, if_false]
      clear HF
      go_enter Tryz.func78, Tryz.ntmps78
      go_wp2_with (go_at_call 105; (with_reducible refine HE.out.mono ?_); rintro e w1 ⟨rfl, rfl⟩)
      go_ret
      exact ⟨rfl, HM.out, Keeps.refl _ _⟩
    | true =>
      simp only [if_true]
      go_enter Tryz.func78, Tryz.ntmps78
      go_wp2_with (first
        | (go_at_call 105; (with_reducible refine HE.out.mono ?_); rintro e w1 ⟨rfl, rfl⟩)
        | (go_at_call 106; (with_reducible refine HF.out.mono ?_); rintro e w1 ⟨rfl, hm, hk⟩; have HM1 := hid hm; have HK1 := hid hk; clear hm hk))
      go_ret
      exact ⟨rfl, HM1.out, HK1.out⟩

/-! ### Start -/

set_option maxHeartbeats 1000000 in
theorem rstart79_any (bm : Nat) (M : Mem) (F : Nat → Prop) (w : World) (h : IsRMem w bm M F) (hok : Ok M) : Calls Tryz.prog 79 #[ptr bm] w (RLeft w bm F (.tuple #[]) M.start) := by
  have HM := hid h
  obtain ⟨ov, h⟩ := h
  have HH := hid h
  have c0 := h.cOn
  have hoff := hok.off
  have f0 := h.row.frozen 192; have f1 := h.row.frozen 193; have f2 := h.row.frozen 194
  have c1 := h.cIn; have c2 := h.cOut
  clear h
  unfold Mem.start
  obtain ⟨o, ho⟩ : ∃ o, M.on = o := ⟨_, rfl⟩
  have HO := hid ho
  rw [ho] at c0 hoff ⊢
  clear ho hok
  cases o with
  | true =>
    rw [if_pos rfl]
    clear hoff
    go_enter Tryz.func79, Tryz.ntmps79
    go_wp2
    go_end0
    exact ⟨rfl, HM.out, Keeps.refl _ _⟩
  | false =>
    rw [if_neg (by decide)]
    have HOF := hid (hoff rfl)
    clear hoff
    have hra := rangeAt_row HH.out.row 64 64 (by omega) (fun i => .int .i64 (M.kept i)) (fun j hj => remAt_K _ _ hj)
    obtain ⟨cs, hcs⟩ : ∃ cs, (List.range 64).map (fun i => Value.int .i64 (M.kept i)) = cs := ⟨_, rfl⟩
    rw [hcs] at hra
    have hl : cs.length = 64 := by rw [← hcs]; simp
    have h1 : ∀ v ∈ cs, v.oneCell' = true := by
      intro v hv
      rw [← hcs] at hv
      obtain ⟨i, _, rfl⟩ := List.mem_map.1 hv
      rfl
    have HCS := hid hcs; have HL := hid hl; have H1 := hid h1
    have hsz : (Tryz.prog.info? 83).map (·.size) = some cs.length := by rw [hl]; kernel_rfl
    have hsz2 : (Tryz.prog.info? 83).map (·.size) = some cs.toArray.size := by rw [List.size_toArray, hl]; kernel_rfl
    have HSZ := hid hsz; have HSZ2 := hid hsz2
    obtain ⟨W3, hW3⟩ : ∃ W, ((w.setCell ⟨bm, 192, none⟩ (.bool true)).setCell ⟨bm, 193, none⟩ (.int .i64 0)).setCell ⟨bm, 194, none⟩ (.slice none 0 0) = W := ⟨_, rfl⟩
    have hr3 := ((HH.out.row.set 192 (.bool true)).set 193 (.int .i64 0)).set 194 (.slice none 0 0)
    rw [hW3] at hr3
    have hk3 : ∀ may : Nat → Obj → Prop, (∀ o, may bm o) → Keeps may w W3 := fun may hm => by rw [← hW3]; exact ((keeps_set1 _ _ hm).trans (keeps_set1 _ _ hm)).trans (keeps_set1 _ _ hm)
    have hra3 := rangeAt_row hr3 64 64 (by omega) (fun i => .int .i64 (M.kept i)) (fun j hj => by rw [if_neg (by omega), if_neg (by omega), if_neg (by omega)]; exact remAt_K _ _ hj)
    rw [hcs] at hra3
    have HRA := hid hra3
    have HTH := hid (there_row hr3 0 cs.toArray.size (by rw [List.size_toArray, hl]; omega))
    have HR3 := hid hr3; have HK3 := hid hk3
    clear hcs hl h1 hsz hsz2 hra hra3 hr3 hk3
    go_enter Tryz.func79, Tryz.ntmps79
    go_wp2_with (first
      | (refine wpList_load_mid rfl 83 _ rfl bm 64 rfl _ _ HRA.out Tryz.underlying83 rfl HSZ.out ?_)
      | (refine wpList_store_mid rfl 83 _ _ rfl bm 0 _ rfl rfl HTH.out HSZ2.out (all_oneCell_toArray H1.out) ?_))
    go_end0
    have hk : ∀ may : Nat → Obj → Prop, (∀ o, may bm o) → Keeps may w (W3.setCells bm 0 cs) := fun may hm => (HK3.out may hm).trans (keeps_setCells _ cs hm)
    have hr := Go.Lin.Kp.rowIs_setCells cs 0 HR3.out
    refine ⟨rfl, ⟨.slice none 0 0, hr.congr fun i hi => ?_, (by show IsInts _ _ _ M.early; rw [HOF.out.2]; exact Reads.nil _ _ _ _ _), HH.out.inM, fun k e => Nat.lt_of_lt_of_le (HH.out.lt k e) (hk (InF F) (fun _ => HH.out.inM)).size⟩, hk _ (fun _ => HH.out.inM)⟩
    refine remAt_ext (M := { M with on := true, fresh := M.kept }) (f := fun i => if 0 ≤ i then cs.getD (i - 0) (if i = 194 then .slice none 0 0 else if i = 193 then .int .i64 0 else if i = 192 then .bool true else remAt M ov i) else (if i = 194 then .slice none 0 0 else if i = 193 then .int .i64 0 else if i = 192 then .bool true else remAt M ov i)) (fun i hi => ?_) (fun i hi => ?_) (fun i hi => ?_) ?_ ?_ ?_ ?_ ?_ ?_ hi
    · rw [if_pos (Nat.zero_le _), ← HCS.out, Nat.sub_zero, List.getD_eq_getElem?_getD, List.getElem?_map, List.getElem?_range hi]; rfl
    · rw [if_pos (Nat.zero_le _), List.getD_eq_getElem?_getD, List.getElem?_eq_none (by rw [HL.out]; omega), Option.getD_none, if_neg (by omega), if_neg (by omega), if_neg (by omega), remAt_K _ _ hi]
    · rw [if_pos (Nat.zero_le _), List.getD_eq_getElem?_getD, List.getElem?_eq_none (by rw [HL.out]; omega), Option.getD_none, if_neg (by omega), if_neg (by omega), if_neg (by omega), remAt_N _ _ hi]
    all_goals (rw [if_pos (Nat.zero_le _), List.getD_eq_getElem?_getD, List.getElem?_eq_none (by rw [HL.out]; omega), Option.getD_none])
    all_goals (first | rfl | (show Value.int .i64 0 = .int .i64 ((M.plan : Nat) : Int); rw [HOF.out.1]; rfl))

/-! ### store -/

/-- What 'store' says. -/
def storeR (M : Mem) (c n : Int) : Bool × Mem := (decide ((Ord.put (0, M) c n).1 = 0), (Ord.put (0, M) c n).2)

set_option maxHeartbeats 1000000 in
theorem rstore93_any (bm : Nat) (M : Mem) (F : Nat → Prop) (c n : Int) (w : World) (h : IsRMem w bm M F) (hok : Ok M) (hsz : M.size + 3 < 1000000000) :
    Calls Tryz.prog 93 #[ptr bm, .int .i64 c, .int .i64 n] w (RLeft w bm F (.bool (storeR M c n).1) (storeR M c n).2) := by
  have HW := hid (rwrite74_any bm M F c n w h hok (by omega))
  have o1 := ok_write hok c n
  have s1 := size_write M c n
  have e1 : Ord.write (0, M) c n = M.write c n := by unfold Ord.write; rw [if_pos rfl]
  unfold storeR Ord.put
  rw [e1]
  obtain ⟨⟨r1, M1⟩, h1⟩ : ∃ x, M.write c n = x := ⟨_, rfl⟩
  rw [h1] at HW o1 s1 ⊢
  dsimp only at HW o1 s1
  clear e1 h1 h hok
  by_cases q1 : r1 = 0
  · subst q1
    have HFl := hid (fun (W : World) (h : IsRMem W bm M1 F) => rflush75_any bm M1 F c W h o1 (by omega))
    have o2 := ok_flush o1 c
    have s2 := size_flush M1 c
    have e2 : Ord.flush (0, M1) c = M1.flush c := by unfold Ord.flush; rw [if_pos rfl]
    rw [e2]
    obtain ⟨⟨r2, M2⟩, h2⟩ : ∃ x, M1.flush c = x := ⟨_, rfl⟩
    rw [h2] at HFl o2 s2 ⊢
    dsimp only at HFl o2 s2
    clear e2 h2
    by_cases q2 : r2 = 0
    · subst q2
      have HFe := hid (fun (W : World) (h : IsRMem W bm M2 F) => rfence76_any bm M2 F W h o2 (by omega))
      have e3 : Ord.fence (0, M2) = M2.fence := by unfold Ord.fence; rw [if_pos rfl]
      rw [e3]
      obtain ⟨⟨r3, M3⟩, h3⟩ : ∃ x, M2.fence = x := ⟨_, rfl⟩
      rw [h3] at HFe ⊢
      dsimp only at HFe ⊢
      have hb : (r3 == 0) = decide (r3 = 0) := by rw [Bool.eq_iff_iff]; simp
      obtain ⟨b, hbb⟩ : ∃ b, decide (r3 = 0) = b := ⟨_, rfl⟩
      rw [hbb] at hb ⊢
      clear e3 h3 o1 s1 o2 s2 hsz hbb
      cases b
      all_goals (
        go_enter Tryz.func93, Tryz.ntmps93
        go_wp2_with (first
          | (go_at_call 74; (with_reducible refine HW.out.mono ?_); rintro e w1 ⟨rfl, hm, hk⟩; have HM1 := hid hm; have HK1 := hid hk; clear hm hk)
          | (go_at_call 75; (with_reducible refine (HFl.out _ HM1.out).mono ?_); rintro e w2 ⟨rfl, hm, hk⟩; have HM2 := hid hm; have HK2 := hid hk; clear hm hk)
          | (go_at_call 76; (with_reducible refine (HFe.out _ HM2.out).mono ?_); rintro e w3 ⟨rfl, hm, hk⟩; have HM3 := hid hm; have HK3 := hid hk; clear hm hk))
        go_ret
        exact ⟨rfl, HM3.out, (HK1.out.trans HK2.out).trans HK3.out⟩)
    · have e3 : Ord.fence (r2, M2) = (r2, M2) := by unfold Ord.fence; rw [if_neg q2]
      rw [e3]
      dsimp only
      rw [decide_eq_false q2]
      have hb : (r2 == 0) = false := by rw [beq_eq_false_iff_ne]; exact q2
      clear e3 o1 s1 o2 s2 hsz q2
      go_enter Tryz.func93, Tryz.ntmps93
      go_wp2_with (first
        | (go_at_call 74; (with_reducible refine HW.out.mono ?_); rintro e w1 ⟨rfl, hm, hk⟩; have HM1 := hid hm; have HK1 := hid hk; clear hm hk)
        | (go_at_call 75; (with_reducible refine (HFl.out _ HM1.out).mono ?_); rintro e w2 ⟨rfl, hm, hk⟩; have HM2 := hid hm; have HK2 := hid hk; clear hm hk))
      go_ret
      exact ⟨rfl, HM2.out, HK1.out.trans HK2.out⟩
  · have e2 : Ord.flush (r1, M1) c = (r1, M1) := by unfold Ord.flush; rw [if_neg q1]
    have e3 : Ord.fence (r1, M1) = (r1, M1) := by unfold Ord.fence; rw [if_neg q1]
    rw [e2, e3]
    dsimp only
    rw [decide_eq_false q1]
    have hb : (r1 == 0) = false := by rw [beq_eq_false_iff_ne]; exact q1
    clear e2 e3 o1 s1 hsz q1
    go_enter Tryz.func93, Tryz.ntmps93
    go_wp2_with (go_at_call 74; (with_reducible refine HW.out.mono ?_); rintro e w1 ⟨rfl, hm, hk⟩; have HM1 := hid hm; have HK1 := hid hk; clear hm hk)
    go_ret
    exact ⟨rfl, HM1.out, HK1.out⟩

/-! ### Fail -/

set_option maxHeartbeats 4000000 in
set_option maxRecDepth 20000 in
theorem rfail77_any (bm : Nat) (M : Mem) (F : Nat → Prop) (k : Int) (v : Value) (l : List Int) (w : World) (h : IsRMem w bm M F) (hv : IsInts Any w v l) :
    Calls Tryz.prog 77 #[ptr bm, .int .i64 k, v] w fun e w' => e = .returned (.int .i64 (M.planned k l).1) ∧ Keeps (InF F) w w' ∧ ∃ F', IsRMem w' bm (M.planned k l).2 F' ∧ Wider w F F' := by
  have HM := hid h
  have HE := hid (rAreCells105_any v l w hv)
  have HB := hid (within92_any 1 k 1000)
  have hsrc := src_ints (Reads.grew hv (grew_alloc (grew_refl w) (.cells #[] 3)))
  obtain ⟨ov, h⟩ := h
  have con := h.cOn
  have hbm := h.row.lt
  have HH := hid h
  obtain ⟨va, vc, rfl, hm, -⟩ := hv
  obtain ⟨i0, hi, hz0, hzz, hz2⟩ := info_parts Tryz.info3
  have hseg : Seg (w.alloc (.cells #[] 3)) w.heap.size 3 1 (.slice (some ⟨w.heap.size, 0, none⟩) 0 0) 0 [] :=
    ⟨by simp, .inr ⟨w.heap.size, 0, 0, #[], rfl, Nat.le_refl _, heap_alloc_new w _, Nat.le_refl _, by unfold maxLen; omega, by simp, by simp⟩⟩
  have HSRC := hid hsrc; have HSEG := hid hseg
  unfold Mem.planned mayPlan
  obtain ⟨c, hc⟩ : ∃ c, areEarly l = c := ⟨_, rfl⟩
  obtain ⟨b, hb⟩ : ∃ b, (decide (1 ≤ k) && decide (k ≤ 1000)) = b := ⟨_, rfl⟩
  obtain ⟨o, ho⟩ : ∃ o, M.on = o := ⟨_, rfl⟩
  have HBB := hid hb; have HO := hid ho; have HCC := hid hc
  rw [hc] at HE ⊢
  rw [hb] at HB ⊢
  rw [ho] at con ⊢
  clear hc ho h hsrc hseg hb
  obtain ⟨m, hmm⟩ : ∃ m, l.length = m := ⟨_, rfl⟩
  have HL := hid hmm
  rw [hmm] at hm HSRC HE ⊢
  clear hmm
  cases b with
  | false =>
    simp only [Bool.false_and, Bool.false_eq_true, if_false]
    go_enter Tryz.func77, Tryz.ntmps77
    go_wp2_with (go_at_call 92; (with_reducible refine (HB.out _).mono ?_); rintro e w1 ⟨rfl, rfl⟩)
    go_ret
    exact ⟨rfl, Keeps.refl _ _, F, HM.out, fun k h => .inl h⟩
  | true =>
    cases c with
    | false =>
      simp only [Bool.and_false, Bool.false_eq_true, if_false]
      go_enter Tryz.func77, Tryz.ntmps77
      go_wp2_with (first
        | (go_at_call 92; (with_reducible refine (HB.out _).mono ?_); rintro e w1 ⟨rfl, rfl⟩)
        | (go_at_call 105; (with_reducible refine HE.out.mono ?_); rintro e w1 ⟨rfl, rfl⟩))
      go_ret
      exact ⟨rfl, Keeps.refl _ _, F, HM.out, fun k h => .inl h⟩
    | true =>
      cases o with
      | false =>
        simp only [Bool.true_and, Bool.false_eq_true, if_true, if_false]
        go_enter Tryz.func77, Tryz.ntmps77
        go_wp2_with (first
          | (go_at_call 92; (with_reducible refine (HB.out _).mono ?_); rintro e w1 ⟨rfl, rfl⟩)
          | (go_at_call 105; (with_reducible refine HE.out.mono ?_); rintro e w1 ⟨rfl, rfl⟩))
        go_ret
        exact ⟨rfl, Keeps.refl _ _, F, HM.out, fun k h => .inl h⟩
      | true =>
        simp only [Bool.true_and, if_true]
        have hbb := HBB.out
        rw [Bool.and_eq_true, decide_eq_true_eq, decide_eq_true_eq] at hbb
        have hml : m ≤ 10 := by
          have := HCC.out; unfold areEarly at this; rw [Bool.and_eq_true, decide_eq_true_eq, HL.out] at this; exact this.1
        obtain ⟨kn, rfl⟩ : ∃ kn : Nat, k = (kn : Int) := ⟨k.toNat, by omega⟩
        simp only [Int.toNat_natCast]
        clear hbb
        go_enter Tryz.func77, Tryz.ntmps77
        go_wp2_with (first
          | (go_at_call 92; (with_reducible refine (HB.out _).mono ?_); rintro e w1 ⟨rfl, rfl⟩)
          | (go_at_call 105; (with_reducible refine HE.out.mono ?_); rintro e w1 ⟨rfl, rfl⟩)
          | (at_builtin; refine wpList_append_seg rfl _ _ 39 39 rfl w.heap.size 3 i0 (.int .i64 0) 1 8 Tryz.underlying39 hi hz0 hzz hz2 rfl _ 0 [] rfl HSEG.out _ rfl m _ HSRC.out (by unfold maxLen; omega) (by omega) ?_ ?_; simp; intro v2 w2 hown2 hgrow2 hblk2; have hg2 : Grew w w2 := ((grew_refl w).alloc (Nat.le_refl _) _).grown hgrow2 (by simp) (fun k e => by cases e; exact Nat.le_refl _); rw [Nat.zero_add, List.nil_append] at hown2; obtain ⟨na, nc, rfl, hnl⟩ := hown2.shape; have HS2 := hid hown2; have HG2 := hid hg2; have hh2 := HH.out.grew hg2; have HH2 := hid hh2; have c3 := hh2.cIn; have c4 := hh2.cOut; have f3 := hh2.row.frozen 193; have f4 := hh2.row.frozen 194; clear hown2 hgrow2 hblk2 hg2 hnl hh2))
        go_ret
        have hk : ∀ may : Nat → Obj → Prop, (∀ o, may bm o) → Keeps may w2 ((w2.setCell ⟨bm, 193, none⟩ (.int .i64 (kn : Int))).setCell ⟨bm, 194, none⟩ (.slice na m nc)) := fun may hm => (keeps_set1 _ _ hm).trans (keeps_set1 _ _ hm)
        have hz := HG2.out.size
        have hint := HS2.out.isInts
        refine ⟨rfl, HG2.out.keeps.trans (hk _ (fun _ => HH.out.inM)), fun q => F q ∨ (w.heap.size ≤ q ∧ q < w2.heap.size), ⟨.slice na m nc, ((HH2.out.row.set 193 (.int .i64 (kn : Int))).set 194 (.slice na m nc)).congr fun i hi => ?_, ?_, .inl HH.out.inM, ?_⟩, fun q hq => hq.imp id (fun h => h.1)⟩
        · refine remAt_ext (M := { M with on := true, plan := kn, early := l }) (f := fun i => if i = 194 then .slice na m nc else if i = 193 then .int .i64 (kn : Int) else remAt M ov i) (fun i hi => ?_) (fun i hi => ?_) (fun i hi => ?_) ?_ rfl rfl rfl rfl rfl hi
          · rw [if_neg (by omega), if_neg (by omega), remAt_F _ _ hi]
          · rw [if_neg (by omega), if_neg (by omega), remAt_K _ _ hi]
          · rw [if_neg (by omega), if_neg (by omega), remAt_N _ _ hi]
          · show remAt M ov 192 = _
            show Value.bool M.on = _
            rw [HO.out]
        · show IsInts _ _ _ l
          have hl2 : Reads (fun k _ => w.heap.size ≤ k) w2 (.slice na m nc) l.length (fun i => .int .i64 (nth l i)) := by
            have h3 : Seg w2 w.heap.size 3 1 (.slice na m nc) l.length (l.map (.int .i64)) := by rw [HL.out]; exact HS2.out
            exact (h3.isInts).mono fun k _ hs => hs.1
          refine Reads.keeps (Reads.re' hl2 (S' := fun q _ => (F q ∨ (w.heap.size ≤ q ∧ q < w2.heap.size)) ∧ q ≠ bm) (fun q o ho hs => ⟨.inr ⟨hs, lt_of_obj ho⟩, by omega⟩)) (hk (fun q _ => q = bm) (fun _ => rfl)) (fun q o hs e => hs.2 e)
        · intro q hq
          have hs := (hk (InF F) (fun _ => HH.out.inM)).size
          rcases hq with hq | hq
          · have := HH.out.lt q hq; omega
          · omega

/-! ### New -/

def rem0 (i : Nat) : Value := if i = 192 then .bool true else if i = 194 then .slice none 0 0 else .int .i64 0

theorem rnew_cells : Tryz.zeroCells133.setIfInBounds 192 (.bool true) = ((List.range 198).map rem0).toArray := by kernel_rfl

set_option maxRecDepth 20000 in
theorem rnew36_any (w : World) : Calls Tryz.prog 36 #[] w fun e w' => e = .returned (ptr w.heap.size) ∧ IsRMem w' w.heap.size Mem.new (fun k => k = w.heap.size) ∧ Grew w w' := by
  have HFG := hid (fun (W : World) (f : Nat → Value) (h : W.rowIs w.heap.size 133 198 f) => forget71_any w.heap.size f W h)
  have HRW := hid (rowIs_list (heap_alloc_new w (.cells (Tryz.zeroCells133.setIfInBounds 192 (.bool true)) 133)) rnew_cells)
  go_enter Tryz.func36, Tryz.ntmps36
  go_wp2_with (go_at_call 71; (with_reducible refine (HFG.out _ _ HRW.out).mono ?_); rintro e w2 ⟨rfl, hr2, hk2⟩; have HR2 := hid hr2; have HK2 := hid hk2; clear hr2 hk2)
  go_ret
  have hz := HK2.out.size
  rw [World.size_alloc] at hz
  refine ⟨rfl, ⟨.slice none 0 0, HR2.out.congr fun i hi => ?_, Reads.nil _ _ _ _ _, rfl, fun k e => by omega⟩, grew_b (grew_alloc (grew_refl _) _) (HK2.out.below (by rw [World.size_alloc]; omega) (fun k _ e => by omega))⟩
  refine remAt_ext (M := Mem.new) (f := forgot rem0 64) (fun i hi => ?_) (fun i hi => ?_) (fun i hi => ?_) rfl rfl rfl rfl rfl rfl hi
  · unfold forgot rem0; rw [if_neg (by omega), if_neg (by omega), if_neg (by omega)]; rfl
  · unfold forgot rem0; rw [if_neg (by omega), if_neg (by omega), if_neg (by omega)]; rfl
  · unfold forgot; rw [if_pos (by omega)]; rfl

end Go.Proofs.YtmohnddglmolgaaGreatDoor
