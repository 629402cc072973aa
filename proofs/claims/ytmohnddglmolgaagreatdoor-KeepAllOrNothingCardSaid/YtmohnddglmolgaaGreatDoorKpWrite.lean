/- Walks: Write (28), Flush (42), Fence (43), with what each does in its step. -/
import Derived.Test.YtmohnddglmolgaaGreatDoorKpStep
import Derived.Deep.RegionHeld3
import Derived.Deep.RegionLaw
import Derived.StillTailTactics
namespace Go.Proofs.YtmohnddglmolgaaGreatDoor
open Go Go.RowKit Go.Lin Go.Lin.Kp

theorem setF_cells {M : Mem} {bn : Nat} {sv : Value} {c : Nat} {n : Int} (hc : c < 64) (i : Nat) :
    (if i = 1 + c then .int .i64 n else memAt M bn sv i) = memAt (Mem.setF c n M) bn sv i := by
  unfold memAt Mem.setF upd
  by_cases e : i = 1 + c
  · subst e
    rw [if_pos rfl, if_neg (by omega), if_pos (by omega)]
    dsimp only
    rw [if_pos (by omega)]
  · rw [if_neg e]
    by_cases h0 : i = 0
    · rw [if_pos h0, if_pos h0]
    · by_cases h1 : i < 65
      · rw [if_neg h0, if_neg h0, if_pos h1, if_pos h1]
        dsimp only
        rw [if_neg (by omega)]
      · rw [if_neg h0, if_neg h0, if_neg h1, if_neg h1]

theorem do61_any (bm : Nat) (M : Mem) (F : Nat → Prop) (c : Nat) (n : Int) (b0 b1 b2 : Nat) (w : World) (h : IsMem w bm M F) (hc : c < 64)
    (k0 : w.cell? ⟨b0, 0, none⟩ = some (ptr bm)) (k1 : w.cell? ⟨b1, 0, none⟩ = some (.int .i64 (c : Int))) (k2 : w.cell? ⟨b2, 0, none⟩ = some (.int .i64 n)) :
    Calls Tryz.prog 61 #[ptr b2, ptr b0, ptr b1] w fun e w' => e = .returned (.tuple #[]) ∧ IsMem w' bm (Mem.setF c n M) F ∧ Keeps (InF F) w w' := by
  obtain ⟨bn, sv, h⟩ := h
  have HH := hid h
  have cf := h.cF hc
  have ff := h.row.frozen (1 + c)
  have hcI : (c : Int) < 64 := by omega
  clear h
  go_enter Tryz.func61, Tryz.ntmps61
  go_wp2
  go_region_law (fail)
  all_goals (
    go_wp2
    go_end0
    have h := HH.out
    have hk : ∀ may : Nat → Obj → Prop, (∀ o, may bm o) → Keeps may w (w.setCell ⟨bm, 1 + c, none⟩ (.int .i64 n)).drew := fun may hm => (keeps_set1 _ _ hm).drew
    exact ⟨rfl, ⟨bn, sv, (h.row.set (1 + c) _).congr fun i _ => setF_cells hc i, h.notes.setOther h.ne _, h.early.keeps (hk (fun k _ => k = bm) (fun _ => rfl)) (fun k o hs e => hs.2.1 e), h.inM, h.inN, fun k hk2 => Nat.lt_of_lt_of_le (h.lt k hk2) (hk (InF F) (fun _ => h.inM)).size⟩, hk _ (fun _ => h.inM)⟩)

theorem entered61 : Entered 61 := fun _ _ => by kernel_rfl

theorem three_new (w : World) (a b c : Value) (s t u : TypeId) : ∃ W, ((w.alloc (.cells #[a] s)).alloc (.cells #[b] t)).alloc (.cells #[c] u) = W ∧ Grew w W ∧ W.cell? ⟨w.heap.size, 0, none⟩ = some a ∧ W.cell? ⟨w.heap.size + 1, 0, none⟩ = some b ∧ W.cell? ⟨w.heap.size + 1 + 1, 0, none⟩ = some c ∧ w.heap.size + 1 + 1 < W.heap.size :=
  ⟨_, rfl, grew_alloc (grew_alloc (grew_alloc (grew_refl _) _) _) _, by go_simp, by go_simp, by go_simp, by simp⟩

theorem cell_inF {w w' : World} {F : Nat → Prop} {W : World} {bm : Nat} {M : Mem} {b o : Nat} {v : Value} (hm : IsMem W bm M F) (hk : Keeps (InF F) w w') (hb : W.heap.size ≤ b) (hc : w.cell? ⟨b, o, none⟩ = some v) : w'.cell? ⟨b, o, none⟩ = some v := by
  obtain ⟨bn, sv, hm⟩ := hm
  have hlt := World.block_lt_of_cell? w _ hc
  have ho : w.heap[b]? = some w.heap[b] := Array.getElem?_eq_getElem hlt
  exact cell_of_obj ho (hk.obj b _ ho (fun e => by have := hm.lt b e; omega)) hc

theorem still_of {P : Program} {f : FuncId} {args : Array Value} {w : World} {v : Value} (h : Calls P f args w fun e w' => e = .returned v ∧ w = w') : Calls P f args w fun e w' => e = .returned v ∧ w' = w :=
  h.mono fun _ _ ⟨a, b⟩ => ⟨a, b.symm⟩

theorem isMem_heap {w w' : World} {bm : Nat} {M : Mem} {F : Nat → Prop} (he : w'.heap = w.heap) (h : IsMem w bm M F) : IsMem w' bm M F := by
  obtain ⟨bn, sv, h⟩ := h
  refine ⟨bn, sv, h.row.of_block (by rw [he]), h.notes.of_block (by rw [he]), ?_, h.inM, h.inN, fun k hk => by rw [he]; exact h.lt k hk⟩
  obtain ⟨a, c, e, hl, hc⟩ := h.early
  exact ⟨a, c, e, hl, fun i hi => by
    obtain ⟨b, off, o, e1, e2, e3, e4⟩ := hc i hi
    exact ⟨b, off, o, e1, by rw [he]; exact e2, e3, by simp only [World.cell?, he] at e4 ⊢; exact e4⟩⟩

set_option maxHeartbeats 1000000 in
set_option maxRecDepth 20000 in
theorem write28_any (bm : Nat) (M : Mem) (F : Nat → Prop) (c n : Int) (w : World) (h : IsMem w bm M F) (hok : Ok M) (hsz : M.size < 1000000000) :
    Calls Tryz.prog 28 #[ptr bm, .int .i64 c, .int .i64 n] w (Left w bm (M.write c n) F) := by
  obtain ⟨W1, hW1, g1, k0, k1, k2, hz⟩ := three_new w (ptr bm) (.int .i64 c) (.int .i64 n) 35 3 3
  have HIC := hid (isCell59_any c)
  have HIN := hid (isNumber60_any n)
  have HG1 := hid g1
  have hdo : ∀ W2, W2.heap = W1.heap → (isCell c && isNum n) = true → Does bm M F 61 #[ptr (w.heap.size + 1 + 1), ptr w.heap.size, ptr (w.heap.size + 1)] (Mem.setF c.toNat n) W2 := by
    intro W2 he hr w2 hm _ hk
    rw [Bool.and_eq_true, isCell_iff] at hr
    have hl : ∀ b v, W1.cell? ⟨b, 0, none⟩ = some v → w.heap.size ≤ b → w2.cell? ⟨b, 0, none⟩ = some v := fun b v hv hb => cell_inF h hk hb (by simp only [World.cell?, he] at hv ⊢; exact hv)
    exact do61_any bm (tick M) F c.toNat n _ _ _ w2 hm (by omega) (hl _ _ k0 (Nat.le_refl _)) (by rw [Int.toNat_of_nonneg hr.1.1]; exact hl _ _ k1 (by omega)) (hl _ _ k2 (by omega))
  have HD := hid (fun (W2 : World) (he : W2.heap = W1.heap) => done58_any bm M F (isCell c && isNum n) 61 #[ptr (w.heap.size + 1 + 1), ptr w.heap.size, ptr (w.heap.size + 1)] _ W2 (isMem_heap he (h.grew g1)) hok hsz entered61 (hdo W2 he))
  have HM := hid (h.grew g1)
  unfold Mem.write
  obtain ⟨x, hx⟩ : ∃ x, isCell c = x := ⟨_, rfl⟩
  obtain ⟨y, hy⟩ : ∃ y, isNum n = y := ⟨_, rfl⟩
  rw [hx] at HIC HD ⊢
  rw [hy] at HIN HD ⊢
  have HMM := hid h
  clear hdo h hok hx hy g1
  cases x
  · simp only [Bool.false_and] at HD ⊢
    go_enter Tryz.func28, Tryz.ntmps28
    go_wp2
    refine wp_region_still_tail 8 (by kernel_rfl) (by kernel_rfl) ?_
    simp only [List.take_succ_cons, List.take_zero, List.drop_succ_cons, List.drop_zero]
    repeat (refine wpStill_step (fun K hK => ?_); go_simp; (first | (with_reducible refine hK _ ?_)| (with_reducible refine ⟨_, still_of (HIC.out _), hK _ ?_⟩) | (with_reducible refine ⟨_, still_of (HIN.out _), hK _ ?_⟩)); clear hK K)
    refine wpStill_nil ?_
    change wpList _ _ _ _ _ W1.drew
    go_wp2_with (go_at_call 58; (with_reducible refine (HD.out _ (heap_drew _)).mono ?_); rintro e w1 ⟨rfl, hm, hk⟩; have HM1 := hid hm; have HK1 := hid hk; clear hm hk)
    go_ret
    exact ⟨rfl, HM1.out, ((HG1.out.keeps).drew).trans HK1.out⟩
  · simp only [Bool.true_and] at HD ⊢
    cases y
    all_goals
      go_enter Tryz.func28, Tryz.ntmps28
      go_wp2
      refine wp_region_still_tail 8 (by kernel_rfl) (by kernel_rfl) ?_
      simp only [List.take_succ_cons, List.take_zero, List.drop_succ_cons, List.drop_zero]
      repeat (refine wpStill_step (fun K hK => ?_); go_simp; (first | (with_reducible refine hK _ ?_)| (with_reducible refine ⟨_, still_of (HIC.out _), hK _ ?_⟩) | (with_reducible refine ⟨_, still_of (HIN.out _), hK _ ?_⟩)); clear hK K)
      refine wpStill_nil ?_
      change wpList _ _ _ _ _ W1.drew
      go_wp2_with (go_at_call 58; (with_reducible refine (HD.out _ (heap_drew _)).mono ?_); rintro e w1 ⟨rfl, hm, hk⟩; have HM1 := hid hm; have HK1 := hid hk; clear hm hk)
      go_ret
      exact ⟨rfl, HM1.out, ((HG1.out.keeps).drew).trans HK1.out⟩

/-! ### Flush -/

theorem memIs_map {w w' : World} {bm bn : Nat} {sv : Value} {M M' : Mem} {F : Nat → Prop} (h : MemIs w bm bn sv M F) (hg : w.grownBy w' (some bn)) (hn : NMap w' Tryz.prog 3 3 bn M'.steps M'.notes) (hc : ∀ i, memAt M bn sv i = memAt M' bn sv i) (he : M.early = M'.early) :
    MemIs w' bm bn sv M' F ∧ Keeps (InF F) w w' := by
  have hk : ∀ may : Nat → Obj → Prop, (∀ o, may bn o) → Keeps may w w' := fun may hm => (Keeps.refl _ w).grown hg (fun k o e _ => by cases e; exact hm o)
  refine ⟨⟨(h.row.of_block (hg.block _ h.row.lt (fun e => h.ne (by cases e; rfl)))).congr fun i _ => hc i, hn, ?_, h.inM, h.inN, fun k hk2 => Nat.lt_of_lt_of_le (h.lt k hk2) (hk (InF F) (fun _ => h.inN)).size⟩, hk _ (fun _ => h.inN)⟩
  rw [← he]
  exact h.early.keeps (hk (fun k _ => k = bn) (fun _ => rfl)) (fun k o hs e => hs.2.2 e)

theorem wpList_note {P : Program} {w : World} {ops : Array Oper} {rest : List Oper} {o : Oper} {a : Act} {Q : Exit → Act → World → Prop} (hg : o.guard = none) (m x v : Operand) (t : TypeId) (hop : o.op = Op.mapUpdate t m x v)
    {kt et : TypeId} (hk : P.underlying kt = some (.int .i64)) (ht : P.underlying t = some (.map kt et)) (he : P.underlying et = some (.int .i64)) {b n : Nat} {S : Nat → Option Int} (hm : a.eval m = .map (some b)) (hown : NMap w P kt et b n S) (hn : n < maxLen)
    (c : Nat) (hc : c < 64) (hx : a.eval x = .int .i64 (c : Int)) (u : Int) (hv : a.eval v = .int .i64 u) (hu : (Lit.int .i64 u).wf = true)
    (hK : ∀ w', NMap w' P kt et b (n + 1) (upd S c (some u)) → w.grownBy w' (some b) → wpList P ops Q rest (a.put o.dst undef) w') : wpList P ops Q (o :: rest) a w := by
  refine wpList_plain hg fun K' hK' => ?_
  obtain ⟨w', hrun, r1, r2⟩ := hown.update hk ht he hn hc hu
  unfold Oper.wp
  simp [execOp, hop, hm, hx, hv, hrun, Result.andThen]
  exact hK' _ _ (hK w' r1 r2)

set_option maxHeartbeats 1000000 in
set_option maxRecDepth 20000 in
theorem do83_any (bm : Nat) (M : Mem) (F : Nat → Prop) (c : Nat) (b0 b1 : Nat) (w : World) (h : IsMem w bm (tick M) F) (hN : ∀ bn sv, MemIs w bm bn sv (tick M) F → NMap w Tryz.prog 3 3 bn M.steps M.notes) (hok : Ok M) (hsz : M.size < 1000000000) (hc : c < 64)
    (k0 : w.cell? ⟨b0, 0, none⟩ = some (ptr bm)) (k1 : w.cell? ⟨b1, 0, none⟩ = some (.int .i64 (c : Int))) :
    Calls Tryz.prog 83 #[ptr b0, ptr b1] w fun e w' => e = .returned (.tuple #[]) ∧ IsMem w' bm (Mem.noteF c (tick M)) F ∧ Keeps (InF F) w w' := by
  obtain ⟨bn, sv, h⟩ := h
  have HN := hid (hN bn sv h)
  have HH := hid h
  have cn := h.cN
  have cf := h.cF hc
  obtain ⟨f, hf⟩ : ∃ f, M.fresh c = f := ⟨_, rfl⟩
  have hf2 : (tick M).fresh c = f := hf
  rw [hf2] at cf
  have hfb := hok.fresh c
  rw [hf] at hfb
  have HF := hid hf
  have hcI : (c : Int) < 64 := by omega
  have hst : M.steps < 1000000000 := by unfold Mem.size at hsz; omega
  clear h hN hf hf2
  go_enter Tryz.func83, Tryz.ntmps83
  go_wp2
  go_still_tail 11, (by kernel_rfl)
  change wpList _ _ _ _ _ w.drew
  go_wp2_with (at_mapUpdate; refine wpList_note rfl _ _ _ 85 rfl Tryz.underlying3 Tryz.underlying85 Tryz.underlying3 rfl (show NMap w.drew _ _ _ _ _ _ from HN.out) (by unfold maxLen; omega) c hc rfl f rfl (WalkArith.wf_i64 (by omega)) ?_; intro w2 hn2 hg2; have HN2 := hid hn2; have HG2 := hid hg2; clear hn2 hg2)
  go_end0
  have hh := memIs_map (M' := Mem.noteF c (tick M)) (HH.out.keeps ((Keeps.refl (fun _ _ => False) w).drew) (fun _ _ _ h => h)) HG2.out (HN2.out.congr fun i => by unfold Mem.noteF; dsimp only; rw [HF.out]) (fun i => rfl) rfl
  exact ⟨rfl, ⟨bn, sv, hh.1⟩, ((Keeps.refl _ w).drew).trans hh.2⟩

theorem entered83 : Entered 83 := fun _ _ => by kernel_rfl

theorem two_new' (w : World) (a b : Value) (s t : TypeId) : ∃ W, (w.alloc (.cells #[a] s)).alloc (.cells #[b] t) = W ∧ Grew w W ∧ W.cell? ⟨w.heap.size, 0, none⟩ = some a ∧ W.cell? ⟨w.heap.size + 1, 0, none⟩ = some b ∧ w.heap.size + 1 < W.heap.size :=
  ⟨_, rfl, grew_alloc (grew_alloc (grew_refl _) _) _, by go_simp, by go_simp, by simp⟩

set_option maxHeartbeats 1000000 in
set_option maxRecDepth 20000 in
theorem flush42_any (bm : Nat) (M : Mem) (F : Nat → Prop) (c : Int) (w : World) (h : IsMem w bm M F) (hok : Ok M) (hsz : M.size < 1000000000) :
    Calls Tryz.prog 42 #[ptr bm, .int .i64 c] w (Left w bm (M.flush c) F) := by
  obtain ⟨W1, hW1, g1, k0, k1, hz⟩ := two_new' w (ptr bm) (.int .i64 c) 35 3
  have HIC := hid (isCell59_any c)
  have HG1 := hid g1
  have hdo : ∀ W2, W2.heap = W1.heap → isCell c = true → Does bm M F 83 #[ptr w.heap.size, ptr (w.heap.size + 1)] (Mem.noteF c.toNat) W2 := by
    intro W2 he hr w2 hm hN hk
    rw [isCell_iff] at hr
    have hl : ∀ b v, W1.cell? ⟨b, 0, none⟩ = some v → w.heap.size ≤ b → w2.cell? ⟨b, 0, none⟩ = some v := fun b v hv hb => cell_inF h hk hb (by simp only [World.cell?, he] at hv ⊢; exact hv)
    exact do83_any bm M F c.toNat _ _ w2 hm hN hok hsz (by omega) (hl _ _ k0 (Nat.le_refl _)) (by rw [Int.toNat_of_nonneg hr.1]; exact hl _ _ k1 (by omega))
  have HD := hid (fun (W2 : World) (he : W2.heap = W1.heap) => done58_any bm M F (isCell c) 83 #[ptr w.heap.size, ptr (w.heap.size + 1)] _ W2 (isMem_heap he (h.grew g1)) hok hsz entered83 (hdo W2 he))
  unfold Mem.flush
  obtain ⟨x, hx⟩ : ∃ x, isCell c = x := ⟨_, rfl⟩
  rw [hx] at HIC HD ⊢
  clear hdo h hok hx g1
  cases x
  all_goals
    go_enter Tryz.func42, Tryz.ntmps42
    go_wp2
    refine wp_region_still_tail 4 (by kernel_rfl) (by kernel_rfl) ?_
    simp only [List.take_succ_cons, List.take_zero, List.drop_succ_cons, List.drop_zero]
    repeat (refine wpStill_step (fun K hK => ?_); go_simp; (first | (with_reducible refine hK _ ?_)| (with_reducible refine ⟨_, still_of (HIC.out _), hK _ ?_⟩)); clear hK K)
    refine wpStill_nil ?_
    change wpList _ _ _ _ _ W1.drew
    go_wp2_with (go_at_call 58; (with_reducible refine (HD.out _ (heap_drew _)).mono ?_); rintro e w1 ⟨rfl, hm, hk⟩; have HM1 := hid hm; have HK1 := hid hk; clear hm hk)
    go_ret
    exact ⟨rfl, HM1.out, ((HG1.out.keeps).drew).trans HK1.out⟩

/-! ### Fence -/

/-- The kept numbers, once all notes are carried out but those that are still to come. -/
def doneK (M : Mem) (left : Lit → Bool) : Nat → Int := fun i => match M.notes i with
  | some v => if left (.int .i64 (i : Int)) = true then M.kept i else v
  | none => M.kept i

theorem kept_cells {M : Mem} {bn : Nat} {sv : Value} {K K' : Nat → Int} {c : Nat} {n : Int} (hc : c < 64) (hK : ∀ i, K' i = if i = c then n else K i) (i : Nat) :
    (if i = 65 + c then .int .i64 n else memAt { M with kept := K } bn sv i) = memAt { M with kept := K' } bn sv i := by
  unfold memAt
  by_cases e : i = 65 + c
  · subst e
    rw [if_pos rfl, if_neg (by omega), if_neg (by omega), if_pos (by omega)]
    dsimp only
    rw [hK, if_pos (by omega)]
  · rw [if_neg e]
    by_cases h1 : i < 65
    · by_cases h0 : i = 0
      · rw [if_pos h0, if_pos h0]
      · rw [if_neg h0, if_neg h0, if_pos h1, if_pos h1]
    · have h0 : i ≠ 0 := by omega
      by_cases h2 : i < 129
      · rw [if_neg h0, if_neg h1, if_pos h2, if_neg h0, if_neg h1, if_pos h2]
        dsimp only
        rw [hK, if_neg (by omega)]
      · rw [if_neg h0, if_neg h1, if_neg h2, if_neg h0, if_neg h1, if_neg h2]

theorem grownBy_set {w : World} {b i : Nat} (v : Value) : w.grownBy (w.setCell ⟨b, i, none⟩ v) (some b) :=
  ⟨rfl, rfl, rfl, by simp, fun k _ hk => heap_setCell_other _ _ _ _ (fun e => hk (by rw [e]))⟩

set_option maxHeartbeats 2000000 in
set_option maxRecDepth 20000 in
theorem do84_any (bm : Nat) (M : Mem) (F : Nat → Prop) (b0 : Nat) (w : World) (h : IsMem w bm M F) (hb0 : ¬ F b0)
    (k0 : w.cell? ⟨b0, 0, none⟩ = some (ptr bm)) :
    Calls Tryz.prog 84 #[ptr b0] w fun e w' => e = .returned (.tuple #[]) ∧ IsMem w' bm (Mem.fenceF M) F ∧ Keeps (InF F) w w' := by
  obtain ⟨bn, sv, h⟩ := h
  have HH := hid h
  have cn := h.cN
  have hne := h.ne
  obtain ⟨D, hown, hD, hS⟩ := h.notes
  have hlt := hown.lt
  have hb0w := World.block_lt_of_cell? w _ k0
  have hbmw := h.row.lt
  have HD := hid hD; have HS := hid hS; have HNE := hid hne
  have law : Maps.Keyed Tryz.prog 3 := Maps.int_keyed Tryz.underlying3
  have HO := hid hown
  have hb0m : b0 ≠ bm := fun e => hb0 (e ▸ HH.out.inM)
  clear h hD hS hne hown
  go_enter Tryz.func84, Tryz.ntmps84
  go_wp2_with (at_range; refine wpList_range_own _ rfl _ 85 rfl 3 3 law Tryz.underlying85 _ bn M.steps D rfl HO.out ?_; intro w0 hrg0 hg0 hs0; have HRG0 := hid hrg0; have HG0 := hid hg0; have HS0 := hid hs0; clear hrg0 hg0 hs0)
  go_loopg [1, 2] (Maps.size D) (fun gk _ _ wr => ∃ left, Hid (wr.ranges Tryz.prog 3 (plainElem Tryz.prog 3) bn w.heap.size M.steps D left gk) ∧ Hid (wr.rowIs bm 89 135 (memAt { M with kept := doneK M left } bn sv)) ∧ Hid (Keeps (fun k _ => k = bm) w wr))
  case atStart =>
    refine ⟨Maps.has D, HRG0, hid ((HH.out.row.of_block (HG0.out.block _ HH.out.row.lt (by simp))).congr fun i _ => ?_), hid ((Keeps.refl _ w).grown HG0.out (fun k o e _ => by cases e))⟩
    have : doneK M (Maps.has D) = M.kept := by
      funext j
      unfold doneK
      cases e : M.notes j with
      | none => rfl
      | some v => exact if_pos (by rw [(HS.out j).1, e]; rfl)
    rw [this]
  case round =>
    obtain ⟨left, HRG, HR, HK⟩ := hrel
    rename World => wr
    clear HRG0 HG0 HS0
    have kb := cell_of_obj (Array.getElem?_eq_getElem hb0w) (HK.out.obj b0 _ (Array.getElem?_eq_getElem hb0w) hb0m) k0
    go_wp2_with (at_next; refine wpList_next_ranges_ii _ rfl _ rfl 3 3 .i64 .i64 law Tryz.underlying3 Tryz.underlying3 bn w.heap.size M.steps D _ _ rfl HRG.out ?_ ?_)
    · intro _ hl0
      have hNm : NMap wr Tryz.prog 3 3 bn M.steps M.notes := ⟨D, HRG.out.owns, HD.out, HS.out⟩
      obtain ⟨w2, hcl, hn2, hg2, hz2⟩ := hNm.clear Tryz.underlying85
      have hr1 : wr.rowIs bm 89 135 (memAt { M with kept := fenced M } bn sv) := by
        have : doneK M left = fenced M := by
          funext j
          unfold doneK fenced
          cases e : M.notes j with
          | none => rfl
          | some v => exact if_neg (by rw [hl0]; decide)
        rw [← this]; exact HR.out
      have cn := hr1.cell (i := 129) (by omega)
      rw [show memAt { M with kept := fenced M } bn sv 129 = .map (some bn) by rfl] at cn
      have HR1 := hid hr1; have HN2 := hid hn2; have HG2 := hid hg2; have HZ2 := hid hz2
      clear hl0 hNm hr1 hn2 hg2 hz2
      go_wp2
      go_end0
      have h := HH.out
      refine ⟨rfl, ⟨bn, sv, (HR1.out.of_block (HG2.out.block _ HR1.out.lt (fun e => HNE.out (by cases e; rfl)))).congr fun i _ => rfl, HN2.out.mono (Nat.zero_le _), ?_, h.inM, h.inN, fun k hk => ?_⟩, ?_⟩
      · refine (h.early.keeps HK.out (fun k o hs e => hs.2.1 e)).keeps ((Keeps.refl (fun k _ => k = bn) _).grown HG2.out (fun k o e _ => by cases e; rfl)) (fun k o hs e => hs.2.2 e)
      · have := h.lt k hk; have := HK.out.size; rw [HZ2.out]; omega
      · exact (HK.out.mono (fun k o e => by rw [e]; exact h.inM)).grown HG2.out (fun k o e _ => by cases e; exact h.inN)
    · intro x c w1 cnt1 hwx hwc hlx hat hrg1 hlt1 hg1 hs1 hen
      obtain ⟨ci, hci, hxe⟩ := HD.out _ (Maps.has_true_of_atKey hat)
      cases hxe
      have hcI : (ci : Int) < 64 := by omega
      have hS := HS.out ci
      rw [Maps.has_true_of_atKey hat] at hS
      obtain ⟨u, hu⟩ := Option.isSome_iff_exists.1 hS.1.symm
      have huc : c = u := by
        have h1 := hS.2 u hu (.lit (.int .i64 0))
        rw [hat] at h1
        cases h1; rfl
      subst huc
      have hr1 : w1.rowIs bm 89 135 (memAt { M with kept := doneK M left } bn sv) := HR.out.of_block (hg1.block _ HR.out.lt (fun e => by cases e; omega))
      have hk1 : Keeps (fun k _ => k = bm) w w1 := ⟨hg1.os.trans HK.out.os, hg1.tape.trans HK.out.tape, hg1.output.trans HK.out.output, Nat.le_trans HK.out.size hg1.size, fun k o ho hn => by
        have h1 := HK.out.obj k o ho hn
        have hl := lt_of_obj ho
        exact (hg1.block k (lt_of_obj h1) (fun e => by cases e; omega)).trans h1⟩
      have kb1 := cell_of_obj (Array.getElem?_eq_getElem hb0w) (hk1.obj b0 _ (Array.getElem?_eq_getElem hb0w) hb0m) k0
      have cc := hr1.cell (i := 65 + ci) (by omega)
      have fc := hr1.frozen (65 + ci)
      have HU := hid hu; have HR1 := hid hr1; have HK1 := hid hk1; have HRG1 := hid hrg1; have HL1 := hid hlt1
      clear hat hS hu hr1 hk1 hrg1 hlt1 hg1 hs1 hlx HR HK HRG kb
      go_wp2
      go_roundg cnt1
      case measure => exact HL1.out
      case rel =>
        refine ⟨_, hid (HRG1.out.kept (grownBy_set _) (fun e => HNE.out (by cases e; rfl)) (fun e => by cases e; omega)), hid ((HR1.out.set (65 + ci) (.int .i64 c)).congr fun i _ => kept_cells hci (fun j => ?_) i), hid (HK1.out.trans (keeps_set1 _ _ fun _ => rfl))⟩
        unfold doneK
        by_cases e : j = ci
        · subst e
          rw [if_pos rfl, HU.out]
          dsimp only
          rw [if_neg]
          simp [WideAt.sameKey_self (law.key (Maps.keyOf_int_mk Tryz.underlying3 hwx))]
        · rw [if_neg e]
          cases M.notes j with
          | none => rfl
          | some v =>
            dsimp only
            simp [Maps.sameKey_ne (a := Lit.int .i64 (j : Int)) (b := Lit.int .i64 (ci : Int)) (fun h => e (by cases h; rfl))]

theorem entered84 : Entered 84 := fun _ _ => by kernel_rfl

set_option maxHeartbeats 1000000 in
set_option maxRecDepth 20000 in
theorem fence43_any (bm : Nat) (M : Mem) (F : Nat → Prop) (w : World) (h : IsMem w bm M F) (hok : Ok M) (hsz : M.size < 1000000000) :
    Calls Tryz.prog 43 #[ptr bm] w (Left w bm M.fence F) := by
  obtain ⟨W1, hW1, g1, k0, hz⟩ := box1 w (ptr bm) 35
  have HG1 := hid g1
  have hnF : ¬ F w.heap.size := fun e => by obtain ⟨bn, sv, h⟩ := h; have := h.lt _ e; omega
  have hdo : Does bm M F 84 #[ptr w.heap.size] Mem.fenceF W1 := by
    intro w2 hm _ hk
    exact do84_any bm (tick M) F w.heap.size w2 hm hnF (cell_inF h hk (Nat.le_refl _) k0)
  have HD := hid (done58_any bm M F true 84 #[ptr w.heap.size] _ W1 (h.grew g1) hok hsz entered84 (fun _ => hdo))
  unfold Mem.fence
  clear hdo h hok g1
  go_enter Tryz.func43, Tryz.ntmps43
  go_wp2_with (go_at_call 58; (with_reducible refine HD.out.mono ?_); rintro e w1 ⟨rfl, hm, hk⟩; have HM1 := hid hm; have HK1 := hid hk; clear hm hk)
  go_ret
  exact ⟨rfl, HM1.out, (HG1.out.keeps).trans HK1.out⟩

end Go.Proofs.YtmohnddglmolgaaGreatDoor
