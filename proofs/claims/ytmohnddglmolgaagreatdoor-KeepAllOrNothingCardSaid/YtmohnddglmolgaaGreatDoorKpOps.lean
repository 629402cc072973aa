/- Walks: slices.Clone (52), New (17), Start (26), Fail (20), Crash (30). -/
import Derived.Test.YtmohnddglmolgaaGreatDoorKpWrite
import Derived.Deep.AppendSrc
namespace Go.Proofs.YtmohnddglmolgaaGreatDoor
open Go Go.RowKit Go.Lin Go.Lin.Kp

theorem Tryz.info3 : (Tryz.prog.info? 3).map (fun i => (i.zero, i.size, i.bytes)) = some (some (.int .i64 0), 1, 8) := by kernel_rfl
set_option maxHeartbeats 1000000 in
set_option maxRecDepth 20000 in
theorem clone_any (v : Value) (n : Nat) (f : Nat → Value) (w : World) (hn : n ≤ 1000000) (hv : Reads Any w v n f) (h1 : ∀ i, (f i).oneCell' = true) :
    Calls Tryz.prog 52 #[v] w fun e w' => ∃ u, e = .returned u ∧ Seg w' w.heap.size 3 1 u n ((List.range n).map f) ∧ Grew w w' := by
  obtain ⟨a, cap, rfl, hm, hc⟩ := hv
  have HC := hid hc; clear hc
  rcases a with _ | ad
  · have h0 : n = 0 := by
      rcases Nat.eq_zero_or_pos n with h | h
      · exact h
      · obtain ⟨_, _, _, h2, _⟩ := HC.out 0 h; cases h2
    subst h0
    have hnil := fun w => Lib.run_eql_slice_nil (P := Tryz.prog) w 39 3 none 0 cap 0 0 Tryz.underlying39
    go_enter Tryz.func52, Tryz.ntmps52
    go_wp2
    go_ret
    exact ⟨.slice none 0 0, rfl, Seg.nil _ _ _ _, grew_refl _⟩
  · have hnil := fun w => Lib.run_eql_slice_nil (P := Tryz.prog) w 39 3 (some ad) n cap 0 0 Tryz.underlying39
    obtain ⟨i0, hi, hz0, hz1, hz2⟩ := info_parts Tryz.info3
    have hsrc : Src Tryz.prog 1 39 (.slice (some ad) n cap) n ((List.range n).map f) (w.alloc (.cells #[] 3)) := by
      refine Src.ofSlice _ Tryz.underlying39 ad n cap _ (by simp) ?_ ?_
      · intro j u hj
        have hjn : j < n := by have := (List.getElem?_eq_some_iff.1 hj).1; simpa using this
        simp only [List.getElem?_map, List.getElem?_range hjn, Option.map_some, Option.some.injEq] at hj
        obtain ⟨b, off, o, h2, h3, _, h5⟩ := HC.out j hjn
        cases h2
        rw [Addr.add_lit, World.cell?_alloc_lt (a := ⟨b, off + j, none⟩) _ _ (lt_of_obj h3), h5, hj]
      · intro u hu
        obtain ⟨i, _, rfl⟩ := List.mem_map.1 hu
        exact h1 i
    have hseg : Seg (w.alloc (.cells #[] 3)) w.heap.size 3 1 (.slice (some ⟨w.heap.size, 0, none⟩) 0 0) 0 [] :=
      ⟨by simp, .inr ⟨w.heap.size, 0, 0, #[], rfl, Nat.le_refl _, heap_alloc_new w _, Nat.le_refl _, by unfold maxLen; omega, by simp, by simp⟩⟩
    have HSRC := hid hsrc; clear hsrc
    have HSEG := hid hseg; clear hseg
    clear HC
    go_enter Tryz.func52, Tryz.ntmps52
    go_wp2_with (at_builtin; refine wpList_append_seg rfl _ _ 39 39 rfl w.heap.size 3 i0 (.int .i64 0) 1 8 Tryz.underlying39 hi hz0 hz1 hz2 rfl _ 0 [] rfl HSEG.out _ rfl n _ HSRC.out (by unfold maxLen; omega) (by omega) ?_ ?_; simp; intro v1 w1 hown1 hgrow1 hblk1)
    go_ret
    have hg : Grew w w1 := ((grew_refl w).alloc (Nat.le_refl _) _).grown hgrow1 (by simp) (fun k e => by cases e; exact Nat.le_refl _)
    exact ⟨v1, rfl, by simpa using hown1, hg⟩

theorem range_nth (x : List Int) (n : Nat) (hn : x.length = n) : (List.range n).map (fun i => Value.int .i64 (nth x i)) = x.map (.int .i64) := by
  subst hn
  apply List.ext_getElem?
  intro i
  by_cases h : i < x.length
  · simp [nth_lt h, h]
  · simp [h]

theorem clone_ints (v : Value) (n : Nat) (x : List Int) (w : World) (hn : x.length = n) (hl : n ≤ 1000000) (hv : IsInts Any w v x) :
    Calls Tryz.prog 52 #[v] w fun e w' => ∃ u, e = .returned u ∧ Seg w' w.heap.size 3 1 u n (x.map (.int .i64)) ∧ Grew w w' := by
  have := clone_any v n (fun i => .int .i64 (nth x i)) w hl (by rw [← hn]; exact hv) (fun _ => rfl)
  rw [range_nth x n hn] at this
  exact this


theorem new_cells (k : Nat) : (Tryz.zeroCells89.setIfInBounds 0 (.bool true)).setIfInBounds 129 (.map (some k)) = ((List.range 135).map (memAt Mem.new k (.slice none 0 0))).toArray := by kernel_rfl

theorem rowIs_list {w : World} {b n : Nat} {t : TypeId} {f : Nat → Value} {c : Array Value} (hb : w.heap[b]? = some (.cells c t (0, 0))) (hc : c = ((List.range n).map f).toArray) : w.rowIs b t n f :=
  ⟨c, hb, by rw [hc]; simp, fun i hi => by rw [hc]; simp [List.getElem?_range hi]⟩

theorem new17_any (w : World) : Calls Tryz.prog 17 #[] w fun e w' => e = .returned (ptr (w.heap.size + 1)) ∧ IsMem w' (w.heap.size + 1) Mem.new (fun k => k = w.heap.size ∨ k = w.heap.size + 1) ∧ Grew w w' := by
  have hmm := @run_makeMap Tryz.prog
  go_enter Tryz.func17, Tryz.ntmps17
  go_wp2
  go_ret
  refine ⟨rfl, ⟨w.heap.size, .slice none 0 0, rowIs_list (heap_alloc2_new w _ _) (new_cells _), (NMap.made w _ _ _).of_block (Deep.blk_alloc_lt _ _ _ (by simp)), Reads.nil _ _ _ _ _, .inr rfl, .inl rfl, ?_⟩, grew_alloc (grew_alloc (grew_refl _) _) _⟩
  rintro k (rfl | rfl)
  · simp only [World.size_alloc]; omega
  · simp only [World.size_alloc]; omega

/-! ### Start -/

theorem start26_none (v : Value) (w : World) (h : Calls Tryz.prog 57 #[v] w fun e w' => e = .returned (.bool true) ∧ w = w') : Calls Tryz.prog 26 #[v] w fun e w' => e = .returned (.int .i64 102) ∧ w = w' := by
  have HN := hid h
  clear h
  go_enter Tryz.func26, Tryz.ntmps26
  go_wp2_with (go_at_call 57; (with_reducible refine HN.out.mono ?_); rintro e w1 ⟨rfl, rfl⟩)
  go_ret
  exact ⟨rfl, rfl⟩

theorem keeps_setCells {b : Nat} (may : Nat → Obj → Prop) : ∀ (vs : List Value) {o : Nat} {w : World}, (∀ ob, may b ob) → Keeps may w (w.setCells b o vs)
  | [], _, _, _ => Keeps.refl _ _
  | v :: r, o, w, hm => by
    rw [World.setCells]
    exact (keeps_set1 v may hm).trans (keeps_setCells may r hm)

theorem NMap.setCells {P : Program} {kt et : TypeId} {b n g : Nat} {S : Nat → Option Int} (hb : b ≠ g) : ∀ (vs : List Value) {o : Nat} {w : World}, NMap w P kt et b n S → NMap (w.setCells g o vs) P kt et b n S
  | [], _, _, h => h
  | v :: r, o, w, h => by
    rw [World.setCells]
    exact NMap.setCells hb r (h.setOther hb v)

set_option maxHeartbeats 1000000 in
theorem start26_mem (bm : Nat) (M : Mem) (F : Nat → Prop) (w : World) (h : IsMem w bm M F) : Calls Tryz.prog 26 #[ptr bm] w (Left w bm (0, M.start) F) := by
  have HN := hid (none57_mem bm M F w h)
  have HM := hid h
  obtain ⟨bn, sv, h⟩ := h
  have HH := hid h
  have c0 := h.off
  have f0 := h.row.frozen 130
  clear h
  unfold Mem.start
  obtain ⟨o, ho⟩ : ∃ o, M.on = o := ⟨_, rfl⟩
  have HO := hid ho
  rw [ho] at c0 ⊢
  clear ho
  cases o with
  | true =>
    rw [if_pos rfl]
    go_enter Tryz.func26, Tryz.ntmps26
    go_wp2_with (go_at_call 57; (with_reducible refine HN.out.mono ?_); rintro e w1 ⟨rfl, rfl⟩)
    go_ret
    exact ⟨rfl, HM.out, Keeps.refl _ _⟩
  | false =>
    rw [if_neg (by decide)]
    have hra := rangeAt_row HH.out.row 65 64 (by omega) (fun i => .int .i64 (M.kept i)) (fun j hj => by unfold memAt; rw [if_neg (by omega), if_neg (by omega), if_pos (by omega), show 65 + j - 65 = j by omega])
    obtain ⟨cs, hcs⟩ : ∃ cs, (List.range 64).map (fun i => Value.int .i64 (M.kept i)) = cs := ⟨_, rfl⟩
    rw [hcs] at hra
    have hl : cs.length = 64 := by rw [← hcs]; simp
    have h1 : ∀ v ∈ cs, v.oneCell' = true := by
      intro v hv
      rw [← hcs] at hv
      obtain ⟨i, _, rfl⟩ := List.mem_map.1 hv
      rfl
    have HCS := hid hcs; have HL := hid hl; have H1 := hid h1
    have hsz : (Tryz.prog.info? 84).map (·.size) = some cs.length := by rw [hl]; kernel_rfl
    have hsz2 : (Tryz.prog.info? 84).map (·.size) = some cs.toArray.size := by rw [List.size_toArray, hl]; kernel_rfl
    have HSZ := hid hsz; have HSZ2 := hid hsz2
    have HRA := hid hra
    clear hcs hl h1 hsz hsz2
    have hth : (w.setCell ⟨bm, 130, none⟩ (.bool false)).there bm 1 cs.toArray.size := there_row (HH.out.row.set 130 _) 1 _ (by rw [List.size_toArray, HL.out]; omega)
    have HTH := hid hth
    clear hra hth
    go_enter Tryz.func26, Tryz.ntmps26
    go_wp2_with (first
      | (go_at_call 57; (with_reducible refine HN.out.mono ?_); rintro e w1 ⟨rfl, rfl⟩)
      | (refine wpList_load_mid rfl 84 _ rfl bm 65 rfl _ _ HRA.out Tryz.underlying84 rfl HSZ.out ?_)
      | (refine wpList_store_mid rfl 84 _ _ rfl bm 1 _ rfl rfl HTH.out HSZ2.out (all_oneCell_toArray H1.out) ?_))
    go_ret
    have h := HH.out
    have hk : ∀ may : Nat → Obj → Prop, (∀ o, may bm o) → Keeps may w ((w.setCell ⟨bm, 130, none⟩ (.bool false)).setCells bm 1 cs) := fun may hm => (keeps_set1 _ _ hm).trans (keeps_setCells _ cs hm)
    have hr := rowIs_setCells cs 1 (h.row.set 130 (.bool false))
    refine ⟨rfl, ⟨bn, sv, hr.congr fun i hi => ?_, (NMap.setCells h.ne cs (h.notes.setOther h.ne _)), h.early.keeps (hk (fun k _ => k = bm) (fun _ => rfl)) (fun k o hs e => hs.2.1 e), h.inM, h.inN, fun k hk2 => Nat.lt_of_lt_of_le (h.lt k hk2) (hk (InF F) (fun _ => h.inM)).size⟩, hk _ (fun _ => h.inM)⟩
    unfold memAt
    by_cases h0 : i = 0
    · subst h0; rfl
    · rw [if_pos (by omega), if_neg h0, if_neg h0]
      by_cases h65 : i < 65
      · rw [← HCS.out, List.getD_eq_getElem?_getD, List.getElem?_map, List.getElem?_range (by omega)]
        simp only [h65, if_true, Option.map_some, Option.getD_some]
      · rw [List.getD_eq_getElem?_getD, List.getElem?_eq_none (by rw [HL.out]; omega)]
        by_cases h1 : i < 129
        · rw [Option.getD_none, if_neg (by omega)]
          simp only [h65, h1, if_true, if_false]
        · have : i = 129 ∨ i = 130 ∨ i = 131 ∨ i = 132 ∨ i = 133 ∨ i = 134 := by omega
          rcases this with rfl | rfl | rfl | rfl | rfl | rfl <;> rfl

/-! ### Fail, Crash -/

theorem Reads.re' {S S' : Nat → Obj → Prop} {w : World} {v : Value} {n : Nat} {f : Nat → Value} (h : Reads S w v n f) (hs : ∀ k o, w.heap[k]? = some o → S k o → S' k o) : Reads S' w v n f := by
  obtain ⟨a, c, e, hl, hc⟩ := h
  exact ⟨a, c, e, hl, fun i hi => by
    obtain ⟨b, off, o, e1, e2, e3, e4⟩ := hc i hi
    exact ⟨b, off, o, e1, e2, hs b o e2 e3, e4⟩⟩

theorem memIs_plan {w : World} {bm bn : Nat} {sv sv' : Value} {M : Mem} {F : Nat → Prop} {k : Nat} {l : List Int} (h : MemIs w bm bn sv M F) (hv : IsInts (fun q _ => q ≠ bm ∧ q ≠ bn ∧ F q) w sv' l) :
    MemIs ((w.setCell ⟨bm, 131, none⟩ (.int .i64 (k : Int))).setCell ⟨bm, 132, none⟩ sv') bm bn sv' { M with plan := k, early := l } F ∧ Keeps (InF F) w ((w.setCell ⟨bm, 131, none⟩ (.int .i64 (k : Int))).setCell ⟨bm, 132, none⟩ sv') := by
  have hk : ∀ may : Nat → Obj → Prop, (∀ o, may bm o) → Keeps may w ((w.setCell ⟨bm, 131, none⟩ (.int .i64 (k : Int))).setCell ⟨bm, 132, none⟩ sv') := fun may hm => (keeps_set1 _ _ hm).trans (keeps_set1 _ _ hm)
  refine ⟨⟨((h.row.set 131 _).set 132 _).congr fun i hi => ?_, (h.notes.setOther h.ne _).setOther h.ne _, (hv.keeps (hk (fun q _ => q = bm) (fun _ => rfl)) (fun q o hs e => hs.1 e)).mono (fun q o hs => ⟨hs.2.2, hs.1, hs.2.1⟩), h.inM, h.inN, fun q hq => Nat.lt_of_lt_of_le (h.lt q hq) (hk (InF F) (fun _ => h.inM)).size⟩, hk _ (fun _ => h.inM)⟩
  unfold memAt
  by_cases h1 : i < 129
  · rw [if_neg (by omega), if_neg (by omega)]; simp only [h1, if_true]
  · have : i = 129 ∨ i = 130 ∨ i = 131 ∨ i = 132 ∨ i = 133 ∨ i = 134 := by omega
    rcases this with rfl | rfl | rfl | rfl | rfl | rfl <;> rfl

/-- More blocks are a memory's. -/
theorem MemIs.wide {w : World} {bm bn : Nat} {sv : Value} {M : Mem} {F F' : Nat → Prop} (h : MemIs w bm bn sv M F) (hF : ∀ k, F k → F' k) (hl : ∀ k, F' k → k < w.heap.size) : MemIs w bm bn sv M F' :=
  ⟨h.row, h.notes, h.early.mono (fun k _ hs => ⟨hF k hs.1, hs.2⟩), hF _ h.inM, hF _ h.inN, hl⟩

/-- The memory's blocks behind a call: those that it had, and new ones. -/
abbrev Wider (w : World) (F F' : Nat → Prop) : Prop := ∀ k, F' k → F k ∨ w.heap.size ≤ k

set_option maxHeartbeats 1000000 in
theorem fail20_any (bm : Nat) (M : Mem) (F : Nat → Prop) (k : Int) (v : Value) (l : List Int) (w : World) (h : IsMem w bm M F) (hv : IsInts Any w v l) :
    Calls Tryz.prog 20 #[ptr bm, .int .i64 k, v] w fun e w' => e = .returned (.int .i64 (M.planned k l).1) ∧ Keeps (InF F) w w' ∧ ∃ F', IsMem w' bm (M.planned k l).2 F' ∧ Wider w F F' := by
  have HM := hid h
  have HV := hid hv
  have HB := hid (fun (W : World) => between54_any 1 k 1000 W)
  have HE := hid (areEarly55_any v l w hv)
  have HA := hid (asked53_mem bm M F (mayPlan k l) w h)
  obtain ⟨b, hb⟩ : ∃ b, (decide (1 ≤ k) && decide (k ≤ 1000)) = b := ⟨_, rfl⟩
  obtain ⟨c, hc⟩ : ∃ c, areEarly l = c := ⟨_, rfl⟩
  have hmp : mayPlan k l = (b && c) := by unfold mayPlan; rw [hb, hc]
  unfold Mem.planned
  rw [hmp] at HA ⊢
  rw [hb] at HB
  rw [hc] at HE
  unfold askM at HA
  obtain ⟨o, ho⟩ : ∃ o, M.on = o := ⟨_, rfl⟩
  rw [ho] at HA ⊢
  have hlen : c = true → l.length ≤ 10 := by
    intro e
    rw [e] at hc
    unfold areEarly at hc
    rw [Bool.and_eq_true] at hc
    simpa using hc.1
  have hk0 : b = true → 1 ≤ k ∧ k ≤ 1000 := by
    intro e
    rw [e, Bool.and_eq_true] at hb
    simpa using hb
  have HO := hid ho
  clear hb hc hmp ho h hv
  cases b with
  | false =>
    simp only [Bool.false_and, Bool.false_eq_true, if_false] at HA ⊢
    clear hlen hk0
    go_enter Tryz.func20, Tryz.ntmps20
    go_wp2_with (first
      | (go_at_call 54; (with_reducible refine (HB.out _).mono ?_); rintro e w1 ⟨rfl, rfl⟩)
      | (go_at_call 55; (with_reducible refine HE.out.mono ?_); rintro e w1 ⟨rfl, rfl⟩)
      | (go_at_call 53; (with_reducible refine HA.out.mono ?_); rintro e w1 ⟨rfl, rfl⟩))
    go_ret
    exact ⟨rfl, Keeps.refl _ _, F, HM.out, fun k h => .inl h⟩
  | true =>
    cases c with
    | false =>
      simp only [Bool.and_false, Bool.false_eq_true, if_false] at HA ⊢
      clear hlen hk0
      go_enter Tryz.func20, Tryz.ntmps20
      go_wp2_with (first
        | (go_at_call 54; (with_reducible refine (HB.out _).mono ?_); rintro e w1 ⟨rfl, rfl⟩)
        | (go_at_call 55; (with_reducible refine HE.out.mono ?_); rintro e w1 ⟨rfl, rfl⟩)
        | (go_at_call 53; (with_reducible refine HA.out.mono ?_); rintro e w1 ⟨rfl, rfl⟩))
      go_ret
      exact ⟨rfl, Keeps.refl _ _, F, HM.out, fun k h => .inl h⟩
    | true =>
      cases o with
      | false =>
        simp only [Bool.true_and, Bool.false_eq_true, if_true, if_false] at HA ⊢
        clear hlen hk0
        go_enter Tryz.func20, Tryz.ntmps20
        go_wp2_with (first
          | (go_at_call 54; (with_reducible refine (HB.out _).mono ?_); rintro e w1 ⟨rfl, rfl⟩)
          | (go_at_call 55; (with_reducible refine HE.out.mono ?_); rintro e w1 ⟨rfl, rfl⟩)
          | (go_at_call 53; (with_reducible refine HA.out.mono ?_); rintro e w1 ⟨rfl, rfl⟩))
        go_ret
        exact ⟨rfl, Keeps.refl _ _, F, HM.out, fun k h => .inl h⟩
      | true =>
        simp only [Bool.true_and, if_true] at HA ⊢
        have hl := hlen rfl
        obtain ⟨h1, h2⟩ := hk0 rfl
        clear hlen hk0
        obtain ⟨kn, rfl⟩ : ∃ kn : Nat, k = (kn : Int) := ⟨k.toNat, by omega⟩
        simp only [Int.toNat_natCast]
        obtain ⟨bn, sv, h⟩ := HM.out
        have HH := hid h
        have HCL := hid (clone_ints v l.length l w rfl (by omega) HV.out)
        have cP := h.cP; have cE := h.cE; have fP := h.row.frozen 131; have fE := h.row.frozen 132
        have hbm := h.row.lt
        clear h hl h1 h2
        go_enter Tryz.func20, Tryz.ntmps20
        go_wp2_with (first
          | (go_at_call 54; (with_reducible refine (HB.out _).mono ?_); rintro e w1 ⟨rfl, rfl⟩)
          | (go_at_call 55; (with_reducible refine HE.out.mono ?_); rintro e w1 ⟨rfl, rfl⟩)
          | (go_at_call 53; (with_reducible refine HA.out.mono ?_); rintro e w1 ⟨rfl, rfl⟩)
          | (go_at_call 52; (with_reducible refine HCL.out.mono ?_); rintro e w2 ⟨u, rfl, hs, hg⟩; have HSG := hid hs; have HG := hid hg; obtain ⟨ua, uc, rfl, hul⟩ := hs.shape; have hm2 := HH.out.grew hg; have cP2 := hm2.cP; have cE2 := hm2.cE; have fP2 := hm2.row.frozen 131; have fE2 := hm2.row.frozen 132; have HM2 := hid hm2; clear hm2 hs hg hul))
        go_ret
        have hint := HSG.out.isInts
        have hres := memIs_plan (F := fun q => F q ∨ (w.heap.size ≤ q ∧ q < w2.heap.size)) (k := kn) (l := l) (HM2.out.wide (fun q h => .inl h) (fun q hq => by rcases hq with h | h; exact HM2.out.lt q h; exact h.2)) (sv' := .slice ua l.length uc) ?_
        · rw [HO.out] at hres
          refine ⟨rfl, ?_, fun q => F q ∨ (w.heap.size ≤ q ∧ q < w2.heap.size), ⟨bn, _, hres.1⟩, fun q hq => Or.imp id (fun h => h.1) hq⟩
          exact HG.out.keeps.trans ((keeps_set1 _ _ (fun _ => HH.out.inM)).trans (keeps_set1 _ _ (fun _ => HH.out.inM)))
        · refine Reads.re' hint (fun q _ ho hs => ?_)
          have hq := hs.1
          have := HH.out.lt _ HH.out.inM
          have := HH.out.lt _ HH.out.inN
          exact ⟨by omega, by omega, .inr ⟨hq, lt_of_obj ho⟩⟩

set_option maxHeartbeats 1000000 in
theorem crash30_any (bm : Nat) (M : Mem) (F : Nat → Prop) (v : Value) (l : List Int) (S : Nat → Obj → Prop) (w : World) (h : IsMem w bm M F) (hsz : M.size < 1000000000) (hv : IsInts S w v l) (hS : ∀ k o, S k o → k ≠ bm) :
    Calls Tryz.prog 30 #[ptr bm, v] w (Left w bm (M.crash l) F) := by
  have HM := hid h
  have HE := hid (areEarly55_any v l w (hv.mono fun _ _ _ => trivial))
  have HA := hid (asked53_mem bm M F (areEarly l) w h)
  have HF := hid (fun (he : areEarly l = true) => fail63_any bm M F v l S w h (by unfold Mem.size at hsz; omega) he hv hS)
  unfold Mem.crash
  unfold askM at HA
  obtain ⟨c, hc⟩ : ∃ c, areEarly l = c := ⟨_, rfl⟩
  obtain ⟨o, ho⟩ : ∃ o, M.on = o := ⟨_, rfl⟩
  rw [hc] at HE HA HF ⊢
  rw [ho] at HA ⊢
  clear hc ho h hv hS hsz
  cases c with
  | false =>
    simp only [Bool.false_eq_true, if_false] at HA ⊢
    clear HF
    go_enter Tryz.func30, Tryz.ntmps30
    go_wp2_with (first
      | (go_at_call 55; (with_reducible refine HE.out.mono ?_); rintro e w1 ⟨rfl, rfl⟩)
      | (go_at_call 53; (with_reducible refine HA.out.mono ?_); rintro e w1 ⟨rfl, rfl⟩))
    go_ret
    exact ⟨rfl, HM.out, Keeps.refl _ _⟩
  | true =>
    replace HF := hid (HF.out rfl)
    cases o with
    | false =>
      simp only [Bool.false_eq_true, if_true, if_false] at HA ⊢
      clear HF
      go_enter Tryz.func30, Tryz.ntmps30
      go_wp2_with (first
        | (go_at_call 55; (with_reducible refine HE.out.mono ?_); rintro e w1 ⟨rfl, rfl⟩)
        | (go_at_call 53; (with_reducible refine HA.out.mono ?_); rintro e w1 ⟨rfl, rfl⟩))
      go_ret
      exact ⟨rfl, HM.out, Keeps.refl _ _⟩
    | true =>
      simp only [if_true] at HA ⊢
      go_enter Tryz.func30, Tryz.ntmps30
      go_wp2_with (first
        | (go_at_call 55; (with_reducible refine HE.out.mono ?_); rintro e w1 ⟨rfl, rfl⟩)
        | (go_at_call 53; (with_reducible refine HA.out.mono ?_); rintro e w1 ⟨rfl, rfl⟩)
        | (go_at_call 63; (with_reducible refine HF.out.mono ?_); rintro e w1 ⟨rfl, hm, hk⟩; have HM1 := hid hm; have HK1 := hid hk; clear hm hk))
      go_ret
      exact ⟨rfl, HM1.out, HK1.out⟩

/-! ### A memory that is none -/

/-- No memory: whatever asks it says so. -/
def NoMem (v : Value) : Prop := ∀ w, Calls Tryz.prog 57 #[v] w fun e w' => e = .returned (.bool true) ∧ w = w'

theorem noMem_nil : NoMem (.pointer none) := none57_nil

end Go.Proofs.YtmohnddglmolgaaGreatDoor
