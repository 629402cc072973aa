/- Walks: what a memory answers that is nil or zero: Copy (29), SameMemory (35). Walks: what a memory answers that is nil or zero: Write (28), Flush (42), Fail (20), Crash (30). -/
import Derived.Test.YtmohnddglmolgaaGreatDoorKpAonA
namespace Go.Proofs.YtmohnddglmolgaaGreatDoor
open Go Go.RowKit Go.Lin Go.Lin.Kp

theorem copy29_none (v : Value) (w : World) (h : Calls Tryz.prog 57 #[v] w fun e w' => e = .returned (.bool true) ∧ w = w') : Calls Tryz.prog 29 #[v] w fun e w' => e = .returned (.pointer none) ∧ w = w' := by
  have HN := hid h
  clear h
  go_enter Tryz.func29, Tryz.ntmps29
  go_wp2_with (go_at_call 57; (with_reducible refine HN.out.mono ?_); rintro e w1 ⟨rfl, rfl⟩)
  go_ret
  exact ⟨rfl, rfl⟩

theorem same35_none1 (v v' : Value) (q : Bool) (w : World) (h : Calls Tryz.prog 57 #[v] w fun e w' => e = .returned (.bool true) ∧ w = w') (h' : Calls Tryz.prog 57 #[v'] w fun e w' => e = .returned (.bool q) ∧ w = w') : Calls Tryz.prog 35 #[v, v'] w fun e w' => e = .returned (.bool q) ∧ w = w' := by
  have HN := hid h; have HN' := hid h'
  clear h h'
  cases q
  all_goals
    go_enter Tryz.func35, Tryz.ntmps35
    go_wp2_with (first
      | (go_at_call 57; (with_reducible refine HN.out.mono ?_); rintro e w1 ⟨rfl, rfl⟩)
      | (go_at_call 57; (with_reducible refine HN'.out.mono ?_); rintro e w1 ⟨rfl, rfl⟩))
    go_ret
    exact ⟨rfl, rfl⟩

theorem same35_none2 (v v' : Value) (w : World) (h : Calls Tryz.prog 57 #[v] w fun e w' => e = .returned (.bool false) ∧ w = w') (h' : Calls Tryz.prog 57 #[v'] w fun e w' => e = .returned (.bool true) ∧ w = w') : Calls Tryz.prog 35 #[v, v'] w fun e w' => e = .returned (.bool false) ∧ w = w' := by
  have HN := hid h; have HN' := hid h'
  clear h h'
  go_enter Tryz.func35, Tryz.ntmps35
  go_wp2_with (first
    | (go_at_call 57; (with_reducible refine HN.out.mono ?_); rintro e w1 ⟨rfl, rfl⟩)
    | (go_at_call 57; (with_reducible refine HN'.out.mono ?_); rintro e w1 ⟨rfl, rfl⟩))
  go_ret
  exact ⟨rfl, rfl⟩

theorem ask44_none (v : Value) (s : ByteArray) (w : World) (h : Calls Tryz.prog 51 #[v] w fun e w' => e = .returned (.bool true) ∧ w = w') : Calls Tryz.prog 44 #[v, .string s] w fun e w' => e = .returned (.tuple #[.string ⟨#[]⟩, .int .i64 102]) ∧ w = w' := by
  have HN := hid h
  clear h
  go_enter Tryz.func44, Tryz.ntmps44
  go_wp2_with (go_at_call 51; (with_reducible refine HN.out.mono ?_); rintro e w1 ⟨rfl, rfl⟩)
  go_ret2
  exact ⟨rfl, rfl⟩

theorem add31_none (v : Value) (n : Int) (w : World) (h : Calls Tryz.prog 51 #[v] w fun e w' => e = .returned (.bool true) ∧ w = w') : Calls Tryz.prog 31 #[v, .int .i64 n] w fun e w' => e = .returned (.int .i64 102) ∧ w = w' := by
  have HN := hid (asked64_none v n w h)
  clear h
  go_enter Tryz.func31, Tryz.ntmps31
  go_wp2_with (go_at_call 64; (with_reducible refine HN.out.mono ?_); rintro e w1 ⟨rfl, rfl⟩)
  go_ret
  exact ⟨rfl, rfl⟩

theorem change32_none (v : Value) (i n : Int) (w : World) (h : Calls Tryz.prog 51 #[v] w fun e w' => e = .returned (.bool true) ∧ w = w') : Calls Tryz.prog 32 #[v, .int .i64 i, .int .i64 n] w fun e w' => e = .returned (.int .i64 102) ∧ w = w' := by
  have HN := hid (asked64_none v n w h)
  clear h
  go_enter Tryz.func32, Tryz.ntmps32
  go_wp2_with (go_at_call 64; (with_reducible refine HN.out.mono ?_); rintro e w1 ⟨rfl, rfl⟩)
  go_ret
  exact ⟨rfl, rfl⟩

theorem done58_none (v f : Value) (r : Bool) (w : World) (h : Calls Tryz.prog 57 #[v] w fun e w' => e = .returned (.bool true) ∧ w = w') : Calls Tryz.prog 58 #[v, .bool r, f] w fun e w' => e = .returned (.int .i64 102) ∧ w = w' := by
  have HN := hid (asked53_none v r w h)
  clear h
  go_enter Tryz.func58, Tryz.ntmps58
  go_wp2_with (go_at_call 53; (with_reducible refine HN.out.mono ?_); rintro e w1 ⟨rfl, rfl⟩)
  go_ret
  exact ⟨rfl, rfl⟩

theorem fence43_none (a : Option Addr) (w : World) (h : NoMem (.pointer a)) : Calls Tryz.prog 43 #[.pointer a] w fun e w' => e = .returned (.int .i64 102) ∧ Grew w w' := by
  obtain ⟨w1, hw1, g1, k0, hz1⟩ := box1 w (.pointer a) 35
  have HN := hid (fun f => done58_none (.pointer a) f true w1 (h w1))
  have HG := hid g1
  clear h g1
  go_enter Tryz.func43, Tryz.ntmps43
  go_wp2_with (go_at_call 58; (with_reducible refine (HN.out _).mono ?_); rintro e w2 ⟨rfl, rfl⟩)
  go_ret
  exact ⟨rfl, HG.out⟩

end Go.Proofs.YtmohnddglmolgaaGreatDoor
namespace Go.Proofs.YtmohnddglmolgaaGreatDoor
open Go Go.RowKit Go.Lin Go.Lin.Kp

/-- No memory, now and later. -/
def NoM (w : World) (v : Value) : Prop := ∀ w', Grew w w' → Calls Tryz.prog 57 #[v] w' fun e w'' => e = .returned (.bool true) ∧ w' = w''
def NoB (w : World) (v : Value) : Prop := ∀ w', Grew w w' → Calls Tryz.prog 51 #[v] w' fun e w'' => e = .returned (.bool true) ∧ w' = w''

theorem NoM.grew {w w' : World} {v : Value} (h : NoM w v) (hg : Grew w w') : NoM w' v := fun _ h' => h _ (grew_trans hg h')
theorem NoB.grew {w w' : World} {v : Value} (h : NoB w v) (hg : Grew w w') : NoB w' v := fun _ h' => h _ (grew_trans hg h')
theorem NoM.now {w : World} {v : Value} (h : NoM w v) : Calls Tryz.prog 57 #[v] w fun e w'' => e = .returned (.bool true) ∧ w = w'' := h w (grew_refl w)
theorem NoB.now {w : World} {v : Value} (h : NoB w v) : Calls Tryz.prog 51 #[v] w fun e w'' => e = .returned (.bool true) ∧ w = w'' := h w (grew_refl w)
theorem noM_nil (w : World) : NoM w (.pointer none) := fun w' _ => none57_nil w'
theorem noB_nil (w : World) : NoB w (.pointer none) := fun w' _ => noBook_nil w'
theorem noM_zero {w : World} {b : Nat} (h : w.cell? ⟨b, 0, none⟩ = some (.bool false)) : NoM w (ptr b) := fun w' hg => none57_zero b w' ((hg.cell (p := ⟨b, 0, none⟩) (World.block_lt_of_cell? w _ h)).trans h)
theorem noB_zero {w : World} {b : Nat} (h : w.cell? ⟨b, 0, none⟩ = some (.pointer none)) : NoB w (ptr b) := fun w' hg => none51_zero b w' ((hg.cell (p := ⟨b, 0, none⟩) (World.block_lt_of_cell? w _ h)).trans h)

theorem below_heap {B : Nat} {a w w' : World} (h : Below B a w) (he : w'.heap = w.heap) (h1 : w'.os = w.os) (h2 : w'.tape = w.tape) (h3 : w'.output = w.output) : Below B a w' := ⟨h1.trans h.os, h2.trans h.tape, h3.trans h.output, by rw [he]; exact h.size, fun k hk => by rw [he]; exact h.block k hk⟩

set_option maxHeartbeats 1000000 in
set_option maxRecDepth 20000 in
theorem write28_none (a : Option Addr) (c n : Int) (w : World) (h : NoM w (.pointer a)) : Calls Tryz.prog 28 #[.pointer a, .int .i64 c, .int .i64 n] w fun e w' => e = .returned (.int .i64 102) ∧ Grew w w' := by
  obtain ⟨W1, hW1, g1, k0, k1, k2, hz⟩ := three_new w (.pointer a) (.int .i64 c) (.int .i64 n) 35 3 3
  have HIC := hid (isCell59_any c)
  have HIN := hid (isNumber60_any n)
  have HN := hid (fun (f : Value) (r : Bool) => done58_none (.pointer a) f r W1.drew (h _ (grew_drew g1)))
  have HG1 := hid g1
  obtain ⟨x, hx⟩ : ∃ x, isCell c = x := ⟨_, rfl⟩
  obtain ⟨y, hy⟩ : ∃ y, isNum n = y := ⟨_, rfl⟩
  rw [hx] at HIC
  rw [hy] at HIN
  clear h hx hy g1
  cases x
  · go_enter Tryz.func28, Tryz.ntmps28
    go_wp2
    refine wp_region_still_tail 8 (by kernel_rfl) (by kernel_rfl) ?_
    simp only [List.take_succ_cons, List.take_zero, List.drop_succ_cons, List.drop_zero]
    repeat (refine wpStill_step (fun K hK => ?_); go_simp; (first | (with_reducible refine hK _ ?_)| (with_reducible refine ⟨_, still_of (HIC.out _), hK _ ?_⟩) | (with_reducible refine ⟨_, still_of (HIN.out _), hK _ ?_⟩)); clear hK K)
    refine wpStill_nil ?_
    change wpList _ _ _ _ _ W1.drew
    go_wp2_with (go_at_call 58; (with_reducible refine (HN.out _ _).mono ?_); rintro e w1 ⟨rfl, rfl⟩)
    go_ret
    exact ⟨rfl, grew_drew HG1.out⟩
  · cases y
    all_goals
      go_enter Tryz.func28, Tryz.ntmps28
      go_wp2
      refine wp_region_still_tail 8 (by kernel_rfl) (by kernel_rfl) ?_
      simp only [List.take_succ_cons, List.take_zero, List.drop_succ_cons, List.drop_zero]
      repeat (refine wpStill_step (fun K hK => ?_); go_simp; (first | (with_reducible refine hK _ ?_)| (with_reducible refine ⟨_, still_of (HIC.out _), hK _ ?_⟩) | (with_reducible refine ⟨_, still_of (HIN.out _), hK _ ?_⟩)); clear hK K)
      refine wpStill_nil ?_
      change wpList _ _ _ _ _ W1.drew
      go_wp2_with (go_at_call 58; (with_reducible refine (HN.out _ _).mono ?_); rintro e w1 ⟨rfl, rfl⟩)
      go_ret
      exact ⟨rfl, grew_drew HG1.out⟩

set_option maxHeartbeats 1000000 in
set_option maxRecDepth 20000 in
theorem flush42_none (a : Option Addr) (c : Int) (w : World) (h : NoM w (.pointer a)) : Calls Tryz.prog 42 #[.pointer a, .int .i64 c] w fun e w' => e = .returned (.int .i64 102) ∧ Grew w w' := by
  obtain ⟨W1, hW1, g1, k0, k1, hz⟩ := two_new' w (.pointer a) (.int .i64 c) 35 3
  have HIC := hid (isCell59_any c)
  have HN := hid (fun (f : Value) (r : Bool) => done58_none (.pointer a) f r W1.drew (h _ (grew_drew g1)))
  have HG1 := hid g1
  obtain ⟨x, hx⟩ : ∃ x, isCell c = x := ⟨_, rfl⟩
  rw [hx] at HIC
  clear h hx g1
  cases x
  all_goals
    go_enter Tryz.func42, Tryz.ntmps42
    go_wp2
    refine wp_region_still_tail 4 (by kernel_rfl) (by kernel_rfl) ?_
    simp only [List.take_succ_cons, List.take_zero, List.drop_succ_cons, List.drop_zero]
    repeat (refine wpStill_step (fun K hK => ?_); go_simp; (first | (with_reducible refine hK _ ?_)| (with_reducible refine ⟨_, still_of (HIC.out _), hK _ ?_⟩)); clear hK K)
    refine wpStill_nil ?_
    change wpList _ _ _ _ _ W1.drew
    go_wp2_with (go_at_call 58; (with_reducible refine (HN.out _ _).mono ?_); rintro e w1 ⟨rfl, rfl⟩)
    go_ret
    exact ⟨rfl, grew_drew HG1.out⟩

theorem fence43_noM (a : Option Addr) (w : World) (h : NoM w (.pointer a)) : Calls Tryz.prog 43 #[.pointer a] w fun e w' => e = .returned (.int .i64 102) ∧ Grew w w' := by
  obtain ⟨w1, hw1, g1, k0, hz1⟩ := box1 w (.pointer a) 35
  have HN := hid (fun f => done58_none (.pointer a) f true w1 (h w1 g1))
  have HG := hid g1
  clear h g1
  go_enter Tryz.func43, Tryz.ntmps43
  go_wp2_with (go_at_call 58; (with_reducible refine (HN.out _).mono ?_); rintro e w2 ⟨rfl, rfl⟩)
  go_ret
  exact ⟨rfl, HG.out⟩

theorem fail20_none (v u : Value) (k : Int) (l : List Int) (w : World) (h : NoM w v) (hu : IsInts Any w u l) : Calls Tryz.prog 20 #[v, .int .i64 k, u] w fun e w' => e = .returned (.int .i64 102) ∧ w = w' := by
  have HB := hid (fun (W : World) => between54_any 1 k 1000 W)
  have HE := hid (areEarly55_any u l w hu)
  have HA := hid (fun r => asked53_none v r w h.now)
  obtain ⟨b, hb⟩ : ∃ b, (decide (1 ≤ k) && decide (k ≤ 1000)) = b := ⟨_, rfl⟩
  obtain ⟨c, hc⟩ : ∃ c, areEarly l = c := ⟨_, rfl⟩
  rw [hb] at HB
  rw [hc] at HE
  clear h hb hc hu
  cases b <;> cases c
  all_goals
    go_enter Tryz.func20, Tryz.ntmps20
    go_wp2_with (first
      | (go_at_call 54; (with_reducible refine (HB.out _).mono ?_); rintro e w1 ⟨rfl, rfl⟩)
      | (go_at_call 55; (with_reducible refine HE.out.mono ?_); rintro e w1 ⟨rfl, rfl⟩)
      | (go_at_call 53; (with_reducible refine (HA.out _).mono ?_); rintro e w1 ⟨rfl, rfl⟩))
    go_ret
    exact ⟨rfl, rfl⟩

theorem crash30_none (v u : Value) (l : List Int) (w : World) (h : NoM w v) (hu : IsInts Any w u l) : Calls Tryz.prog 30 #[v, u] w fun e w' => e = .returned (.int .i64 102) ∧ w = w' := by
  have HE := hid (areEarly55_any u l w hu)
  have HA := hid (fun r => asked53_none v r w h.now)
  obtain ⟨c, hc⟩ : ∃ c, areEarly l = c := ⟨_, rfl⟩
  rw [hc] at HE
  clear h hc hu
  cases c
  all_goals
    go_enter Tryz.func30, Tryz.ntmps30
    go_wp2_with (first
      | (go_at_call 55; (with_reducible refine HE.out.mono ?_); rintro e w1 ⟨rfl, rfl⟩)
      | (go_at_call 53; (with_reducible refine (HA.out _).mono ?_); rintro e w1 ⟨rfl, rfl⟩))
    go_ret
    exact ⟨rfl, rfl⟩

end Go.Proofs.YtmohnddglmolgaaGreatDoor
