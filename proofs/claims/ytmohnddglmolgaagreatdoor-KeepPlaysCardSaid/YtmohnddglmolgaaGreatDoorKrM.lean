/- Plain: how often power failed and books were opened grows; so a book is the last one exactly if both numbers are its own. -/
import Derived.Test.YtmohnddglmolgaaGreatDoorKpStM
namespace Go.Lin.Kp
open Go Go.Lin

/-- Both numbers grow. -/
structure Mo (M M' : Mem) : Prop where
  fails : M.fails ≤ M'.fails
  opened : M.opened ≤ M'.opened

theorem Mo.refl (M : Mem) : Mo M M := ⟨Nat.le_refl _, Nat.le_refl _⟩
theorem Mo.trans {A B C : Mem} (h : Mo A B) (h' : Mo B C) : Mo A C := ⟨Nat.le_trans h.fails h'.fails, Nat.le_trans h.opened h'.opened⟩

theorem mo_done {M : Mem} {r : Bool} {f : Mem → Mem} (hf : ∀ M', (f M').fails = M'.fails ∧ (f M').opened = M'.opened) : Mo M (M.done r f).2 := by
  unfold Mem.done
  split
  · split
    · unfold Mem.step
      split
      · exact ⟨Nat.le_succ _, Nat.le_refl _⟩
      · obtain ⟨a, b⟩ := hf { M with plan := M.plan - 1, steps := M.steps + 1 }
        exact ⟨Nat.le_of_eq a.symm, Nat.le_of_eq b.symm⟩
    · exact Mo.refl _
  · exact Mo.refl _
theorem mo_write (M : Mem) (c n : Int) : Mo M (M.write c n).2 := mo_done fun _ => ⟨rfl, rfl⟩
theorem mo_flush (M : Mem) (c : Int) : Mo M (M.flush c).2 := mo_done fun _ => ⟨rfl, rfl⟩
theorem mo_fence (M : Mem) : Mo M M.fence.2 := mo_done fun _ => ⟨rfl, rfl⟩
theorem mo_owrite (o : Ord) (c n : Int) : Mo o.2 (Ord.write o c n).2 := by unfold Ord.write; split; exact mo_write _ _ _; exact Mo.refl _
theorem mo_oflush (o : Ord) (c : Int) : Mo o.2 (Ord.flush o c).2 := by unfold Ord.flush; split; exact mo_flush _ _; exact Mo.refl _
theorem mo_ofence (o : Ord) : Mo o.2 (Ord.fence o).2 := by unfold Ord.fence; split; exact mo_fence _; exact Mo.refl _
theorem mo_put (o : Ord) (c n : Int) : Mo o.2 (Ord.put o c n).2 := ((mo_owrite o c n).trans (mo_oflush _ c)).trans (mo_ofence _)
theorem mo_planned (M : Mem) (k : Int) (l : List Int) : Mo M (M.planned k l).2 := by
  unfold Mem.planned
  split
  · split <;> exact ⟨Nat.le_refl _, Nat.le_refl _⟩
  · exact Mo.refl _
theorem mo_crash (M : Mem) (l : List Int) : Mo M (M.crash l).2 := by
  unfold Mem.crash
  split
  · split
    · exact ⟨Nat.le_succ _, Nat.le_refl _⟩
    · exact Mo.refl _
  · exact Mo.refl _
theorem mo_start (M : Mem) : Mo M M.start := by
  unfold Mem.start
  split
  · exact Mo.refl _
  · exact ⟨Nat.le_refl _, Nat.le_refl _⟩
theorem mo_undo (M : Mem) : Mo M (undo M).2 := by
  unfold undo
  split
  · exact mo_put (0, M) _ _
  · exact Mo.refl _
theorem mo_unnote (o : Ord) : Mo o.2 (unnote o).2 := by
  unfold unnote
  split
  · exact Mo.refl _
  · exact mo_put o _ _
theorem mo_open (M : Mem) : Mo M M.open_.2.2 := by
  have h := ((mo_start M).trans (mo_undo _)).trans (mo_unnote (undo M.start))
  unfold Mem.open_
  split
  · exact mo_start M
  · dsimp only
    split
    · exact ⟨h.fails, Nat.le_succ_of_le h.opened⟩
    · exact h
theorem mo_add (M : Mem) (b : Bk) (n : Int) : Mo M (M.add b n).2.2 := by
  unfold Mem.add
  split
  · split
    · exact Mo.refl _
    · exact (mo_put (0, M) _ _).trans (mo_put _ _ _)
  · exact Mo.refl _
theorem mo_change (M : Mem) (b : Bk) (i n : Int) : Mo M (M.change b i n).2.2 := by
  unfold Mem.change
  split
  · split
    · exact (((((((mo_owrite (0, M) _ _).trans (mo_owrite _ _ _)).trans (mo_oflush _ _)).trans (mo_oflush _ _)).trans (mo_ofence _)).trans (mo_put _ _ _)).trans (mo_put _ _ _)).trans (mo_put _ _ _)
    · exact Mo.refl _
  · exact Mo.refl _

/-- A book is no newer than its memory. -/
def Le (M : Mem) (b : Bk) : Prop := b.fails ≤ M.fails ∧ b.opened ≤ M.opened

theorem Le.mo {M M' : Mem} {b : Bk} (h : Le M b) (hm : Mo M M') : Le M' b := ⟨Nat.le_trans h.1 hm.fails, Nat.le_trans h.2 hm.opened⟩

theorem le_open {M : Mem} {b : Bk} (h : M.open_.1 = some b) : b.fails = M.open_.2.2.fails ∧ b.opened = M.open_.2.2.opened := by
  unfold Mem.open_ at h ⊢
  split at h
  · cases h
  · rename_i h20
    rw [if_neg h20]
    dsimp only at h ⊢
    split at h
    · rename_i h0
      rw [if_pos h0]
      simp only [Option.some.injEq] at h
      subst h
      exact ⟨rfl, rfl⟩
    · cases h

theorem bk_add (M : Mem) (b : Bk) (n : Int) : (M.add b n).2.1.fails = b.fails ∧ (M.add b n).2.1.opened = b.opened := by
  unfold Mem.add
  split
  · split
    · exact ⟨rfl, rfl⟩
    · dsimp only; split <;> exact ⟨rfl, rfl⟩
  · exact ⟨rfl, rfl⟩
theorem bk_change (M : Mem) (b : Bk) (i n : Int) : (M.change b i n).2.1.fails = b.fails ∧ (M.change b i n).2.1.opened = b.opened := by
  unfold Mem.change
  split
  · split
    · dsimp only; split <;> exact ⟨rfl, rfl⟩
    · exact ⟨rfl, rfl⟩
  · exact ⟨rfl, rfl⟩

theorem le_add {M : Mem} {b : Bk} (h : Le M b) (n : Int) : Le (M.add b n).2.2 (M.add b n).2.1 := by
  have := h.mo (mo_add M b n)
  unfold Le at this ⊢
  rw [(bk_add M b n).1, (bk_add M b n).2]; exact this
theorem le_change {M : Mem} {b : Bk} (h : Le M b) (i n : Int) : Le (M.change b i n).2.2 (M.change b i n).2.1 := by
  have := h.mo (mo_change M b i n)
  unfold Le at this ⊢
  rw [(bk_change M b i n).1, (bk_change M b i n).2]; exact this

/-- The book, if there is one, is no newer than the memory. -/
def DsLe (D : Ds) : Prop := ∀ b, D.b = some b → Le D.M b

theorem dsLe_step {A : Bk → List UInt8 → List UInt8 × Int} {D : Ds} (h : DsLe D) (what : Nat) (a n : Int) (cells : List Int) (text : List UInt8) : DsLe (stepM A D what a n cells text).2 := by
  unfold stepM
  match what with
  | 0 => exact fun b hb => (h b hb).mo (mo_write _ _ _)
  | 1 => exact fun b hb => (h b hb).mo (mo_flush _ _)
  | 2 => exact fun b hb => (h b hb).mo (mo_fence _)
  | 3 => exact fun b hb => (h b hb).mo (mo_planned _ _ _)
  | 4 => exact fun b hb => (h b hb).mo (mo_crash _ _)
  | 5 => exact fun b hb => (h b hb).mo (mo_start _)
  | 6 =>
    intro b hb
    (try dsimp only at hb)
    cases e : D.M.open_.1 with
    | none => rw [e] at hb; exact (h b hb).mo (mo_open _)
    | some b' => rw [e] at hb; simp only [Option.some.injEq] at hb; subst hb; have := le_open e; exact ⟨Nat.le_of_eq this.1, Nat.le_of_eq this.2⟩
  | 7 =>
    (try dsimp only)
    cases e : D.b with
    | none => exact fun b hb => h b hb
    | some b => exact fun b' hb => by simp only [Option.some.injEq] at hb; subst hb; exact le_add (h b e) n
  | 8 =>
    (try dsimp only)
    cases e : D.b with
    | none => exact fun b hb => h b hb
    | some b => exact fun b' hb => by simp only [Option.some.injEq] at hb; subst hb; exact le_change (h b e) a n
  | (k + 9) =>
    (try dsimp only)
    cases e : D.b with
    | none => exact fun b hb => h b hb
    | some b => exact fun b' hb => h b' hb

/-- Whether a book can do nothing any more. -/
theorem gone_iff {M : Mem} {b : Bk} (h : Le M b) : (M.on = false ∨ b.fails + b.opened ≠ M.fails + M.opened) ↔ (M.on = false ∨ M.fails ≠ b.fails ∨ M.opened ≠ b.opened) := by
  have := h.1; have := h.2
  constructor
  · rintro (e | e)
    · exact .inl e
    · by_cases hf : M.fails = b.fails
      · exact .inr (.inr (by omega))
      · exact .inr (.inl hf)
  · rintro (e | e | e)
    · exact .inl e
    · exact .inr (by omega)
    · exact .inr (by omega)

end Go.Lin.Kp
