/- The memory of package keep in its blocks; walks of what asks it: none (57), between (54), isCell (59), isNumber (60), asked (53), Power (25), Steps (27), Read (39), Kept (40). -/
import Derived.Test.YtmohnddglmolgaaGreatDoorKpMem
import Derived.Test.YtmohnddglmolgaaGreatDoorChecked
import Derived.IntWalk
namespace Go.Proofs.YtmohnddglmolgaaGreatDoor
open Go Go.RowKit Go.Lin Go.Lin.Kp

/-- The cells of a memory. -/
def memAt (M : Mem) (bn : Nat) (sv : Value) (i : Nat) : Value :=
  if i = 0 then .bool true else if i < 65 then .int .i64 (M.fresh (i - 1)) else if i < 129 then .int .i64 (M.kept (i - 65)) else
  if i = 129 then .map (some bn) else if i = 130 then .bool (!M.on) else if i = 131 then .int .i64 (M.plan : Int) else if i = 132 then sv else
  if i = 133 then .int .i64 (M.steps : Int) else .int .i64 ((M.fails + M.opened : Nat) : Int)

/-- Block bm is the memory M, its notes in block bn, its plan's cells sv. F: its blocks. -/
structure MemIs (w : World) (bm bn : Nat) (sv : Value) (M : Mem) (F : Nat → Prop) : Prop where
  row : w.rowIs bm 89 135 (memAt M bn sv)
  notes : NMap w Tryz.prog 3 3 bn M.steps M.notes
  early : IsInts (fun k _ => F k ∧ k ≠ bm ∧ k ≠ bn) w sv M.early
  inM : F bm
  inN : F bn
  lt : ∀ k, F k → k < w.heap.size

def IsMem (w : World) (bm : Nat) (M : Mem) (F : Nat → Prop) : Prop := ∃ bn sv, MemIs w bm bn sv M F

/-- The address of a block's head. -/
abbrev ptr (b : Nat) : Value := .pointer (some ⟨b, 0, none⟩)

section
variable {w w' : World} {bm bn : Nat} {sv : Value} {M : Mem} {F : Nat → Prop}

theorem MemIs.ne (h : MemIs w bm bn sv M F) : bn ≠ bm := by
  rintro rfl
  obtain ⟨c, h1, _⟩ := h.row
  obtain ⟨es, c', h2⟩ := h.notes.obj
  rw [h2] at h1; cases h1

theorem MemIs.keeps {may : Nat → Obj → Prop} (h : MemIs w bm bn sv M F) (hk : Keeps may w w') (hm : ∀ k o, F k → ¬ may k o) : MemIs w' bm bn sv M F :=
  ⟨rowIs_keeps h.row hk (fun _ => hm _ _ h.inM), h.notes.keeps hk (fun _ _ => hm _ _ h.inN), h.early.keeps hk (fun k o hs => hm k o hs.1), h.inM, h.inN, fun k hF => Nat.lt_of_lt_of_le (h.lt k hF) hk.size⟩
theorem IsMem.keeps {may : Nat → Obj → Prop} (h : IsMem w bm M F) (hk : Keeps may w w') (hm : ∀ k o, F k → ¬ may k o) : IsMem w' bm M F := by
  obtain ⟨bn, sv, h⟩ := h; exact ⟨bn, sv, h.keeps hk hm⟩
theorem MemIs.grew (h : MemIs w bm bn sv M F) (hg : Grew w w') : MemIs w' bm bn sv M F := h.keeps (may := fun _ _ => False) hg.keeps (fun _ _ _ h => h)
theorem IsMem.grew (h : IsMem w bm M F) (hg : Grew w w') : IsMem w' bm M F := h.keeps (may := fun _ _ => False) hg.keeps (fun _ _ _ h => h)
theorem IsMem.lt (h : IsMem w bm M F) : bm < w.heap.size := by obtain ⟨bn, sv, h⟩ := h; exact h.row.lt

theorem MemIs.same_map {bn' : Nat} {sv' : Value} {M' : Mem} {F' : Nat → Prop} (h : MemIs w bm bn sv M F) (h' : MemIs w bm bn' sv' M' F') : bn' = bn := by
  have a : w.cell? ⟨bm, 129, none⟩ = some (.map (some bn)) := h.row.cell (by omega)
  have b : w.cell? ⟨bm, 129, none⟩ = some (.map (some bn')) := h'.row.cell (by omega)
  rw [a] at b
  cases b; rfl
theorem MemIs.made (h : MemIs w bm bn sv M F) : w.cell? ⟨bm, 0, none⟩ = some (.bool true) := h.row.cell (by omega)
theorem MemIs.off (h : MemIs w bm bn sv M F) : w.cell? ⟨bm, 130, none⟩ = some (.bool (!M.on)) := h.row.cell (by omega)
theorem MemIs.cN (h : MemIs w bm bn sv M F) : w.cell? ⟨bm, 129, none⟩ = some (.map (some bn)) := h.row.cell (by omega)
theorem MemIs.cP (h : MemIs w bm bn sv M F) : w.cell? ⟨bm, 131, none⟩ = some (.int .i64 (M.plan : Int)) := h.row.cell (by omega)
theorem MemIs.cE (h : MemIs w bm bn sv M F) : w.cell? ⟨bm, 132, none⟩ = some sv := h.row.cell (by omega)
theorem MemIs.cS (h : MemIs w bm bn sv M F) : w.cell? ⟨bm, 133, none⟩ = some (.int .i64 (M.steps : Int)) := h.row.cell (by omega)
theorem MemIs.cA (h : MemIs w bm bn sv M F) : w.cell? ⟨bm, 134, none⟩ = some (.int .i64 ((M.fails + M.opened : Nat) : Int)) := h.row.cell (by omega)
theorem MemIs.cF (h : MemIs w bm bn sv M F) {i : Nat} (hi : i < 64) : w.cell? ⟨bm, 1 + i, none⟩ = some (.int .i64 (M.fresh i)) := by
  rw [h.row.cell (by omega)]; unfold memAt
  rw [if_neg (by omega), if_pos (by omega), show 1 + i - 1 = i by omega]
theorem MemIs.cK (h : MemIs w bm bn sv M F) {i : Nat} (hi : i < 64) : w.cell? ⟨bm, 65 + i, none⟩ = some (.int .i64 (M.kept i)) := by
  rw [h.row.cell (by omega)]; unfold memAt
  rw [if_neg (by omega), if_neg (by omega), if_pos (by omega), show 65 + i - 65 = i by omega]
end

/-! ### What asks a memory -/

theorem none57_mem (bm : Nat) (M : Mem) (F : Nat → Prop) (w : World) (h : IsMem w bm M F) : Calls Tryz.prog 57 #[ptr bm] w fun e w' => e = .returned (.bool false) ∧ w = w' := by
  obtain ⟨bn, sv, h⟩ := h
  have c0 := h.made
  clear h
  go_enter Tryz.func57, Tryz.ntmps57
  go_wp2
  go_ret
  exact ⟨rfl, rfl⟩

theorem none57_nil (w : World) : Calls Tryz.prog 57 #[.pointer none] w fun e w' => e = .returned (.bool true) ∧ w = w' := by
  go_enter Tryz.func57, Tryz.ntmps57
  go_wp2
  go_ret
  exact ⟨rfl, rfl⟩

theorem none57_zero (bm : Nat) (w : World) (c0 : w.cell? ⟨bm, 0, none⟩ = some (.bool false)) : Calls Tryz.prog 57 #[ptr bm] w fun e w' => e = .returned (.bool true) ∧ w = w' := by
  go_enter Tryz.func57, Tryz.ntmps57
  go_wp2
  go_ret
  exact ⟨rfl, rfl⟩

theorem between54_any (a n b : Int) (w : World) : Calls Tryz.prog 54 #[.int .i64 a, .int .i64 n, .int .i64 b] w fun e w' => e = .returned (.bool (decide (a ≤ n) && decide (n ≤ b))) ∧ w = w' := by
  obtain ⟨x, hx⟩ : ∃ x, decide (a ≤ n) = x := ⟨_, rfl⟩
  rw [hx]
  cases x
  all_goals
    go_enter Tryz.func54, Tryz.ntmps54
    go_wp2
    go_ret
    exact ⟨by simp, rfl⟩

theorem isCell59_any (n : Int) (w : World) : Calls Tryz.prog 59 #[.int .i64 n] w fun e w' => e = .returned (.bool (isCell n)) ∧ w = w' := by
  have HB := hid (between54_any 0 n 63)
  go_enter Tryz.func59, Tryz.ntmps59
  go_wp2_with (go_at_call 54; (with_reducible refine (HB.out _).mono ?_); rintro e w1 ⟨rfl, rfl⟩)
  go_ret
  exact ⟨rfl, rfl⟩

theorem isNumber60_any (n : Int) (w : World) : Calls Tryz.prog 60 #[.int .i64 n] w fun e w' => e = .returned (.bool (isNum n)) ∧ w = w' := by
  have HB := hid (between54_any 0 n 999)
  go_enter Tryz.func60, Tryz.ntmps60
  go_wp2_with (go_at_call 54; (with_reducible refine (HB.out _).mono ?_); rintro e w1 ⟨rfl, rfl⟩)
  go_ret
  exact ⟨rfl, rfl⟩

/-- The first error of a memory, and of whether the rest is right. -/
def askM (M : Mem) (right : Bool) : Int := if right then (if M.on then 0 else 101) else 2

theorem asked53_mem (bm : Nat) (M : Mem) (F : Nat → Prop) (right : Bool) (w : World) (h : IsMem w bm M F) : Calls Tryz.prog 53 #[ptr bm, .bool right] w fun e w' => e = .returned (.int .i64 (askM M right)) ∧ w = w' := by
  have HN := hid (none57_mem bm M F w h)
  obtain ⟨bn, sv, h⟩ := h
  have c0 := h.off
  clear h
  obtain ⟨o, ho⟩ : ∃ o, M.on = o := ⟨_, rfl⟩
  unfold askM
  rw [ho] at c0 ⊢
  clear ho
  cases right <;> cases o
  all_goals
    go_enter Tryz.func53, Tryz.ntmps53
    go_wp2_with (go_at_call 57; (with_reducible refine HN.out.mono ?_); rintro e w1 ⟨rfl, rfl⟩)
    go_ret
    exact ⟨rfl, rfl⟩

theorem asked53_none (v : Value) (right : Bool) (w : World) (h : Calls Tryz.prog 57 #[v] w fun e w' => e = .returned (.bool true) ∧ w = w') : Calls Tryz.prog 53 #[v, .bool right] w fun e w' => e = .returned (.int .i64 102) ∧ w = w' := by
  have HN := hid h
  clear h
  go_enter Tryz.func53, Tryz.ntmps53
  go_wp2_with (go_at_call 57; (with_reducible refine HN.out.mono ?_); rintro e w1 ⟨rfl, rfl⟩)
  go_ret
  exact ⟨rfl, rfl⟩

theorem power25_mem (bm : Nat) (M : Mem) (F : Nat → Prop) (w : World) (h : IsMem w bm M F) : Calls Tryz.prog 25 #[ptr bm] w fun e w' => e = .returned (.bool M.on) ∧ w = w' := by
  have HN := hid (none57_mem bm M F w h)
  obtain ⟨bn, sv, h⟩ := h
  have c0 := h.off
  clear h
  obtain ⟨o, ho⟩ : ∃ o, M.on = o := ⟨_, rfl⟩
  rw [ho] at c0 ⊢
  clear ho
  cases o
  all_goals
    go_enter Tryz.func25, Tryz.ntmps25
    go_wp2_with (go_at_call 57; (with_reducible refine HN.out.mono ?_); rintro e w1 ⟨rfl, rfl⟩)
    go_ret
    exact ⟨rfl, rfl⟩

theorem power25_none (v : Value) (w : World) (h : Calls Tryz.prog 57 #[v] w fun e w' => e = .returned (.bool true) ∧ w = w') : Calls Tryz.prog 25 #[v] w fun e w' => e = .returned (.bool false) ∧ w = w' := by
  have HN := hid h
  clear h
  go_enter Tryz.func25, Tryz.ntmps25
  go_wp2_with (go_at_call 57; (with_reducible refine HN.out.mono ?_); rintro e w1 ⟨rfl, rfl⟩)
  go_ret
  exact ⟨rfl, rfl⟩

theorem steps27_mem (bm : Nat) (M : Mem) (F : Nat → Prop) (w : World) (h : IsMem w bm M F) : Calls Tryz.prog 27 #[ptr bm] w fun e w' => e = .returned (.int .i64 (M.steps : Int)) ∧ w = w' := by
  have HN := hid (none57_mem bm M F w h)
  obtain ⟨bn, sv, h⟩ := h
  have c0 := h.cS
  clear h
  go_enter Tryz.func27, Tryz.ntmps27
  go_wp2_with (go_at_call 57; (with_reducible refine HN.out.mono ?_); rintro e w1 ⟨rfl, rfl⟩)
  go_ret
  exact ⟨rfl, rfl⟩

theorem steps27_none (v : Value) (w : World) (h : Calls Tryz.prog 57 #[v] w fun e w' => e = .returned (.bool true) ∧ w = w') : Calls Tryz.prog 27 #[v] w fun e w' => e = .returned (.int .i64 0) ∧ w = w' := by
  have HN := hid h
  clear h
  go_enter Tryz.func27, Tryz.ntmps27
  go_wp2_with (go_at_call 57; (with_reducible refine HN.out.mono ?_); rintro e w1 ⟨rfl, rfl⟩)
  go_ret
  exact ⟨rfl, rfl⟩

theorem read39_mem (bm : Nat) (M : Mem) (F : Nat → Prop) (c : Int) (w : World) (h : IsMem w bm M F) : Calls Tryz.prog 39 #[ptr bm, .int .i64 c] w fun e w' => e = .returned (.tuple #[.int .i64 (M.read c).1, .int .i64 (M.read c).2]) ∧ w = w' := by
  have HN := hid (asked53_mem bm M F (isCell c) w h)
  have HC := hid (isCell59_any c)
  obtain ⟨bn, sv, h⟩ := h
  have HH := hid h
  clear h
  unfold Mem.read
  unfold askM at HN
  obtain ⟨o, ho⟩ : ∃ o, M.on = o := ⟨_, rfl⟩
  rw [ho] at HN ⊢
  clear ho
  obtain ⟨x, hx⟩ : ∃ x, isCell c = x := ⟨_, rfl⟩
  rw [hx] at HN ⊢
  rw [hx] at HC
  cases x
  · go_enter Tryz.func39, Tryz.ntmps39
    go_wp2_with (first
      | (go_at_call 59; (with_reducible refine (HC.out _).mono ?_); rintro e w1 ⟨rfl, rfl⟩)
      | (go_at_call 53; (with_reducible refine HN.out.mono ?_); rintro e w1 ⟨rfl, rfl⟩))
    go_ret2
    exact ⟨rfl, rfl⟩
  · cases o
    · go_enter Tryz.func39, Tryz.ntmps39
      go_wp2_with (first
        | (go_at_call 59; (with_reducible refine (HC.out _).mono ?_); rintro e w1 ⟨rfl, rfl⟩)
        | (go_at_call 53; (with_reducible refine HN.out.mono ?_); rintro e w1 ⟨rfl, rfl⟩))
      go_ret2
      exact ⟨rfl, rfl⟩
    · obtain ⟨h1, h2⟩ := isCell_iff.1 hx
      clear hx
      obtain ⟨i, rfl⟩ : ∃ i : Nat, c = (i : Int) := ⟨c.toNat, by omega⟩
      have hi : i < 64 := by omega
      have ci := HH.out.cF hi
      go_enter Tryz.func39, Tryz.ntmps39
      go_wp2_with (first
        | (go_at_call 59; (with_reducible refine (HC.out _).mono ?_); rintro e w1 ⟨rfl, rfl⟩)
        | (go_at_call 53; (with_reducible refine HN.out.mono ?_); rintro e w1 ⟨rfl, rfl⟩))
      go_ret2
      exact ⟨rfl, rfl⟩

end Go.Proofs.YtmohnddglmolgaaGreatDoor
