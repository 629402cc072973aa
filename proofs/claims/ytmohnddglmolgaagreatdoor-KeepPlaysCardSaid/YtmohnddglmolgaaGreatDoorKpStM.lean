/- Plain: steps of a memory and of the book that was opened on it last, if there is one. -/
import Derived.Test.YtmohnddglmolgaaGreatDoorKpDoA
namespace Go.Lin.Kp
open Go Go.Lin

/-- A memory, and a book if there is one. -/
structure Ds where
  M : Mem
  b : Option Bk

/-- A step: what, two numbers, cells, a text. -/
def stepM (A : Bk → List UInt8 → List UInt8 × Int) (D : Ds) (what : Nat) (a n : Int) (cells : List Int) (text : List UInt8) : (List UInt8 × Int) × Ds :=
  match what with
  | 0 => (([], (D.M.write a n).1), ⟨(D.M.write a n).2, D.b⟩)
  | 1 => (([], (D.M.flush a).1), ⟨(D.M.flush a).2, D.b⟩)
  | 2 => (([], D.M.fence.1), ⟨D.M.fence.2, D.b⟩)
  | 3 => (([], (D.M.planned a cells).1), ⟨(D.M.planned a cells).2, D.b⟩)
  | 4 => (([], (D.M.crash cells).1), ⟨(D.M.crash cells).2, D.b⟩)
  | 5 => (([], 0), ⟨D.M.start, D.b⟩)
  | 6 => (([], D.M.open_.2.1), ⟨D.M.open_.2.2, match D.M.open_.1 with | some b => some b | none => D.b⟩)
  | 7 => match D.b with
    | none => (([], 102), D)
    | some b => (([], (D.M.add b n).1), ⟨(D.M.add b n).2.2, some (D.M.add b n).2.1⟩)
  | 8 => match D.b with
    | none => (([], 102), D)
    | some b => (([], (D.M.change b a n).1), ⟨(D.M.change b a n).2.2, some (D.M.change b a n).2.1⟩)
  | _ => match D.b with
    | none => (([], 102), D)
    | some b => (A b text, D)

/-- What holds of both. -/
structure DsOk (D : Ds) : Prop where
  M : Ok D.M
  b : ∀ b, D.b = some b → BkOk b

theorem dsOk_step {A : Bk → List UInt8 → List UInt8 × Int} {D : Ds} (h : DsOk D) (what : Nat) (a n : Int) (cells : List Int) (text : List UInt8) : DsOk (stepM A D what a n cells text).2 := by
  unfold stepM
  match what with
  | 0 => exact ⟨ok_write h.M _ _, h.b⟩
  | 1 => exact ⟨ok_flush h.M _, h.b⟩
  | 2 => exact ⟨ok_fence h.M, h.b⟩
  | 3 => exact ⟨ok_planned h.M _ _, h.b⟩
  | 4 => exact ⟨ok_crash h.M _, h.b⟩
  | 5 => exact ⟨ok_start h.M, h.b⟩
  | 6 =>
    refine ⟨ok_open h.M, fun b hb => ?_⟩
    (try dsimp only at hb)
    cases e : D.M.open_.1 with
    | none => rw [e] at hb; exact h.b b hb
    | some b' => rw [e] at hb; simp only [Option.some.injEq] at hb; subst hb; exact bkOk_open h.M e
  | 7 =>
    (try dsimp only)
    cases e : D.b with
    | none => exact ⟨h.M, fun b hb => h.b b hb⟩
    | some b => exact ⟨ok_add h.M _ _, fun b' hb => by simp only [Option.some.injEq] at hb; subst hb; exact bkOk_add (h.b b e)⟩
  | 8 =>
    (try dsimp only)
    cases e : D.b with
    | none => exact ⟨h.M, fun b hb => h.b b hb⟩
    | some b => exact ⟨ok_change h.M _ _ _, fun b' hb => by simp only [Option.some.injEq] at hb; subst hb; exact bkOk_change (h.b b e)⟩
  | (k + 9) =>
    (try dsimp only)
    cases e : D.b with
    | none => exact ⟨h.M, fun b hb => h.b b hb⟩
    | some b => exact ⟨h.M, fun b' hb => h.b b' hb⟩

theorem size_stepM {A : Bk → List UInt8 → List UInt8 × Int} (D : Ds) (what : Nat) (a n : Int) (cells : List Int) (text : List UInt8) : (stepM A D what a n cells text).2.M.size ≤ D.M.size + 14 := by
  unfold stepM
  match what with
  | 0 => have := size_write D.M a n; show (D.M.write a n).2.size ≤ _; omega
  | 1 => have := size_flush D.M a; show (D.M.flush a).2.size ≤ _; omega
  | 2 => have := size_fence D.M; show D.M.fence.2.size ≤ _; omega
  | 3 => have := size_planned D.M a cells; show (D.M.planned a cells).2.size ≤ _; omega
  | 4 => have := size_crash D.M cells; show (D.M.crash cells).2.size ≤ _; omega
  | 5 => have := size_start' D.M; show D.M.start.size ≤ _; omega
  | 6 => have := size_open D.M; show D.M.open_.2.2.size ≤ _; omega
  | 7 => (try dsimp only); cases D.b with
    | none => exact Nat.le_add_right _ _
    | some b => have := size_add D.M b n; show (D.M.add b n).2.2.size ≤ _; omega
  | 8 => (try dsimp only); cases D.b with
    | none => exact Nat.le_add_right _ _
    | some b => exact size_change D.M b a n
  | (k + 9) => (try dsimp only); cases D.b with
    | none => exact Nat.le_add_right _ _
    | some b => exact Nat.le_add_right _ _

theorem planned_still {M : Mem} {k : Int} {l : List Int} (h0 : (M.planned k l).1 ≠ 0) (h1 : (M.planned k l).1 ≠ 101) : (M.planned k l).2 = M := by
  unfold Mem.planned at h0 h1 ⊢
  by_cases hm : mayPlan k l = true
  · rw [if_pos hm] at h0 h1
    by_cases ho : M.on = true
    · rw [if_pos ho] at h0; exact absurd rfl h0
    · rw [if_neg ho] at h1; exact absurd rfl h1
  · rw [if_neg hm]
theorem crash_still {M : Mem} {l : List Int} (h0 : (M.crash l).1 ≠ 0) (h1 : (M.crash l).1 ≠ 101) : (M.crash l).2 = M := by
  unfold Mem.crash at h0 h1 ⊢
  by_cases hm : areEarly l = true
  · rw [if_pos hm] at h0 h1
    by_cases ho : M.on = true
    · rw [if_pos ho] at h0; exact absurd rfl h0
    · rw [if_neg ho] at h1; exact absurd rfl h1
  · rw [if_neg hm]

theorem add_still {M : Mem} {b : Bk} {n : Int} (hM : Ok M) (hb : BkOk b) (h0 : (M.add b n).1 ≠ 0) (h1 : (M.add b n).1 ≠ 101) : (M.add b n).2.2 = M := by
  unfold Mem.add at h0 h1 ⊢
  by_cases ha : askedB M b n = 0
  · rw [if_pos ha] at h0 h1 ⊢
    by_cases h20 : b.list.length = 20
    · rw [if_pos h20]
    · rw [if_neg h20] at h0 h1
      obtain ⟨hn, hon⟩ := askedB_num ha
      have hl := hb.1
      have g : Goes M (addO M b n) 6 := ((Goes.refl hM hon).put (isCell_iff.2 (by omega)) hn).put (by decide) (isNum_iff.2 (by omega))
      rcases g.res with ⟨e, _⟩ | ⟨e, _⟩
      · exact absurd e h0
      · exact absurd e h1
  · rw [if_neg ha]

theorem change_still {M : Mem} {b : Bk} {i n : Int} (hM : Ok M) (hb : BkOk b) (h0 : (M.change b i n).1 ≠ 0) (h1 : (M.change b i n).1 ≠ 101) : (M.change b i n).2.2 = M := by
  unfold Mem.change at h0 h1 ⊢
  by_cases ha : askedB M b n = 0
  · rw [if_pos ha] at h0 h1 ⊢
    by_cases hi : 1 ≤ i ∧ i ≤ b.list.length
    · rw [if_pos hi] at h0 h1
      obtain ⟨hn, hon⟩ := askedB_num ha
      have hl := hb.1
      have hw : isNum (nth b.list (i - 1).toNat) = true := by
        have hj : (i - 1).toNat < b.list.length := by omega
        rw [nth_lt hj]; exact hb.2 _ (List.getElem_mem hj)
      have g : Goes M (changeO M i (nth b.list (i - 1).toNat) n) 14 := ((((((((Goes.refl hM hon).write (c := 41) (n := i) (by decide) (isNum_iff.2 (by omega))).write (c := 42) (by decide) hw).flush (c := 41) (by decide)).flush (c := 42) (by decide)).fence).put (c := 40) (n := 1) (by decide) (by decide)).put (c := i) (n := n) (isCell_iff.2 (by omega)) hn).put (c := 40) (n := 0) (by decide) (by decide)
      rcases g.res with ⟨e, _⟩ | ⟨e, _⟩
      · exact absurd e h0
      · exact absurd e h1
    · rw [if_neg hi]
  · rw [if_neg ha]

/-- A question, and a call with an error other than that power is away, but for opening, change nothing. -/
theorem step_still {A : Bk → List UInt8 → List UInt8 × Int} (D : Ds) (hok : DsOk D) (what : Nat) (a n : Int) (cells : List Int) (text : List UInt8)
    (h : 9 ≤ what ∨ ((stepM A D what a n cells text).1.2 ≠ 0 ∧ (stepM A D what a n cells text).1.2 ≠ 101 ∧ what ≠ 6)) : (stepM A D what a n cells text).2.M = D.M := by
  have hd : ∀ (r : Bool) (f : Mem → Mem), (D.M.done r f).1 ≠ 0 → (D.M.done r f).1 ≠ 101 → (D.M.done r f).2 = D.M := by
    intro r f h0 h1
    unfold Mem.done at h0 h1 ⊢
    by_cases hr : r = true
    · rw [if_pos hr] at h0 h1 ⊢
      by_cases ho : D.M.on = true
      · rw [if_pos ho] at h0 h1 ⊢
        unfold Mem.step at h0 h1
        split at h0
        · rename_i hp; rw [if_pos hp] at h1; exact absurd rfl h1
        · exact absurd rfl h0
      · rw [if_neg ho]
    · rw [if_neg hr]
  unfold stepM at h ⊢
  match what, h with
  | 0, h =>
    rcases h with h | ⟨h0, h1, _⟩
    · exact absurd h (by decide)
    · exact hd _ _ h0 h1
  | 1, h =>
    rcases h with h | ⟨h0, h1, _⟩
    · exact absurd h (by decide)
    · exact hd _ _ h0 h1
  | 2, h =>
    rcases h with h | ⟨h0, h1, _⟩
    · exact absurd h (by decide)
    · exact hd _ _ h0 h1
  | 3, h =>
    rcases h with h | ⟨h0, h1, _⟩
    · exact absurd h (by decide)
    · exact planned_still h0 h1
  | 4, h =>
    rcases h with h | ⟨h0, h1, _⟩
    · exact absurd h (by decide)
    · exact crash_still h0 h1
  | 5, h =>
    rcases h with h | ⟨h0, _, _⟩
    · exact absurd h (by decide)
    · exact absurd rfl h0
  | 6, h =>
    rcases h with h | ⟨_, _, h6⟩
    · exact absurd h (by decide)
    · exact absurd rfl h6
  | 7, h =>
    rcases h with h | ⟨h0, h1, _⟩
    · exact absurd h (by decide)
    · cases e : D.b with
      | none => rfl
      | some b =>
        rw [e] at h0 h1
        exact add_still hok.M (hok.b b e) h0 h1
  | 8, h =>
    rcases h with h | ⟨h0, h1, _⟩
    · exact absurd h (by decide)
    · cases e : D.b with
      | none => rfl
      | some b =>
        rw [e] at h0 h1
        exact change_still hok.M (hok.b b e) h0 h1
  | (k + 9), _ =>
    cases e : D.b with
    | none => rfl
    | some b => rfl

end Go.Lin.Kp
