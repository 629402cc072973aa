/- The plain model of a memory that keeps what was flushed, and of a book on it. Of no program. -/
import Derived.Test.YtmohnddglmolgaaGreatDoorBase
namespace Go.Lin.Kp

/-- A memory. -/
structure Mem where
  fresh : Nat → Int
  kept : Nat → Int
  notes : Nat → Option Int
  on : Bool
  plan : Nat
  early : List Int
  steps : Nat
  fails : Nat
  opened : Nat

/-- One place of a function is changed. -/
def upd {β : Type} (f : Nat → β) (c : Nat) (n : β) : Nat → β := fun i => if i = c then n else f i

@[simp] theorem upd_same {β : Type} (f : Nat → β) (c : Nat) (n : β) : upd f c n c = n := by simp [upd]
theorem upd_other {β : Type} (f : Nat → β) {c i : Nat} (n : β) (h : i ≠ c) : upd f c n i = f i := by simp [upd, h]

def Mem.new : Mem := ⟨fun _ => 0, fun _ => 0, fun _ => none, true, 0, [], 0, 0, 0⟩

def isCell (n : Int) : Bool := decide (0 ≤ n) && decide (n ≤ 63)
def isNum (n : Int) : Bool := decide (0 ≤ n) && decide (n ≤ 999)
def areEarly (l : List Int) : Bool := decide (l.length ≤ 10) && l.all isCell

/-- The kept numbers when power fails. -/
def keptOf (M : Mem) (l : List Int) : Nat → Int := fun i => if (i : Int) ∈ l then M.fresh i else M.kept i

def Mem.fail (M : Mem) (l : List Int) : Mem :=
  { M with kept := keptOf M l, notes := fun _ => none, on := false, plan := 0, early := [], fails := M.fails + 1 }

def Mem.step (M : Mem) (f : Mem → Mem) : Int × Mem :=
  if M.plan = 1 then (101, M.fail M.early) else (0, f { M with plan := M.plan - 1, steps := M.steps + 1 })

def Mem.done (M : Mem) (right : Bool) (f : Mem → Mem) : Int × Mem :=
  if right then (if M.on then M.step f else (101, M)) else (2, M)

def Mem.setF (c : Nat) (n : Int) (M : Mem) : Mem := { M with fresh := upd M.fresh c n }
def Mem.noteF (c : Nat) (M : Mem) : Mem := { M with notes := upd M.notes c (some (M.fresh c)) }
def fenced (M : Mem) : Nat → Int := fun i => (M.notes i).getD (M.kept i)
def Mem.fenceF (M : Mem) : Mem := { M with kept := fenced M, notes := fun _ => none }

def Mem.write (M : Mem) (c n : Int) : Int × Mem := M.done (isCell c && isNum n) (Mem.setF c.toNat n)
def Mem.flush (M : Mem) (c : Int) : Int × Mem := M.done (isCell c) (Mem.noteF c.toNat)
def Mem.fence (M : Mem) : Int × Mem := M.done true Mem.fenceF

def Mem.read (M : Mem) (c : Int) : Int × Int := if isCell c then (if M.on then (M.fresh c.toNat, 0) else (0, 101)) else (0, 2)
def Mem.keptAt (M : Mem) (c : Int) : Int × Int := if isCell c then (M.kept c.toNat, 0) else (0, 2)

def mayPlan (k : Int) (l : List Int) : Bool := decide (1 ≤ k) && decide (k ≤ 1000) && areEarly l
def Mem.planned (M : Mem) (k : Int) (l : List Int) : Int × Mem :=
  if mayPlan k l then (if M.on then (0, { M with plan := k.toNat, early := l }) else (101, M)) else (2, M)
def Mem.crash (M : Mem) (l : List Int) : Int × Mem :=
  if areEarly l then (if M.on then (0, M.fail l) else (101, M)) else (2, M)
def Mem.start (M : Mem) : Mem := if M.on then M else { M with on := true, fresh := M.kept }

/-- Steps one behind the other: it ends with the first error. -/
abbrev Ord := Int × Mem
def Ord.write (o : Ord) (c n : Int) : Ord := if o.1 = 0 then o.2.write c n else o
def Ord.flush (o : Ord) (c : Int) : Ord := if o.1 = 0 then o.2.flush c else o
def Ord.fence (o : Ord) : Ord := if o.1 = 0 then o.2.fence else o
def Ord.put (o : Ord) (c n : Int) : Ord := Ord.fence (Ord.flush (Ord.write o c n) c)

/-- A book: how often power had failed, and books had been opened, when it was; its entries. -/
structure Bk where
  fails : Nat
  opened : Nat
  list : List Int

/-- The first entries that lie in the cells. -/
def entriesOf (f : Nat → Int) (n : Nat) : List Int := (List.range n).map fun i => f (i + 1)

/-- The note of a change is undone. -/
def undo (M : Mem) : Ord := if M.fresh 40 = 1 ∧ 1 ≤ M.fresh 41 ∧ M.fresh 41 ≤ M.fresh 0 then Ord.put (0, M) (M.fresh 41) (M.fresh 42) else (0, M)
def unnote (o : Ord) : Ord := if o.2.fresh 40 = 0 then o else Ord.put o 40 0

/-- What opening returns: a book, an error, the memory behind it. -/
def Mem.open_ (M : Mem) : Option Bk × Int × Mem :=
  if M.start.fresh 0 > 20 then (none, 102, M.start) else
  let o := unnote (undo M.start)
  if o.1 = 0 then (some ⟨o.2.fails, o.2.opened + 1, entriesOf o.2.fresh (M.start.fresh 0).toNat⟩, 0, { o.2 with opened := o.2.opened + 1 }) else (none, o.1, o.2)

/-- The first error of a book that is to have a number. -/
def askedB (M : Mem) (b : Bk) (n : Int) : Int :=
  if M.on = false ∨ b.fails + b.opened ≠ M.fails + M.opened then 101 else if isNum n then 0 else 103

def addO (M : Mem) (b : Bk) (n : Int) : Ord := Ord.put (Ord.put (0, M) (b.list.length + 1) n) 0 (b.list.length + 1)
def Mem.add (M : Mem) (b : Bk) (n : Int) : Int × Bk × Mem :=
  if askedB M b n = 0 then
    (if b.list.length = 20 then (4, b, M) else
      let o := addO M b n
      (o.1, if o.1 = 0 then { b with list := b.list ++ [n] } else b, o.2))
  else (askedB M b n, b, M)

def changeO (M : Mem) (number was n : Int) : Ord :=
  Ord.put (Ord.put (Ord.put (Ord.fence (Ord.flush (Ord.flush (Ord.write (Ord.write (0, M) 41 number) 42 was) 41) 42)) 40 1) number n) 40 0
def Mem.change (M : Mem) (b : Bk) (number n : Int) : Int × Bk × Mem :=
  if askedB M b n = 0 then
    (if 1 ≤ number ∧ number ≤ b.list.length then
      let o := changeO M number (nth b.list (number - 1).toNat) n
      (o.1, if o.1 = 0 then { b with list := b.list.set (number - 1).toNat n } else b, o.2)
     else (5, b, M))
  else (askedB M b n, b, M)

/-- What holds of each memory. -/
structure Ok (M : Mem) : Prop where
  fresh : ∀ i, 0 ≤ M.fresh i ∧ M.fresh i ≤ 999
  kept : ∀ i, 0 ≤ M.kept i ∧ M.kept i ≤ 999
  notes : ∀ i n, M.notes i = some n → i < 64 ∧ 0 ≤ n ∧ n ≤ 999
  plan : M.plan ≤ 1000
  early : areEarly M.early = true
  off : M.on = false → M.plan = 0 ∧ M.early = []

theorem Ok.new : Ok Mem.new := ⟨fun _ => by simp [Mem.new], fun _ => by simp [Mem.new], fun _ _ h => by simp [Mem.new] at h, by simp [Mem.new], by decide, fun h => by simp [Mem.new] at h⟩

/-- How much has been done with a memory. -/
def Mem.size (M : Mem) : Nat := M.steps + M.fails + M.opened

theorem isCell_iff {n : Int} : isCell n = true ↔ 0 ≤ n ∧ n ≤ 63 := by simp [isCell]
theorem isNum_iff {n : Int} : isNum n = true ↔ 0 ≤ n ∧ n ≤ 999 := by simp [isNum]

theorem Ok.fail {M : Mem} (h : Ok M) (l : List Int) : Ok (M.fail l) :=
  ⟨h.fresh, fun i => by unfold Mem.fail keptOf; dsimp only; split; exact h.fresh i; exact h.kept i, fun _ _ e => by simp [Mem.fail] at e, Nat.zero_le _, rfl, fun _ => ⟨rfl, rfl⟩⟩

/-- A step on what is right keeps it right. -/
def Steps (f : Mem → Mem) : Prop := ∀ M, Ok M → M.on = true → Ok (f M) ∧ (f M).steps = M.steps ∧ (f M).fails = M.fails ∧ (f M).opened = M.opened ∧ (f M).on = true

theorem Ok.tick {M : Mem} (h : Ok M) : Ok { M with plan := M.plan - 1, steps := M.steps + 1 } :=
  ⟨h.fresh, h.kept, h.notes, by have := h.plan; dsimp only; omega, h.early, fun e => by have := (h.off e).1; exact ⟨by dsimp only; omega, (h.off e).2⟩⟩

theorem Steps.setF {c n : Int} (_ : isCell c = true) (hn : isNum n = true) : Steps (Mem.setF c.toNat n) := fun M h on =>
  ⟨⟨fun i => by
      unfold Mem.setF upd; dsimp only; split
      · exact isNum_iff.1 hn
      · exact h.fresh i, h.kept, h.notes, h.plan, h.early, h.off⟩, rfl, rfl, rfl, on⟩

theorem Steps.noteF {c : Int} (hc : isCell c = true) : Steps (Mem.noteF c.toNat) := fun M h on =>
  ⟨⟨h.fresh, h.kept, fun i n e => by
      unfold Mem.noteF upd at e; dsimp only at e
      split at e
      · cases e; have := isCell_iff.1 hc; exact ⟨by omega, h.fresh _⟩
      · exact h.notes i n e, h.plan, h.early, h.off⟩, rfl, rfl, rfl, on⟩

theorem Steps.fenceF : Steps Mem.fenceF := fun M h on =>
  ⟨⟨h.fresh, fun i => by
      unfold Mem.fenceF fenced; dsimp only
      cases e : M.notes i with
      | none => exact h.kept i
      | some n => exact (h.notes i n e).2, fun i n e => by simp [Mem.fenceF] at e, h.plan, h.early, h.off⟩, rfl, rfl, rfl, on⟩

/-- What a row of right steps leaves: it is done, or power has failed on the way. -/
structure Goes (M : Mem) (o : Ord) (k : Nat) : Prop where
  ok : Ok o.2
  opened : o.2.opened = M.opened
  steps : M.steps ≤ o.2.steps ∧ o.2.steps ≤ M.steps + k
  res : (o.1 = 0 ∧ o.2.on = true ∧ o.2.fails = M.fails) ∨ (o.1 = 101 ∧ o.2.on = false ∧ o.2.fails = M.fails + 1)

theorem Goes.refl {M : Mem} (h : Ok M) (hon : M.on = true) : Goes M (0, M) 0 := ⟨h, rfl, ⟨Nat.le_refl _, Nat.le_refl _⟩, .inl ⟨rfl, hon, rfl⟩⟩

theorem goes_step {M : Mem} (h : Ok M) (hon : M.on = true) {f : Mem → Mem} (hf : Steps f) : Goes M (M.step f) 1 := by
  unfold Mem.step
  by_cases hp : M.plan = 1
  · rw [if_pos hp]
    exact ⟨h.fail _, rfl, ⟨Nat.le_refl _, Nat.le_succ _⟩, .inr ⟨rfl, rfl, rfl⟩⟩
  · rw [if_neg hp]
    obtain ⟨a, b, c, d, e⟩ := hf _ h.tick hon
    exact ⟨a, d, ⟨by dsimp only at b ⊢; omega, by dsimp only at b ⊢; omega⟩, .inl ⟨rfl, e, c⟩⟩

theorem goes_done {M : Mem} (h : Ok M) (hon : M.on = true) {f : Mem → Mem} (hf : Steps f) : Goes M (M.done true f) 1 := by
  unfold Mem.done; rw [if_pos rfl, if_pos hon]; exact goes_step h hon hf

theorem Goes.bind {M : Mem} {o : Ord} {k j : Nat} (h : Goes M o k) {g : Mem → Ord} (hg : ∀ M', Ok M' → M'.on = true → Goes M' (g M') j) : Goes M (if o.1 = 0 then g o.2 else o) (k + j) := by
  rcases h.res with ⟨e, hon, hf⟩ | ⟨e, hon, hf⟩
  · rw [if_pos e]
    have h2 := hg o.2 h.ok hon
    refine ⟨h2.ok, h2.opened.trans h.opened, ⟨by have := h.steps; have := h2.steps; omega, by have := h.steps; have := h2.steps; omega⟩, ?_⟩
    rcases h2.res with ⟨a, b, c⟩ | ⟨a, b, c⟩
    · exact .inl ⟨a, b, c.trans hf⟩
    · exact .inr ⟨a, b, by omega⟩
  · rw [if_neg (by rw [e]; decide)]
    exact ⟨h.ok, h.opened, ⟨h.steps.1, by have := h.steps; omega⟩, .inr ⟨e, hon, hf⟩⟩

theorem Goes.write {M : Mem} {o : Ord} {k : Nat} (h : Goes M o k) {c n : Int} (hc : isCell c = true) (hn : isNum n = true) : Goes M (Ord.write o c n) (k + 1) :=
  h.bind (g := fun M => M.write c n) fun M' a b => by unfold Mem.write; rw [hc, hn]; exact goes_done a b (Steps.setF hc hn)
theorem Goes.flush {M : Mem} {o : Ord} {k : Nat} (h : Goes M o k) {c : Int} (hc : isCell c = true) : Goes M (Ord.flush o c) (k + 1) :=
  h.bind (g := fun M => M.flush c) fun M' a b => by unfold Mem.flush; rw [hc]; exact goes_done a b (Steps.noteF hc)
theorem Goes.fence {M : Mem} {o : Ord} {k : Nat} (h : Goes M o k) : Goes M (Ord.fence o) (k + 1) :=
  h.bind (g := fun M => M.fence) fun _ a b => goes_done a b Steps.fenceF
theorem Goes.put {M : Mem} {o : Ord} {k : Nat} (h : Goes M o k) {c n : Int} (hc : isCell c = true) (hn : isNum n = true) : Goes M (Ord.put o c n) (k + 3) :=
  ((h.write hc hn).flush hc).fence

theorem Goes.mono {M : Mem} {o : Ord} {k j : Nat} (h : Goes M o k) (hj : k ≤ j) : Goes M o j := ⟨h.ok, h.opened, ⟨h.steps.1, by have := h.steps; omega⟩, h.res⟩

theorem Goes.size {M : Mem} {o : Ord} {k : Nat} (h : Goes M o k) : o.2.size ≤ M.size + k + 1 := by
  have := h.steps; have := h.opened
  unfold Mem.size
  rcases h.res with ⟨_, _, e⟩ | ⟨_, _, e⟩ <;> omega

/-- In the place of a step that fails none is done: so both together are no more than the steps. -/
theorem size_step {M : Mem} {f : Mem → Mem} (hf : ∀ M', (f M').steps = M'.steps ∧ (f M').fails = M'.fails ∧ (f M').opened = M'.opened) : (M.step f).2.size = M.size + 1 := by
  unfold Mem.step Mem.size
  split
  · simp [Mem.fail]; omega
  · obtain ⟨a, b, c⟩ := hf { M with plan := M.plan - 1, steps := M.steps + 1 }
    dsimp only at a b c ⊢; rw [a, b, c]; omega
theorem size_done {M : Mem} {r : Bool} {f : Mem → Mem} (hf : ∀ M', (f M').steps = M'.steps ∧ (f M').fails = M'.fails ∧ (f M').opened = M'.opened) : (M.done r f).2.size ≤ M.size + 1 := by
  unfold Mem.done
  split
  · split
    · exact Nat.le_of_eq (size_step hf)
    · exact Nat.le_succ _
  · exact Nat.le_succ _
theorem size_write (M : Mem) (c n : Int) : (M.write c n).2.size ≤ M.size + 1 := size_done fun _ => ⟨rfl, rfl, rfl⟩
theorem size_flush (M : Mem) (c : Int) : (M.flush c).2.size ≤ M.size + 1 := size_done fun _ => ⟨rfl, rfl, rfl⟩
theorem size_fence (M : Mem) : M.fence.2.size ≤ M.size + 1 := size_done fun _ => ⟨rfl, rfl, rfl⟩
theorem size_owrite (o : Ord) (c n : Int) : (Ord.write o c n).2.size ≤ o.2.size + 1 := by unfold Ord.write; split; exact size_write _ _ _; exact Nat.le_succ _
theorem size_oflush (o : Ord) (c : Int) : (Ord.flush o c).2.size ≤ o.2.size + 1 := by unfold Ord.flush; split; exact size_flush _ _; exact Nat.le_succ _
theorem size_ofence (o : Ord) : (Ord.fence o).2.size ≤ o.2.size + 1 := by unfold Ord.fence; split; exact size_fence _; exact Nat.le_succ _
theorem size_put (o : Ord) (c n : Int) : (Ord.put o c n).2.size ≤ o.2.size + 3 := by
  have a := size_owrite o c n
  have b := size_oflush (Ord.write o c n) c
  have d := size_ofence (Ord.flush (Ord.write o c n) c)
  unfold Ord.put; omega

/-- Any step, right or wrong, keeps what holds of each memory. -/
theorem ok_done {M : Mem} (h : Ok M) {r : Bool} {f : Mem → Mem} (hf : r = true → Steps f) : Ok (M.done r f).2 := by
  unfold Mem.done
  cases r with
  | false => exact h
  | true =>
    rw [if_pos rfl]
    by_cases hon : M.on = true
    · rw [if_pos hon]; exact (goes_step h hon (hf rfl)).ok
    · rw [if_neg hon]; exact h
theorem ok_write {M : Mem} (h : Ok M) (c n : Int) : Ok (M.write c n).2 := ok_done h fun e => by
  rw [Bool.and_eq_true] at e; exact Steps.setF e.1 e.2
theorem ok_flush {M : Mem} (h : Ok M) (c : Int) : Ok (M.flush c).2 := ok_done h fun e => Steps.noteF e
theorem ok_fence {M : Mem} (h : Ok M) : Ok M.fence.2 := ok_done h fun _ => Steps.fenceF
theorem ok_owrite {o : Ord} (h : Ok o.2) (c n : Int) : Ok (Ord.write o c n).2 := by unfold Ord.write; split; exact ok_write h _ _; exact h
theorem ok_oflush {o : Ord} (h : Ok o.2) (c : Int) : Ok (Ord.flush o c).2 := by unfold Ord.flush; split; exact ok_flush h _; exact h
theorem ok_ofence {o : Ord} (h : Ok o.2) : Ok (Ord.fence o).2 := by unfold Ord.fence; split; exact ok_fence h; exact h
theorem ok_put {o : Ord} (h : Ok o.2) (c n : Int) : Ok (Ord.put o c n).2 := ok_ofence (ok_oflush (ok_owrite h c n) c)
theorem ok_planned {M : Mem} (h : Ok M) (k : Int) (l : List Int) : Ok (M.planned k l).2 := by
  unfold Mem.planned
  split
  · rename_i hm
    simp only [mayPlan, Bool.and_eq_true, decide_eq_true_eq] at hm
    split
    · rename_i hon
      exact ⟨h.fresh, h.kept, h.notes, by dsimp only; omega, hm.2, fun e => by simp only [hon] at e; cases e⟩
    · exact h
  · exact h
theorem ok_crash {M : Mem} (h : Ok M) (l : List Int) : Ok (M.crash l).2 := by
  unfold Mem.crash
  split
  · split
    · exact h.fail l
    · exact h
  · exact h
theorem ok_start {M : Mem} (h : Ok M) : Ok M.start := by
  unfold Mem.start
  split
  · exact h
  · exact ⟨h.kept, h.kept, h.notes, h.plan, h.early, fun e => by cases e⟩
theorem on_start (M : Mem) : M.start.on = true := by
  unfold Mem.start; split; assumption; rfl

end Go.Lin.Kp
