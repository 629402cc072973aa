/- The plain model of progress: graphs of moves, ways, and the plain law of the search for ways. No program in sight. -/
import Derived.Test.YtojkohpniokaaaaBase
namespace Go.Lin.Pg

/-- A move: where from, of which thread, where to, whether a call ends. -/
abbrev Mv := Int × Int × Int × Bool
abbrev fr (m : Mv) : Int := m.1
abbrev th (m : Mv) : Int := m.2.1
abbrev tg (m : Mv) : Int := m.2.2.1
abbrev dn (m : Mv) : Bool := m.2.2.2

structure Gr where
  n : Int
  ms : List Mv

def isPl (n p : Int) : Bool := decide (0 ≤ p) && decide (p ≤ n - 1)
def isTh (t : Int) : Bool := decide (0 ≤ t) && decide (t ≤ 2)
def mvOk (n : Int) (m : Mv) : Bool := isPl n (fr m) && isPl n (tg m) && isTh (th m)
/-- The moves are right, each is there once. -/
def mvsOk (n : Int) : List Mv → List Mv → Bool
  | _, [] => true
  | seen, m :: ms => mvOk n m && !seen.contains m && mvsOk n (seen ++ [m]) ms
def valid (g : Gr) : Bool := mvsOk g.n [] g.ms && (decide (1 ≤ g.n) && decide (g.n ≤ 8)) && decide (g.ms.length ≤ 20)

theorem snoc_ind {P : List Nat → Prop} (h0 : P []) (hs : ∀ u i, P u → P (u ++ [i])) (l : List Nat) : P l := by
  have : ∀ r : List Nat, P r.reverse := fun r => by
    induction r with
    | nil => exact h0
    | cons i r ih => rw [List.reverse_cons]; exact hs _ _ ih
  have h := this l.reverse
  rwa [List.reverse_reverse] at h

/-- Where a path leads, by moves that may be. -/
def goG (ms : List Mv) (may : Mv → Bool) : Int → List Nat → Option Int
  | p, [] => some p
  | p, i :: l => match ms[i]? with
    | some m => if fr m = p ∧ may m = true then goG ms may (tg m) l else none
    | none => none

theorem goG_append {ms : List Mv} {may : Mv → Bool} : ∀ (u v : List Nat) (p : Int), goG ms may p (u ++ v) = (goG ms may p u).bind (fun q => goG ms may q v)
  | [], v, p => rfl
  | i :: u, v, p => by
    simp only [List.cons_append, goG]
    cases ms[i]? with
    | none => rfl
    | some m =>
      simp only
      split
      · exact goG_append u v _
      · rfl

theorem goG_snoc {ms : List Mv} {may : Mv → Bool} {u : List Nat} {p q : Int} {i : Nat} {m : Mv} (hu : goG ms may p u = some q) (hi : ms[i]? = some m) (hf : fr m = q) (hm : may m = true) : goG ms may p (u ++ [i]) = some (tg m) := by
  rw [goG_append, hu]
  simp [goG, hi, hf, hm]

theorem goG_snoc_inv {ms : List Mv} {may : Mv → Bool} {u : List Nat} {p r : Int} {i : Nat} (h : goG ms may p (u ++ [i]) = some r) : ∃ q m, goG ms may p u = some q ∧ ms[i]? = some m ∧ fr m = q ∧ may m = true ∧ tg m = r := by
  rw [goG_append] at h
  cases hq : goG ms may p u with
  | none => rw [hq] at h; simp at h
  | some q =>
    rw [hq] at h
    simp only [Option.bind_some, goG] at h
    cases hm : ms[i]? with
    | none => rw [hm] at h; simp at h
    | some m =>
      rw [hm] at h
      simp only at h
      split at h
      · rename_i hc
        exact ⟨q, m, rfl, rfl, hc.1, hc.2, by simpa using h⟩
      · cases h

/-! ### The order of words -/

def lexle : List Nat → List Nat → Prop
  | [], _ => True
  | _ :: _, [] => False
  | x :: u, y :: v => x < y ∨ (x = y ∧ lexle u v)

theorem lexle_refl : ∀ u, lexle u u
  | [] => trivial
  | _ :: u => .inr ⟨rfl, lexle_refl u⟩

theorem lexle_trans : ∀ {u v x : List Nat}, lexle u v → lexle v x → lexle u x
  | [], _, _, _, _ => trivial
  | _ :: _, [], _, h, _ => h.elim
  | _ :: _, _ :: _, [], _, h => h.elim
  | a :: u, b :: v, c :: x, h, k => by
    rcases h with h | ⟨rfl, h⟩
    · rcases k with k | ⟨rfl, _⟩
      · exact .inl (by omega)
      · exact .inl h
    · rcases k with k | ⟨rfl, k⟩
      · exact .inl k
      · exact .inr ⟨rfl, lexle_trans h k⟩

theorem lexle_antisymm : ∀ {u v : List Nat}, u.length = v.length → lexle u v → lexle v u → u = v
  | [], [], _, _, _ => rfl
  | [], _ :: _, h, _, _ => by simp at h
  | _ :: _, [], h, _, _ => by simp at h
  | a :: u, b :: v, hl, h, k => by
    rcases h with h | ⟨rfl, h⟩
    · rcases k with k | ⟨rfl, _⟩ <;> omega
    · rcases k with k | ⟨_, k⟩
      · omega
      · rw [lexle_antisymm (by simpa using hl) h k]

theorem lexle_total : ∀ (u v : List Nat), lexle u v ∨ (lexle v u ∧ u ≠ v)
  | [], _ => .inl trivial
  | _ :: _, [] => .inr ⟨trivial, by simp⟩
  | a :: u, b :: v => by
    rcases Nat.lt_trichotomy a b with h | h | h
    · exact .inl (.inl h)
    · subst h
      rcases lexle_total u v with h | ⟨h, hne⟩
      · exact .inl (.inr ⟨rfl, h⟩)
      · exact .inr ⟨.inr ⟨rfl, h⟩, by simpa using hne⟩
    · exact .inr ⟨.inl h, by simp; omega⟩

theorem lexle_snoc : ∀ {u v : List Nat} (x y : Nat), u.length = v.length → lexle u v → u ≠ v → lexle (u ++ [x]) (v ++ [y])
  | [], [], _, _, _, _, hne => absurd rfl hne
  | [], _ :: _, _, _, h, _, _ => by simp at h
  | _ :: _, [], _, _, h, _, _ => by simp at h
  | a :: u, b :: v, x, y, hl, h, hne => by
    rcases h with h | ⟨rfl, h⟩
    · exact .inl h
    · exact .inr ⟨rfl, lexle_snoc x y (by simpa using hl) h (by simpa using hne)⟩

theorem lexle_snoc_same : ∀ (u : List Nat) {x y : Nat}, x ≤ y → lexle (u ++ [x]) (u ++ [y])
  | [], x, y, h => by
    rcases Nat.lt_or_eq_of_le h with h | h
    · exact .inl h
    · exact .inr ⟨h, trivial⟩
  | _ :: u, _, _, h => .inr ⟨rfl, lexle_snoc_same u h⟩

/-- u comes before v, or is v. -/
def sle (u v : List Nat) : Prop := u.length < v.length ∨ (u.length = v.length ∧ lexle u v)

theorem sle_refl (u : List Nat) : sle u u := .inr ⟨rfl, lexle_refl u⟩

theorem sle_trans {u v x : List Nat} (h : sle u v) (k : sle v x) : sle u x := by
  rcases h with h | ⟨h, h'⟩ <;> rcases k with k | ⟨k, k'⟩
  · exact .inl (by omega)
  · exact .inl (by omega)
  · exact .inl (by omega)
  · exact .inr ⟨by omega, lexle_trans h' k'⟩

theorem sle_antisymm {u v : List Nat} (h : sle u v) (k : sle v u) : u = v := by
  rcases h with h | ⟨h, h'⟩ <;> rcases k with k | ⟨k, k'⟩
  · omega
  · omega
  · omega
  · exact lexle_antisymm h h' k'

theorem sle_len {u v : List Nat} (h : sle u v) : u.length ≤ v.length := by
  rcases h with h | ⟨h, _⟩ <;> omega

theorem sle_total (u v : List Nat) : sle u v ∨ sle v u := by
  rcases Nat.lt_trichotomy u.length v.length with h | h | h
  · exact .inl (.inl h)
  · rcases lexle_total u v with k | ⟨k, _⟩
    · exact .inl (.inr ⟨h, k⟩)
    · exact .inr (.inr ⟨h.symm, k⟩)
  · exact .inr (.inl h)

theorem sle_snoc {u v : List Nat} (x y : Nat) (h : sle u v) (hne : u ≠ v) : sle (u ++ [x]) (v ++ [y]) := by
  rcases h with h | ⟨h, h'⟩
  · exact .inl (by simp; omega)
  · exact .inr ⟨by simp [h], lexle_snoc x y h h' hne⟩

theorem sle_snoc_same (u : List Nat) {x y : Nat} (h : x ≤ y) : sle (u ++ [x]) (u ++ [y]) := .inr ⟨by simp, lexle_snoc_same u h⟩

theorem sle_snoc_le {u v : List Nat} {x y : Nat} (h : sle u v) (hxy : x ≤ y) : sle (u ++ [x]) (v ++ [y]) := by
  by_cases e : u = v
  · subst e; exact sle_snoc_same u hxy
  · exact sle_snoc x y h e

theorem sle_prefix (u v : List Nat) : sle u (u ++ v) := by
  rcases v with _ | ⟨a, v⟩
  · simpa using sle_refl u
  · exact .inl (by simp)

theorem nodup_lt_length : ∀ (n : Nat) (l : List Nat), l.Nodup → (∀ x ∈ l, x < n) → l.length ≤ n
  | 0, l, _, h => by
    rcases l with _ | ⟨x, l⟩
    · simp
    · exact absurd (h x (by simp)) (by omega)
  | n + 1, l, hn, h => by
    have h1 : (l.filter (fun x => decide (x ≠ n))).length ≤ n := by
      refine nodup_lt_length n _ (hn.filter _) (fun x hx => ?_)
      rw [List.mem_filter] at hx
      have := h x hx.1
      have h2 := hx.2
      simp at h2
      omega
    have h2 : l.length = (l.filter (fun x => decide (x ≠ n))).length + (l.filter (fun x => !decide (x ≠ n))).length := by
      rw [← List.countP_eq_length_filter, ← List.countP_eq_length_filter]
      have e := List.length_eq_countP_add_countP (fun x => decide (x ≠ n)) (l := l)
      rw [e]
      congr 1
      apply List.countP_congr
      intro x _
      simp
    have h3 : (l.filter (fun x => !decide (x ≠ n))).length ≤ 1 := by
      have hnd := hn.filter (fun x => !decide (x ≠ n))
      have hall : ∀ x ∈ l.filter (fun x => !decide (x ≠ n)), x = n := fun x hx => by simpa using (List.mem_filter.1 hx).2
      generalize l.filter (fun x => !decide (x ≠ n)) = m at hnd hall ⊢
      rcases m with _ | ⟨x, m⟩
      · simp
      · rcases m with _ | ⟨y, m⟩
        · simp
        · have e1 := hall x (by simp)
          have e2 := hall y (by simp)
          simp [e1, e2] at hnd
    omega

/-! ### The search -/

/-- A place, and the path that leads there. -/
abbrev Leg := Int × List Nat

structure GInv (ms : List Mv) (may : Mv → Bool) (a : Int) (all : List Leg) (H : Leg → Nat → Prop) : Prop where
  path : ∀ e ∈ all, goG ms may a e.2 = some e.1
  sorted : all.Pairwise (fun e f => sle e.2 f.2)
  apart : all.Pairwise (fun e f => e.1 ≠ f.1)
  closed : ∀ e ∈ all, ∀ o m, H e o → ms[o]? = some m → fr m = e.1 → may m = true → ∃ f ∈ all, f.1 = tg m ∧ sle f.2 (e.2 ++ [o])
  root : ∃ f ∈ all, f.1 = a ∧ f.2 = []
  short : ∀ f ∈ all, f.2 = [] ∨ ∃ e ∈ all, ∃ o, H e o ∧ f.2 = e.2 ++ [o]

/-- All entries in front are done; at the next one the moves below op. -/
def Tried (done : List Leg) (h : Leg) (op : Nat) : Leg → Nat → Prop := fun e o => e ∈ done ∨ (e = h ∧ o < op)

section
variable {ms : List Mv} {may : Mv → Bool} {a : Int}

theorem GInv.start (ms : List Mv) (may : Mv → Bool) (a : Int) : GInv ms may a [(a, [])] (fun _ _ => False) where
  path e he := by simp at he; subst he; rfl
  sorted := by simp
  apart := by simp
  closed e _ o m hH := hH.elim
  root := ⟨(a, []), by simp, rfl, rfl⟩
  short f hf := by simp at hf; subst hf; exact .inl rfl

theorem GInv.congr {all : List Leg} {H H' : Leg → Nat → Prop} (h : GInv ms may a all H) (hH : ∀ e ∈ all, ∀ o, o < ms.length → (H' e o ↔ H e o)) (hs : ∀ e o, H e o → H' e o) : GInv ms may a all H' where
  path := h.path
  sorted := h.sorted
  apart := h.apart
  closed e he o m hh hm := h.closed e he o m ((hH e he o (List.getElem?_eq_some_iff.1 hm).1).1 hh) hm
  root := h.root
  short f hf := by
    rcases h.short f hf with h1 | ⟨e, he, o, ho, hw⟩
    · exact .inl h1
    · exact .inr ⟨e, he, o, hs e o ho, hw⟩

variable {done tail : List Leg} {h : Leg} {op : Nat}

theorem GInv.word_ne {all : List Leg} {H : Leg → Nat → Prop} (hi : GInv ms may a all H) {e f : Leg} (he : e ∈ all) (hf : f ∈ all) (hne : e.1 ≠ f.1) : e.2 ≠ f.2 := by
  intro hw
  have h1 := hi.path e he
  have h2 := hi.path f hf
  rw [hw, h2] at h1
  exact hne (Option.some.inj h1).symm

theorem GInv.front {H : Leg → Nat → Prop} (hi : GInv ms may a (done ++ h :: tail) H) {e : Leg} (he : e ∈ done) : sle e.2 h.2 ∧ e.2 ≠ h.2 := by
  have h1 := (List.pairwise_append.1 hi.sorted).2.2 e he h (by simp)
  have h2 := (List.pairwise_append.1 hi.apart).2.2 e he h (by simp)
  exact ⟨h1, hi.word_ne (by simp [he]) (by simp) h2⟩

theorem GInv.back {H : Leg → Nat → Prop} (hi : GInv ms may a (done ++ h :: tail) H) {e : Leg} (he : e ∈ tail) : sle h.2 e.2 ∧ h.2 ≠ e.2 := by
  have h1 := (List.pairwise_cons.1 (List.pairwise_append.1 hi.sorted).2.1).1 e he
  have h2 := (List.pairwise_cons.1 (List.pairwise_append.1 hi.apart).2.1).1 e he
  exact ⟨h1, hi.word_ne (by simp) (by simp [he]) h2⟩

theorem GInv.before (hi : GInv ms may a (done ++ h :: tail) (Tried done h op)) {f : Leg} (hf : f ∈ done ++ h :: tail) : sle f.2 (h.2 ++ [op]) := by
  rcases hi.short f hf with h1 | ⟨e, he, o, ho, hw⟩
  · rw [h1]; exact .inl (by simp)
  · rw [hw]
    rcases ho with hd | ⟨rfl, hlt⟩
    · obtain ⟨h1, h2⟩ := hi.front hd
      exact sle_snoc o op h1 h2
    · exact sle_snoc_same _ (by omega)

theorem tried_succ {e : Leg} {o : Nat} : Tried done h (op + 1) e o ↔ Tried done h op e o ∨ (e = h ∧ o = op) := by
  unfold Tried
  constructor
  · rintro (h1 | ⟨h1, h2⟩)
    · exact .inl (.inl h1)
    · rcases Nat.lt_or_ge o op with h3 | h3
      · exact .inl (.inr ⟨h1, h3⟩)
      · exact .inr ⟨h1, by omega⟩
  · rintro ((h1 | ⟨h1, h2⟩) | ⟨h1, h2⟩)
    · exact .inl h1
    · exact .inr ⟨h1, by omega⟩
    · exact .inr ⟨h1, by omega⟩

/-- A move that leads nowhere new. -/
theorem GInv.skip (hi : GInv ms may a (done ++ h :: tail) (Tried done h op)) (hs : ∀ m, ms[op]? = some m → fr m = h.1 → may m = true → ∃ f ∈ done ++ h :: tail, f.1 = tg m) :
    GInv ms may a (done ++ h :: tail) (Tried done h (op + 1)) where
  path := hi.path
  sorted := hi.sorted
  apart := hi.apart
  closed e he o m hh hm hf hy := by
    rcases tried_succ.1 hh with hh | ⟨rfl, rfl⟩
    · exact hi.closed e he o m hh hm hf hy
    · obtain ⟨f, hf', h1⟩ := hs m hm hf hy
      exact ⟨f, hf', h1, hi.before hf'⟩
  root := hi.root
  short f hf := by
    rcases hi.short f hf with h1 | ⟨e, he, o, ho, hw⟩
    · exact .inl h1
    · exact .inr ⟨e, he, o, tried_succ.2 (.inl ho), hw⟩

/-- A move that leads to a new place. -/
theorem GInv.new (hi : GInv ms may a (done ++ h :: tail) (Tried done h op)) {m : Mv} (hm : ms[op]? = some m) (hf : fr m = h.1) (hy : may m = true) (hs : ¬ ∃ f ∈ done ++ h :: tail, f.1 = tg m) :
    GInv ms may a (done ++ h :: (tail ++ [(tg m, h.2 ++ [op])])) (Tried done h (op + 1)) := by
  have hall : done ++ h :: (tail ++ [(tg m, h.2 ++ [op])]) = (done ++ h :: tail) ++ [(tg m, h.2 ++ [op])] := by simp
  have hh : h ∈ done ++ h :: tail := by simp
  have hph := hi.path h hh
  rw [hall]
  refine ⟨?_, ?_, ?_, ?_, ?_, ?_⟩
  · intro e he
    rcases List.mem_append.1 he with he | he
    · exact hi.path e he
    · simp only [List.mem_singleton] at he; subst he
      exact goG_snoc hph hm hf hy
  · refine List.pairwise_append.2 ⟨hi.sorted, by simp, fun e he f hf => ?_⟩
    simp only [List.mem_singleton] at hf; subst hf
    exact hi.before he
  · refine List.pairwise_append.2 ⟨hi.apart, by simp, fun e he f hf => ?_⟩
    simp only [List.mem_singleton] at hf; subst hf
    intro h1
    exact hs ⟨e, he, h1⟩
  · intro e he o m' hH hm' hf' hy'
    rcases List.mem_append.1 he with he | he
    · rcases tried_succ.1 hH with hH | ⟨rfl, rfl⟩
      · obtain ⟨f, hf, h2⟩ := hi.closed e he o m' hH hm' hf' hy'
        exact ⟨f, List.mem_append.2 (.inl hf), h2⟩
      · rw [hm] at hm'; cases hm'
        exact ⟨_, List.mem_append.2 (.inr (List.mem_singleton.2 rfl)), rfl, sle_refl _⟩
    · simp only [List.mem_singleton] at he; subst he
      rcases tried_succ.1 hH with (hd | ⟨heq, _⟩) | ⟨heq, _⟩
      · obtain ⟨f, hf, h2⟩ := hi.closed _ (List.mem_append.2 (.inl hd)) o m' (.inl hd) hm' hf' hy'
        exact ⟨f, List.mem_append.2 (.inl hf), h2⟩
      · have := congrArg (fun e : Leg => e.2.length) heq
        simp at this
      · have := congrArg (fun e : Leg => e.2.length) heq
        simp at this
  · obtain ⟨f, hf, h1⟩ := hi.root
    exact ⟨f, List.mem_append.2 (.inl hf), h1⟩
  · intro f hf
    rcases List.mem_append.1 hf with hf | hf
    · rcases hi.short f hf with h1 | ⟨e, he, o, ho, hw⟩
      · exact .inl h1
      · exact .inr ⟨e, List.mem_append.2 (.inl he), o, tried_succ.2 (.inl ho), hw⟩
    · simp only [List.mem_singleton] at hf; subst hf
      exact .inr ⟨h, List.mem_append.2 (.inl hh), op, tried_succ.2 (.inr ⟨rfl, rfl⟩), rfl⟩

theorem GInv.next (hi : GInv ms may a (done ++ h :: tail) (Tried done h ms.length)) : GInv ms may a ((done ++ [h]) ++ tail) (fun e _ => e ∈ done ++ [h]) := by
  have hall : (done ++ [h]) ++ tail = done ++ h :: tail := by simp
  rw [hall]
  refine hi.congr (fun e he o ho => ?_) (fun e o hh => ?_)
  · simp [Tried, ho]
  · rcases hh with h1 | ⟨rfl, _⟩ <;> simp [*]

theorem GInv.begin (hi : GInv ms may a (done ++ h :: tail) (fun e _ => e ∈ done)) : GInv ms may a (done ++ h :: tail) (Tried done h 0) :=
  hi.congr (fun e he o ho => by simp [Tried]) (fun e o hh => .inl hh)

/-- Nothing is left: all places that a path leads to are there, each with the first shortest path. -/
theorem GInv.all (hi : GInv ms may a done (fun e _ => e ∈ done)) : ∀ (v : List Nat) (q : Int), goG ms may a v = some q → ∃ f ∈ done, f.1 = q ∧ sle f.2 v := by
  refine snoc_ind ?_ ?_
  · intro q hq
    obtain ⟨f, hf, h1, h2⟩ := hi.root
    simp only [goG, Option.some.injEq] at hq
    exact ⟨f, hf, h1.trans hq, by rw [h2]; exact sle_refl _⟩
  · intro u i ih q hq
    obtain ⟨r, m, h1, h2, h3, h4, h5⟩ := goG_snoc_inv hq
    obtain ⟨f, hf, f1, f2⟩ := ih r h1
    obtain ⟨k, hk, k1, k2⟩ := hi.closed f hf i m hf h2 (h3.trans f1.symm) h4
    exact ⟨k, hk, k1.trans h5, sle_trans k2 (sle_snoc_le f2 (Nat.le_refl _))⟩

theorem GInv.same {all : List Leg} {H : Leg → Nat → Prop} (hi : GInv ms may a all H) {e f : Leg} (he : e ∈ all) (hf : f ∈ all) (h : e.1 = f.1) : e = f := by
  have hp := hi.apart
  obtain ⟨i, hi1, rfl⟩ := List.getElem_of_mem he
  obtain ⟨j, hj1, rfl⟩ := List.getElem_of_mem hf
  rcases Nat.lt_trichotomy i j with h1 | h1 | h1
  · exact absurd h (List.pairwise_iff_getElem.1 hp i j hi1 hj1 h1)
  · subst h1; rfl
  · exact absurd h.symm (List.pairwise_iff_getElem.1 hp j i hj1 hi1 h1)

/-- w is the first shortest path that leads to a place. -/
structure IsWay (ms : List Mv) (may : Mv → Bool) (a q : Int) (w : List Nat) : Prop where
  leads : goG ms may a w = some q
  least : ∀ v, goG ms may a v = some q → sle w v

theorem IsWay.unique {q : Int} {u v : List Nat} (h : IsWay ms may a q u) (k : IsWay ms may a q v) : u = v := sle_antisymm (h.least v k.leads) (k.least u h.leads)

theorem GInv.isWay (hi : GInv ms may a done (fun e _ => e ∈ done)) {e : Leg} (he : e ∈ done) : IsWay ms may a e.1 e.2 := by
  refine ⟨hi.path e he, fun v hv => ?_⟩
  obtain ⟨f, hf, f1, f2⟩ := hi.all v _ hv
  have := hi.same he hf f1.symm
  subst this; exact f2

/-- .. while the search goes on: each entry is the first shortest path to its place. -/
theorem GInv.isWay_on (hi : GInv ms may a (done ++ h :: tail) (Tried done h op)) {e : Leg} (he : e ∈ done ++ h :: tail) : IsWay ms may a e.1 e.2 := by
  refine ⟨hi.path e he, fun v hv => ?_⟩
  have cover : ∀ (v : List Nat) (q : Int), goG ms may a v = some q → sle (h.2 ++ [op]) v ∨ ∃ f ∈ done ++ h :: tail, f.1 = q ∧ sle f.2 v := by
    refine snoc_ind ?_ ?_
    · intro q hq
      obtain ⟨f, hf, h1, h2⟩ := hi.root
      simp only [goG, Option.some.injEq] at hq
      exact .inr ⟨f, hf, h1.trans hq, by rw [h2]; exact sle_refl _⟩
    · intro u i ih q hq
      obtain ⟨r, m, h1, h2, h3, h4, h5⟩ := goG_snoc_inv hq
      rcases ih r h1 with hg | ⟨f, hf, f1, f2⟩
      · exact .inl (sle_trans hg (sle_prefix _ _))
      · have good : Tried done h op f i → sle (h.2 ++ [op]) (u ++ [i]) ∨ ∃ f ∈ done ++ h :: tail, f.1 = q ∧ sle f.2 (u ++ [i]) := fun hT => by
          obtain ⟨k, hk, k1, k2⟩ := hi.closed f hf i m hT h2 (h3.trans f1.symm) h4
          exact .inr ⟨k, hk, k1.trans h5, sle_trans k2 (sle_snoc_le f2 (Nat.le_refl _))⟩
        rcases List.mem_append.1 hf with hd | hd
        · exact good (.inl hd)
        · rcases List.mem_cons.1 hd with rfl | hd
          · rcases Nat.lt_or_ge i op with hlt | hge
            · exact good (.inr ⟨rfl, hlt⟩)
            · exact .inl (sle_snoc_le f2 hge)
          · obtain ⟨b1, b2⟩ := hi.back hd
            refine .inl (sle_snoc op _ (sle_trans b1 f2) ?_)
            intro e
            exact b2 (sle_antisymm b1 (by rw [e]; exact f2))
  rcases cover v _ hv with hc | ⟨f, hf, f1, f2⟩
  · exact sle_trans (hi.before he) hc
  · have := hi.same he hf f1.symm
    subst this; exact f2

theorem GInv.nodup {all : List Leg} {H : Leg → Nat → Prop} (hi : GInv ms may a all H) : (all.map (·.1)).Nodup := by
  rw [List.nodup_iff_pairwise_ne, List.pairwise_map]
  exact hi.apart

/-- There are at most as many entries as places. -/
theorem GInv.count {N : Nat} {all : List Leg} {H : Leg → Nat → Prop} (hi : GInv ms may a all H) (hN : ∀ e ∈ all, 0 ≤ e.1 ∧ e.1 < (N : Int)) : all.length ≤ N := by
  have hnd : (all.map (fun e => e.1.toNat)).Nodup := by
    rw [List.nodup_iff_pairwise_ne, List.pairwise_map]
    refine List.Pairwise.imp_of_mem (fun {e f} he hf h => ?_) hi.apart
    have h1 := hN e he
    have h2 := hN f hf
    omega
  have := nodup_lt_length N _ hnd (fun x hx => by
    obtain ⟨e, he, rfl⟩ := List.mem_map.1 hx
    have := hN e he
    omega)
  simpa using this

/-- Paths are short. -/
theorem GInv.wordlen {all : List Leg} {H : Leg → Nat → Prop} (hi : GInv ms may a all H) {f : Leg} (hf : f ∈ all) : f.2.length < all.length := by
  have chain : ∀ n (f : Leg), f ∈ all → f.2.length = n → ∀ m, m ≤ n → ∃ e ∈ all, e.2.length = m := by
    intro n
    induction n with
    | zero => intro f hf hl m hm; exact ⟨f, hf, by omega⟩
    | succ n ih =>
      intro f hf hl m hm
      rcases Nat.lt_or_ge n m with h1 | h1
      · exact ⟨f, hf, by omega⟩
      · rcases hi.short f hf with h2 | ⟨e, he, o, _, hw⟩
        · rw [h2] at hl; simp at hl
        · refine ih e he ?_ m h1
          rw [hw] at hl; simp at hl; exact hl
  have hsub : List.range (f.2.length + 1) ⊆ all.map (fun e => e.2.length) := by
    intro m hm
    rw [List.mem_range] at hm
    obtain ⟨e, he, hl⟩ := chain _ f hf rfl m (by omega)
    exact List.mem_map.2 ⟨e, he, hl⟩
  have := List.nodup_range.length_le_of_subset hsub
  simp at this
  omega
end

/-! ### The search as a function -/

/-- One move is looked at: the places seen, the line. -/
def lookM (may : Mv → Bool) (l : Leg) (st : List Int × List Leg) (im : Nat × Mv) : List Int × List Leg :=
  if fr im.2 = l.1 ∧ may im.2 = true ∧ tg im.2 ∉ st.1 then (tg im.2 :: st.1, st.2 ++ [(tg im.2, l.2 ++ [im.1])]) else st

/-- The moves from i on. -/
def lookN (ms : List Mv) (may : Mv → Bool) (l : Leg) : Nat → Nat → List Int × List Leg → List Int × List Leg
  | 0, _, st => st
  | k + 1, i, st => match ms[i]? with
    | some m => lookN ms may l k (i + 1) (lookM may l st (i, m))
    | none => st

def bfsN (ms : List Mv) (may : Mv → Bool) : Nat → List Int → List Leg → List Leg
  | 0, _, _ => []
  | _ + 1, _, [] => []
  | k + 1, seen, l :: rest => l :: (let st := lookN ms may l ms.length 0 (seen, rest); bfsN ms may k st.1 st.2)

/-- All places to which a path leads, each with its path, in order. -/
def legsM (ms : List Mv) (may : Mv → Bool) (a : Int) : List Leg := bfsN ms may 9 [a] [(a, [])]

/-- The places seen are those of the entries. -/
def SeenIs (seen : List Int) (all : List Leg) : Prop := ∀ p, p ∈ seen ↔ ∃ f ∈ all, f.1 = p

theorem look_inv {ms : List Mv} {may : Mv → Bool} {a : Int} {done : List Leg} {h : Leg} : ∀ (k i : Nat) (seen : List Int) (tail : List Leg), i + k = ms.length → GInv ms may a (done ++ h :: tail) (Tried done h i) → SeenIs seen (done ++ h :: tail) →
    GInv ms may a (done ++ h :: (lookN ms may h k i (seen, tail)).2) (Tried done h ms.length) ∧ SeenIs (lookN ms may h k i (seen, tail)).1 (done ++ h :: (lookN ms may h k i (seen, tail)).2) ∧ ∃ t, (lookN ms may h k i (seen, tail)).2 = tail ++ t
  | 0, i, seen, tail, hk, hi, hs => by
    obtain rfl : i = ms.length := by omega
    exact ⟨hi, hs, [], by simp [lookN]⟩
  | k + 1, i, seen, tail, hk, hi, hs => by
    obtain ⟨m, hm⟩ : ∃ m, ms[i]? = some m := ⟨ms[i]'(by omega), List.getElem?_eq_getElem _⟩
    simp only [lookN, hm]
    by_cases hc : fr m = h.1 ∧ may m = true ∧ tg m ∉ seen
    · have e : lookM may h (seen, tail) (i, m) = (tg m :: seen, tail ++ [(tg m, h.2 ++ [i])]) := by unfold lookM; rw [if_pos hc]
      rw [e]
      have hn : ¬ ∃ f ∈ done ++ h :: tail, f.1 = tg m := fun h2 => hc.2.2 ((hs _).2 h2)
      have h1 := hi.new hm hc.1 hc.2.1 hn
      obtain ⟨r1, r2, t, r3⟩ := look_inv k (i + 1) (tg m :: seen) (tail ++ [(tg m, h.2 ++ [i])]) (by omega) h1 (fun p => by
        rw [List.mem_cons, hs p]
        constructor
        · rintro (rfl | ⟨f, hf, h2⟩)
          · exact ⟨(tg m, h.2 ++ [i]), by simp, rfl⟩
          · refine ⟨f, ?_, h2⟩
            simp only [List.mem_append, List.mem_cons] at hf ⊢
            rcases hf with hf | hf | hf
            · exact .inl hf
            · exact .inr (.inl hf)
            · exact .inr (.inr (.inl hf))
        · rintro ⟨f, hf, h2⟩
          simp only [List.mem_append, List.mem_cons, List.not_mem_nil, or_false] at hf
          rcases hf with hf | hf | hf | hf
          · exact .inr ⟨f, by simp [hf], h2⟩
          · exact .inr ⟨f, by simp [hf], h2⟩
          · exact .inr ⟨f, by simp [hf], h2⟩
          · subst hf; exact .inl h2.symm)
      exact ⟨r1, r2, (tg m, h.2 ++ [i]) :: t, by rw [r3]; simp⟩
    · have e : lookM may h (seen, tail) (i, m) = (seen, tail) := by unfold lookM; rw [if_neg hc]
      rw [e]
      have h1 := hi.skip (fun m' hm' hf hy => by
        rw [hm] at hm'; cases hm'
        have : tg m ∈ seen := by
          by_cases h2 : tg m ∈ seen
          · exact h2
          · exact absurd ⟨hf, hy, h2⟩ hc
        exact (hs _).1 this)
      exact look_inv k (i + 1) seen tail (by omega) h1 hs

theorem bfs_inv {ms : List Mv} {may : Mv → Bool} {a : Int} {N : Nat} (hN : ∀ (v : List Nat) (q : Int), goG ms may a v = some q → 0 ≤ q ∧ q < (N : Int)) : ∀ (k : Nat) (seen : List Int) (done tail : List Leg), N < done.length + k → GInv ms may a (done ++ tail) (fun e _ => e ∈ done) → SeenIs seen (done ++ tail) →
    GInv ms may a (done ++ bfsN ms may k seen tail) (fun e _ => e ∈ done ++ bfsN ms may k seen tail)
  | 0, seen, done, tail, hk, hi, hs => by
    have hc := hi.count (N := N) (fun e he => hN _ _ (hi.path e he))
    rw [List.length_append] at hc
    omega
  | k + 1, seen, done, [], hk, hi, hs => by simpa [bfsN] using hi
  | k + 1, seen, done, l :: rest, hk, hi, hs => by
    have h1 := hi.begin
    obtain ⟨r1, r2, -⟩ := look_inv ms.length 0 seen rest (by omega) h1 hs
    have h2 := r1.next
    simp only [bfsN]
    have h3 := bfs_inv hN k (lookN ms may l ms.length 0 (seen, rest)).1 (done ++ [l]) (lookN ms may l ms.length 0 (seen, rest)).2 (by simp; omega) h2 (by simpa using r2)
    simpa using h3

/-- What the search finds. -/
theorem legs_inv {ms : List Mv} {may : Mv → Bool} {a : Int} {N : Nat} (h8 : N ≤ 8) (hN : ∀ (v : List Nat) (q : Int), goG ms may a v = some q → 0 ≤ q ∧ q < (N : Int)) : GInv ms may a (legsM ms may a) (fun e _ => e ∈ legsM ms may a) := by
  have := bfs_inv hN 9 [a] [] [(a, [])] (by simp; omega) (by simpa using GInv.start ms may a) (fun p => by simp [eq_comm])
  simpa [legsM] using this
end Go.Lin.Pg
