/- The plain law of a search in width: words in the order of their lengths, and of several in that of their calls. -/
import Derived.Test.YtnebpcpihldllaaModel
namespace Go.Lin

/-! ### The order of words -/

def lexle : List Nat → List Nat → Prop
  | [], _ => True
  | _ :: _, [] => False
  | x :: u, y :: v => x < y ∨ (x = y ∧ lexle u v)

theorem lexle_refl : ∀ u, lexle u u
  | [] => trivial
  | _ :: u => .inr ⟨rfl, lexle_refl u⟩

theorem lexle_trans : ∀ {u v x : List Nat}, lexle u v → lexle v x → lexle u x
  | [], _, _, _, _ => trivial
  | _ :: _, [], _, h, _ => h.elim
  | _ :: _, _ :: _, [], _, h => h.elim
  | a :: u, b :: v, c :: x, h, k => by
    rcases h with h | ⟨rfl, h⟩
    · rcases k with k | ⟨rfl, _⟩
      · exact .inl (by omega)
      · exact .inl h
    · rcases k with k | ⟨rfl, k⟩
      · exact .inl k
      · exact .inr ⟨rfl, lexle_trans h k⟩

theorem lexle_antisymm : ∀ {u v : List Nat}, u.length = v.length → lexle u v → lexle v u → u = v
  | [], [], _, _, _ => rfl
  | [], _ :: _, h, _, _ => by simp at h
  | _ :: _, [], h, _, _ => by simp at h
  | a :: u, b :: v, hl, h, k => by
    rcases h with h | ⟨rfl, h⟩
    · rcases k with k | ⟨rfl, _⟩ <;> omega
    · rcases k with k | ⟨_, k⟩
      · omega
      · rw [lexle_antisymm (by simpa using hl) h k]

theorem lexle_total : ∀ (u v : List Nat), lexle u v ∨ (lexle v u ∧ u ≠ v)
  | [], _ => .inl trivial
  | _ :: _, [] => .inr ⟨trivial, by simp⟩
  | a :: u, b :: v => by
    rcases Nat.lt_trichotomy a b with h | h | h
    · exact .inl (.inl h)
    · subst h
      rcases lexle_total u v with h | ⟨h, hne⟩
      · exact .inl (.inr ⟨rfl, h⟩)
      · exact .inr ⟨.inr ⟨rfl, h⟩, by simpa using hne⟩
    · exact .inr ⟨.inl h, by simp; omega⟩

theorem lexle_snoc : ∀ {u v : List Nat} (x y : Nat), u.length = v.length → lexle u v → u ≠ v → lexle (u ++ [x]) (v ++ [y])
  | [], [], _, _, _, _, hne => absurd rfl hne
  | [], _ :: _, _, _, h, _, _ => by simp at h
  | _ :: _, [], _, _, h, _, _ => by simp at h
  | a :: u, b :: v, x, y, hl, h, hne => by
    rcases h with h | ⟨rfl, h⟩
    · exact .inl h
    · exact .inr ⟨rfl, lexle_snoc x y (by simpa using hl) h (by simpa using hne)⟩

theorem lexle_snoc_same : ∀ (u : List Nat) {x y : Nat}, x ≤ y → lexle (u ++ [x]) (u ++ [y])
  | [], x, y, h => by
    rcases Nat.lt_or_eq_of_le h with h | h
    · exact .inl h
    · exact .inr ⟨h, trivial⟩
  | _ :: u, _, _, h => .inr ⟨rfl, lexle_snoc_same u h⟩

/-- u comes before v, or is v. -/
def sle (u v : List Nat) : Prop := u.length < v.length ∨ (u.length = v.length ∧ lexle u v)

theorem sle_refl (u : List Nat) : sle u u := .inr ⟨rfl, lexle_refl u⟩

theorem sle_trans {u v x : List Nat} (h : sle u v) (k : sle v x) : sle u x := by
  rcases h with h | ⟨h, h'⟩ <;> rcases k with k | ⟨k, k'⟩
  · exact .inl (by omega)
  · exact .inl (by omega)
  · exact .inl (by omega)
  · exact .inr ⟨by omega, lexle_trans h' k'⟩

theorem sle_antisymm {u v : List Nat} (h : sle u v) (k : sle v u) : u = v := by
  rcases h with h | ⟨h, h'⟩ <;> rcases k with k | ⟨k, k'⟩
  · omega
  · omega
  · omega
  · exact lexle_antisymm h h' k'

theorem sle_len {u v : List Nat} (h : sle u v) : u.length ≤ v.length := by
  rcases h with h | ⟨h, _⟩ <;> omega

theorem sle_total (u v : List Nat) : sle u v ∨ sle v u := by
  rcases Nat.lt_trichotomy u.length v.length with h | h | h
  · exact .inl (.inl h)
  · rcases lexle_total u v with k | ⟨k, _⟩
    · exact .inl (.inr ⟨h, k⟩)
    · exact .inr (.inr ⟨h.symm, k⟩)
  · exact .inr (.inl h)

theorem sle_snoc {u v : List Nat} (x y : Nat) (h : sle u v) (hne : u ≠ v) : sle (u ++ [x]) (v ++ [y]) := by
  rcases h with h | ⟨h, h'⟩
  · exact .inl (by simp; omega)
  · exact .inr ⟨by simp [h], lexle_snoc x y h h' hne⟩

theorem sle_snoc_same (u : List Nat) {x y : Nat} (h : x ≤ y) : sle (u ++ [x]) (u ++ [y]) := .inr ⟨by simp, lexle_snoc_same u h⟩

theorem sle_snoc_le {u v : List Nat} {x y : Nat} (h : sle u v) (hxy : x ≤ y) : sle (u ++ [x]) (v ++ [y]) := by
  by_cases e : u = v
  · subst e; exact sle_snoc_same u hxy
  · exact sle_snoc x y h e

theorem sle_prefix (u v : List Nat) : sle u (u ++ v) := by
  rcases v with _ | ⟨a, v⟩
  · simpa using sle_refl u
  · exact .inl (by simp)

/-! ### Words that tell apart -/

/-- The calls of both machines are as many. -/
def NoTells (M K : Mach) (a b : Nat) : Prop := ∀ v, OkW M.k v → anM M a v = anM K b v

structure IsFirst (M K : Mach) (a b : Nat) (ws : List Nat) : Prop where
  ok : OkW M.k ws
  tells : anM M a ws ≠ anM K b ws
  least : ∀ v, OkW M.k v → anM M a v ≠ anM K b v → sle ws v

theorem IsFirst.unique {M K : Mach} {a b : Nat} {u v : List Nat} (h : IsFirst M K a b u) (k : IsFirst M K a b v) : u = v := sle_antisymm (h.least v k.ok k.tells) (k.least u h.ok h.tells)

theorem IsFirst.not_no {M K : Mach} {a b : Nat} {u : List Nat} (h : IsFirst M K a b u) : ¬ NoTells M K a b := fun k => h.tells (k u h.ok)

/-! ### The search -/

/-- An entry: a state of each machine, and the word that leads there. -/
abbrev E := Nat × Nat × List Nat

/-- What the search has found so far. H e o: the call o has been tried at the entry e. -/
structure BInv (M K : Mach) (a b : Nat) (all : List E) (H : E → Nat → Prop) : Prop where
  path : ∀ e ∈ all, e.1 = stM M a e.2.2 ∧ e.2.1 = stM K b e.2.2 ∧ anM M a e.2.2 = anM K b e.2.2 ∧ OkW M.k e.2.2
  sorted : all.Pairwise (fun e f => sle e.2.2 f.2.2)
  apart : all.Pairwise (fun e f => ¬ (e.1 = f.1 ∧ e.2.1 = f.2.1))
  closed : ∀ e ∈ all, ∀ o, o < M.k → H e o → M.sy e.1 o = K.sy e.2.1 o ∧ ∃ f ∈ all, f.1 = M.nx e.1 o ∧ f.2.1 = K.nx e.2.1 o ∧ sle f.2.2 (e.2.2 ++ [o])
  root : ∃ f ∈ all, f.1 = a ∧ f.2.1 = b ∧ f.2.2 = []
  short : ∀ f ∈ all, f.2.2 = [] ∨ ∃ e ∈ all, ∃ o, H e o ∧ f.2.2 = e.2.2 ++ [o]

/-- All entries in front are done; at the next one the calls below op. -/
def Tried (done : List E) (h : E) (op : Nat) : E → Nat → Prop := fun e o => e ∈ done ∨ (e = h ∧ o < op)

section
variable {M K : Mach} {a b : Nat}

theorem BInv.start (M K : Mach) (a b : Nat) : BInv M K a b [(a, b, [])] (fun _ _ => False) where
  path e he := by simp at he; subst he; exact ⟨rfl, rfl, rfl, fun x hx => by simp at hx⟩
  sorted := by simp
  apart := by simp
  closed e _ o _ hH := hH.elim
  root := ⟨(a, b, []), by simp, rfl, rfl, rfl⟩
  short f hf := by simp at hf; subst hf; exact .inl rfl

theorem BInv.congr {all : List E} {H H' : E → Nat → Prop} (h : BInv M K a b all H) (hH : ∀ e ∈ all, ∀ o, o < M.k → (H' e o ↔ H e o)) (hs : ∀ e o, H e o → H' e o) : BInv M K a b all H' where
  path := h.path
  sorted := h.sorted
  apart := h.apart
  closed e he o ho hh := h.closed e he o ho ((hH e he o ho).1 hh)
  root := h.root
  short f hf := by
    rcases h.short f hf with h1 | ⟨e, he, o, ho, hw⟩
    · exact .inl h1
    · exact .inr ⟨e, he, o, hs e o ho, hw⟩

variable {done tail : List E} {h : E} {op : Nat}

/-- Two entries with one word are one. -/
theorem BInv.word_ne {all : List E} {H : E → Nat → Prop} (hi : BInv M K a b all H) {e f : E} (he : e ∈ all) (hf : f ∈ all) (hne : ¬ (e.1 = f.1 ∧ e.2.1 = f.2.1)) : e.2.2 ≠ f.2.2 := by
  intro hw
  obtain ⟨e1, e2, _⟩ := hi.path e he
  obtain ⟨f1, f2, _⟩ := hi.path f hf
  exact hne ⟨by rw [e1, f1, hw], by rw [e2, f2, hw]⟩

theorem BInv.front {H : E → Nat → Prop} (hi : BInv M K a b (done ++ h :: tail) H) {e : E} (he : e ∈ done) : sle e.2.2 h.2.2 ∧ e.2.2 ≠ h.2.2 := by
  have h1 := (List.pairwise_append.1 hi.sorted).2.2 e he h (by simp)
  have h2 := (List.pairwise_append.1 hi.apart).2.2 e he h (by simp)
  exact ⟨h1, hi.word_ne (by simp [he]) (by simp) h2⟩

theorem BInv.back {H : E → Nat → Prop} (hi : BInv M K a b (done ++ h :: tail) H) {e : E} (he : e ∈ tail) : sle h.2.2 e.2.2 ∧ h.2.2 ≠ e.2.2 := by
  have h1 := (List.pairwise_cons.1 (List.pairwise_append.1 hi.sorted).2.1).1 e he
  have h2 := (List.pairwise_cons.1 (List.pairwise_append.1 hi.apart).2.1).1 e he
  exact ⟨h1, hi.word_ne (by simp) (by simp [he]) h2⟩

/-- All words so far come before the next one. -/
theorem BInv.before (hi : BInv M K a b (done ++ h :: tail) (Tried done h op)) {f : E} (hf : f ∈ done ++ h :: tail) : sle f.2.2 (h.2.2 ++ [op]) := by
  rcases hi.short f hf with h1 | ⟨e, he, o, ho, hw⟩
  · rw [h1]; exact .inl (by simp)
  · rw [hw]
    rcases ho with hd | ⟨rfl, hlt⟩
    · obtain ⟨h1, h2⟩ := hi.front hd
      exact sle_snoc o op h1 h2
    · exact sle_snoc_same _ (by omega)

theorem tried_succ {e : E} {o : Nat} : Tried done h (op + 1) e o ↔ Tried done h op e o ∨ (e = h ∧ o = op) := by
  unfold Tried
  constructor
  · rintro (h1 | ⟨h1, h2⟩)
    · exact .inl (.inl h1)
    · rcases Nat.lt_or_ge o op with h3 | h3
      · exact .inl (.inr ⟨h1, h3⟩)
      · exact .inr ⟨h1, by omega⟩
  · rintro ((h1 | ⟨h1, h2⟩) | ⟨h1, h2⟩)
    · exact .inl h1
    · exact .inr ⟨h1, by omega⟩
    · exact .inr ⟨h1, by omega⟩

/-- A call that leads to a pair that was seen. -/
theorem BInv.seen (hi : BInv M K a b (done ++ h :: tail) (Tried done h op)) (_hop : op < M.k) (hsy : M.sy h.1 op = K.sy h.2.1 op) (hs : ∃ f ∈ done ++ h :: tail, f.1 = M.nx h.1 op ∧ f.2.1 = K.nx h.2.1 op) :
    BInv M K a b (done ++ h :: tail) (Tried done h (op + 1)) where
  path := hi.path
  sorted := hi.sorted
  apart := hi.apart
  closed e he o ho hh := by
    rcases tried_succ.1 hh with hh | ⟨rfl, rfl⟩
    · exact hi.closed e he o ho hh
    · obtain ⟨f, hf, h1, h2⟩ := hs
      exact ⟨hsy, f, hf, h1, h2, hi.before hf⟩
  root := hi.root
  short f hf := by
    rcases hi.short f hf with h1 | ⟨e, he, o, ho, hw⟩
    · exact .inl h1
    · exact .inr ⟨e, he, o, tried_succ.2 (.inl ho), hw⟩

/-- A call that leads to a new pair. -/
theorem BInv.new (hi : BInv M K a b (done ++ h :: tail) (Tried done h op)) (hop : op < M.k) (hsy : M.sy h.1 op = K.sy h.2.1 op) (hs : ¬ ∃ f ∈ done ++ h :: tail, f.1 = M.nx h.1 op ∧ f.2.1 = K.nx h.2.1 op) :
    BInv M K a b (done ++ h :: (tail ++ [(M.nx h.1 op, K.nx h.2.1 op, h.2.2 ++ [op])])) (Tried done h (op + 1)) := by
  have hall : done ++ h :: (tail ++ [(M.nx h.1 op, K.nx h.2.1 op, h.2.2 ++ [op])]) = (done ++ h :: tail) ++ [(M.nx h.1 op, K.nx h.2.1 op, h.2.2 ++ [op])] := by simp
  have hh : h ∈ done ++ h :: tail := by simp
  obtain ⟨p1, p2, p3, p4⟩ := hi.path h hh
  rw [hall]
  refine ⟨?_, ?_, ?_, ?_, ?_, ?_⟩
  · intro e he
    rcases List.mem_append.1 he with he | he
    · exact hi.path e he
    · simp only [List.mem_singleton] at he; subst he
      refine ⟨by rw [stM_snoc, ← p1], by rw [stM_snoc, ← p2], by rw [anM_snoc, anM_snoc, p3, ← p1, ← p2, hsy], fun x hx => ?_⟩
      rcases List.mem_append.1 hx with hx | hx
      · exact p4 x hx
      · simp only [List.mem_singleton] at hx; subst hx; exact hop
  · refine List.pairwise_append.2 ⟨hi.sorted, by simp, fun e he f hf => ?_⟩
    simp only [List.mem_singleton] at hf; subst hf
    exact hi.before he
  · refine List.pairwise_append.2 ⟨hi.apart, by simp, fun e he f hf => ?_⟩
    simp only [List.mem_singleton] at hf; subst hf
    intro h1
    exact hs ⟨e, he, h1⟩
  · intro e he o ho hH
    rcases List.mem_append.1 he with he | he
    · rcases tried_succ.1 hH with hH | ⟨rfl, rfl⟩
      · obtain ⟨h1, f, hf, h2⟩ := hi.closed e he o ho hH
        exact ⟨h1, f, List.mem_append.2 (.inl hf), h2⟩
      · exact ⟨hsy, _, List.mem_append.2 (.inr (List.mem_singleton.2 rfl)), rfl, rfl, sle_refl _⟩
    · simp only [List.mem_singleton] at he; subst he
      rcases tried_succ.1 hH with (hd | ⟨heq, _⟩) | ⟨heq, _⟩
      · obtain ⟨h1, f, hf, h2⟩ := hi.closed _ (List.mem_append.2 (.inl hd)) o ho (.inl hd)
        exact ⟨h1, f, List.mem_append.2 (.inl hf), h2⟩
      · have := congrArg (fun e : E => e.2.2.length) heq
        simp at this
      · have := congrArg (fun e : E => e.2.2.length) heq
        simp at this
  · obtain ⟨f, hf, h1⟩ := hi.root
    exact ⟨f, List.mem_append.2 (.inl hf), h1⟩
  · intro f hf
    rcases List.mem_append.1 hf with hf | hf
    · rcases hi.short f hf with h1 | ⟨e, he, o, ho, hw⟩
      · exact .inl h1
      · exact .inr ⟨e, List.mem_append.2 (.inl he), o, tried_succ.2 (.inl ho), hw⟩
    · simp only [List.mem_singleton] at hf; subst hf
      exact .inr ⟨h, List.mem_append.2 (.inl hh), op, tried_succ.2 (.inr ⟨rfl, rfl⟩), rfl⟩

/-- The next entry is done. -/
theorem BInv.next (hi : BInv M K a b (done ++ h :: tail) (Tried done h M.k)) : BInv M K a b ((done ++ [h]) ++ tail) (fun e _ => e ∈ done ++ [h]) := by
  have hall : (done ++ [h]) ++ tail = done ++ h :: tail := by simp
  rw [hall]
  refine hi.congr (fun e he o ho => ?_) (fun e o hh => ?_)
  · simp [Tried, ho]
  · rcases hh with h1 | ⟨rfl, _⟩ <;> simp [*]

theorem BInv.begin (hi : BInv M K a b (done ++ h :: tail) (fun e _ => e ∈ done)) : BInv M K a b (done ++ h :: tail) (Tried done h 0) :=
  hi.congr (fun e he o ho => by simp [Tried]) (fun e o hh => .inl hh)

theorem take_snoc_nth {v : List Nat} {i : Nat} (h : i < v.length) : v.take (i + 1) = v.take i ++ [nthN v i] := take_succ_nthN h

theorem OkW.snoc {k : Nat} {v : List Nat} (h : OkW k v) {i : Nat} (hi : i < v.length) : nthN v i < k := h.nth hi

/-- The first call with other answers: its word is the first one. -/
theorem BInv.found (hi : BInv M K a b (done ++ h :: tail) (Tried done h op)) (hop : op < M.k) (hsy : M.sy h.1 op ≠ K.sy h.2.1 op) : IsFirst M K a b (h.2.2 ++ [op]) := by
  have hh : h ∈ done ++ h :: tail := by simp
  obtain ⟨p1, p2, p3, p4⟩ := hi.path h hh
  refine ⟨fun x hx => ?_, ?_, fun v hv ht => ?_⟩
  · rcases List.mem_append.1 hx with hx | hx
    · exact p4 x hx
    · simp only [List.mem_singleton] at hx; subst hx; exact hop
  · rw [anM_snoc, anM_snoc, p3, ← p1, ← p2]
    intro e
    exact hsy (by simpa using e)
  · have step : ∀ i, i ≤ v.length → sle (h.2.2 ++ [op]) v ∨ (anM M a (v.take i) = anM K b (v.take i) ∧ ∃ f ∈ done ++ h :: tail, f.1 = stM M a (v.take i) ∧ f.2.1 = stM K b (v.take i) ∧ sle f.2.2 (v.take i)) := by
      intro i
      induction i with
      | zero =>
        intro _
        obtain ⟨f, hf, h1, h2, h3⟩ := hi.root
        exact .inr ⟨by simp [anM], f, hf, by simpa [stM] using h1, by simpa [stM] using h2, by rw [h3]; simpa using sle_refl _⟩
      | succ i ih =>
        intro hlt
        rcases ih (by omega) with hgoal | ⟨hag, f, hf, f1, f2, f3⟩
        · exact .inl hgoal
        · have hc := hv.nth (show i < v.length by omega)
          have tk := take_succ_nthN (show i < v.length by omega)
          have hpre : sle (v.take i ++ [nthN v i]) v := by rw [← tk]; conv => rhs; rw [← List.take_append_drop (i + 1) v]
                                                           exact sle_prefix _ _
          have good : Tried done h op f (nthN v i) → sle (h.2.2 ++ [op]) v ∨ (anM M a (v.take (i + 1)) = anM K b (v.take (i + 1)) ∧ ∃ f ∈ done ++ h :: tail, f.1 = stM M a (v.take (i + 1)) ∧ f.2.1 = stM K b (v.take (i + 1)) ∧ sle f.2.2 (v.take (i + 1))) := by
            intro hT
            obtain ⟨g1, g, hg, g2, g3, g4⟩ := hi.closed f hf _ hc hT
            refine .inr ⟨by rw [tk, anM_snoc, anM_snoc, hag, ← f1, ← f2, g1], g, hg, by rw [tk, stM_snoc, ← f1, g2], by rw [tk, stM_snoc, ← f2, g3], ?_⟩
            rw [tk]
            exact sle_trans g4 (sle_snoc_le f3 (Nat.le_refl _))
          rcases List.mem_append.1 hf with hd | hd
          · exact good (.inl hd)
          · rcases List.mem_cons.1 hd with rfl | hd
            · rcases Nat.lt_or_ge (nthN v i) op with hlt' | hge
              · exact good (.inr ⟨rfl, hlt'⟩)
              · exact .inl (sle_trans (sle_snoc_le f3 hge) hpre)
            · obtain ⟨b1, b2⟩ := hi.back hd
              refine .inl (sle_trans (sle_snoc op _ (sle_trans b1 f3) ?_) hpre)
              intro e
              exact b2 (sle_antisymm b1 (by rw [e]; exact f3))
    rcases step v.length (Nat.le_refl _) with hgoal | ⟨hag, _⟩
    · exact hgoal
    · rw [List.take_of_length_le (Nat.le_refl _)] at hag
      exact absurd hag ht

/-- Nothing is left: no word tells. -/
theorem BInv.none (hi : BInv M K a b done (fun e _ => e ∈ done)) : NoTells M K a b := by
  intro v hv
  have step : ∀ i, i ≤ v.length → (anM M a (v.take i) = anM K b (v.take i) ∧ ∃ f ∈ done, f.1 = stM M a (v.take i) ∧ f.2.1 = stM K b (v.take i)) := by
    intro i
    induction i with
    | zero =>
      intro _
      obtain ⟨f, hf, h1, h2, _⟩ := hi.root
      exact ⟨by simp [anM], f, hf, by simpa [stM] using h1, by simpa [stM] using h2⟩
    | succ i ih =>
      intro hlt
      obtain ⟨hag, f, hf, f1, f2⟩ := ih (by omega)
      have hc := hv.nth (show i < v.length by omega)
      have tk := take_succ_nthN (show i < v.length by omega)
      obtain ⟨g1, g, hg, g2, g3, g4⟩ := hi.closed f hf _ hc hf
      exact ⟨by rw [tk, anM_snoc, anM_snoc, hag, ← f1, ← f2, g1], g, hg, by rw [tk, stM_snoc, ← f1, g2], by rw [tk, stM_snoc, ← f2, g3]⟩
  have := (step v.length (Nat.le_refl _)).1
  rwa [List.take_of_length_le (Nat.le_refl _)] at this

end

/-! ### How many entries there are -/

theorem nodup_lt_length : ∀ (n : Nat) (l : List Nat), l.Nodup → (∀ x ∈ l, x < n) → l.length ≤ n
  | 0, l, _, h => by
    rcases l with _ | ⟨x, l⟩
    · simp
    · exact absurd (h x (by simp)) (by omega)
  | n + 1, l, hn, h => by
    have h1 : (l.filter (fun x => decide (x ≠ n))).length ≤ n := by
      refine nodup_lt_length n _ (hn.filter _) (fun x hx => ?_)
      rw [List.mem_filter] at hx
      have := h x hx.1
      have h2 := hx.2
      simp at h2
      omega
    have h2 : l.length = (l.filter (fun x => decide (x ≠ n))).length + (l.filter (fun x => !decide (x ≠ n))).length := by
      rw [← List.countP_eq_length_filter, ← List.countP_eq_length_filter]
      have e := List.length_eq_countP_add_countP (fun x => decide (x ≠ n)) (l := l)
      rw [e]
      congr 1
      apply List.countP_congr
      intro x _
      simp
    have h3 : (l.filter (fun x => !decide (x ≠ n))).length ≤ 1 := by
      have hnd := hn.filter (fun x => !decide (x ≠ n))
      have hall : ∀ x ∈ l.filter (fun x => !decide (x ≠ n)), x = n := fun x hx => by simpa using (List.mem_filter.1 hx).2
      generalize l.filter (fun x => !decide (x ≠ n)) = m at hnd hall ⊢
      rcases m with _ | ⟨x, m⟩
      · simp
      · rcases m with _ | ⟨y, m⟩
        · simp
        · have e1 := hall x (by simp)
          have e2 := hall y (by simp)
          simp [e1, e2] at hnd
    omega

theorem BInv.few {M K : Mach} {a b : Nat} {all : List E} {H : E → Nat → Prop} (hi : BInv M K a b all H) (hM : M.WF) (hK : K.WF) (hk : M.k = K.k) (ha : a < M.n) (hb : b < K.n) : all.length ≤ 64 := by
  have hnd : (all.map fun e => 8 * e.1 + e.2.1).Nodup := by
    rw [List.nodup_iff_pairwise_ne, List.pairwise_map]
    refine List.Pairwise.imp_of_mem (fun {e f} he hf h => ?_) hi.apart
    intro heq
    obtain ⟨e1, e2, _, e4⟩ := hi.path e he
    obtain ⟨f1, f2, _, f4⟩ := hi.path f hf
    have b1 := stM_lt hK hb (ws := e.2.2) (by rw [← hk]; exact e4)
    have b2 := stM_lt hK hb (ws := f.2.2) (by rw [← hk]; exact f4)
    have := hK.n8
    exact h ⟨by omega, by omega⟩
  have := nodup_lt_length 64 _ hnd (fun x hx => by
    obtain ⟨e, he, rfl⟩ := List.mem_map.1 hx
    obtain ⟨e1, e2, _, e4⟩ := hi.path e he
    have b1 := stM_lt hM ha (ws := e.2.2) e4
    have b2 := stM_lt hK hb (ws := e.2.2) (by rw [← hk]; exact e4)
    have := hK.n8
    have := hM.n8
    omega)
  simpa using this

/-- Words are short. -/
theorem BInv.wordlen {M K : Mach} {a b : Nat} {all : List E} {H : E → Nat → Prop} (hi : BInv M K a b all H) {f : E} (hf : f ∈ all) : f.2.2.length < all.length := by
  have chain : ∀ n (f : E), f ∈ all → f.2.2.length = n → ∀ m, m ≤ n → ∃ e ∈ all, e.2.2.length = m := by
    intro n
    induction n with
    | zero => intro f hf hl m hm; exact ⟨f, hf, by omega⟩
    | succ n ih =>
      intro f hf hl m hm
      rcases Nat.lt_or_ge n m with h1 | h1
      · exact ⟨f, hf, by omega⟩
      · rcases hi.short f hf with h2 | ⟨e, he, o, _, hw⟩
        · rw [h2] at hl; simp at hl
        · refine ih e he ?_ m h1
          rw [hw] at hl; simp at hl; exact hl
  have hsub : List.range (f.2.2.length + 1) ⊆ all.map (fun e => e.2.2.length) := by
    intro m hm
    rw [List.mem_range] at hm
    obtain ⟨e, he, hl⟩ := chain _ f hf rfl m (by omega)
    exact List.mem_map.2 ⟨e, he, hl⟩
  have := List.nodup_range.length_le_of_subset hsub
  simp at this
  omega

end Go.Lin
