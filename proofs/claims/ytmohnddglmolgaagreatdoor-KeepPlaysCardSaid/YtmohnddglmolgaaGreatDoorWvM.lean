/- The plain model of a weave: letters, words, what depends; no program in sight. Plain laws: how many words a class has, its words in order, what two words have in common; no program in sight. Plain laws: what two words have in common is the greatest word that begins both; the word that both begin is the least one. No program in sight. Plain laws: the layers of a word: what they are, that there is but one such list for a class, and how a letter behind a word falls. Plain laws: the words of a class: which they are, that each is there once, in order; the word turned round. Plain law: how many words a class has, by a table of sets of occurrences. -/
import Derived.Test.YtmohnddglmolgaaGreatDoorBase
import Derived.Lib.QuoteBits
namespace Go.Lin.Wv

/-- Letters, and the pairs that depend. -/
structure Lt where
  n : Int
  ps : List (Int × Int)

def pairOk (n : Int) (p : Int × Int) : Bool := !(decide (p.1 < 0) || decide (p.2 ≤ p.1) || decide (n ≤ p.2))

/-- The pairs are right, each is there once. -/
def pairsOk (n : Int) : List (Int × Int) → List (Int × Int) → Bool
  | _, [] => true
  | seen, p :: ps => pairOk n p && !seen.contains p && pairsOk n (seen ++ [p]) ps

def valid (L : Lt) : Bool := pairsOk L.n [] L.ps && (decide (1 ≤ L.n) && decide (L.n ≤ 6))

def hits (a b : Int) (p : Int × Int) : Bool := (p.1 == a && p.2 == b) || (p.1 == b && p.2 == a)
def dep (L : Lt) (a b : Int) : Bool := a == b || L.ps.any (hits a b)

def isL (L : Lt) (a : Int) : Bool := decide (0 ≤ a) && decide (a ≤ L.n - 1)
def isW (L : Lt) (w : List Int) : Bool := decide (w.length ≤ 10) && w.all (isL L)

/-- What is wrong with letters and words. -/
def wrong (L : Lt) (ws : List (List Int)) : Int := if valid L then (if ws.all (isW L) then 0 else 31) else 30

/-- Where the first occurrence of a letter is, if it can be brought to the front. -/
def free (D : Int → Int → Bool) : List Int → Int → Option Nat
  | [], _ => none
  | b :: w, a => if b = a then some 0 else if D a b then none else (free D w a).map (· + 1)

/-- What is left behind a letter that is taken off the front. -/
def rem (D : Int → Int → Bool) (w : List Int) (a : Int) : List Int := match free D w a with | some i => w.eraseIdx i | none => w

def starts (D : Int → Int → Bool) (n : Nat) (w : List Int) : List Int := ((List.range n).map Int.ofNat).filter (fun a => (free D w a).isSome)

def firstN (D : Int → Int → Bool) (n : Nat) : Nat → List Int → List Int
  | 0, _ => []
  | k + 1, w => match starts D n w with | [] => [] | a :: _ => a :: firstN D n k (rem D w a)

/-- The first form. -/
def first (D : Int → Int → Bool) (n : Nat) (w : List Int) : List Int := firstN D n w.length w

/-- What is left of a word behind another one. -/
def rest (D : Int → Int → Bool) : List Int → List Int → Option (List Int)
  | [], w => some w
  | a :: u, w => match free D w a with | none => none | some i => rest D u (w.eraseIdx i)

/-! ### What holds of words -/

/-- The occurrences of two letters. -/
def pr (a b : Int) (w : List Int) : List Int := w.filter (fun x => x == a || x == b)

/-- Words are alike: all their projections to letters that depend are. -/
def Alike (D : Int → Int → Bool) (w v : List Int) : Prop := ∀ a b, D a b = true → pr a b w = pr a b v

variable {D : Int → Int → Bool}

theorem Alike.refl (w : List Int) : Alike D w w := fun _ _ _ => rfl
theorem Alike.symm {w v : List Int} (h : Alike D w v) : Alike D v w := fun a b hd => (h a b hd).symm
theorem Alike.trans {w v u : List Int} (h : Alike D w v) (h2 : Alike D v u) : Alike D w u := fun a b hd => (h a b hd).trans (h2 a b hd)

theorem pr_append (a b : Int) (w v : List Int) : pr a b (w ++ v) = pr a b w ++ pr a b v := List.filter_append ..

theorem Alike.append {w v u x : List Int} (h : Alike D w v) (h2 : Alike D u x) : Alike D (w ++ u) (v ++ x) := fun a b hd => by
  rw [pr_append, pr_append, h a b hd, h2 a b hd]

theorem Alike.cancel {u w v : List Int} (h : Alike D (u ++ w) (u ++ v)) : Alike D w v := fun a b hd => by
  have := h a b hd
  rw [pr_append, pr_append] at this
  exact List.append_cancel_left this

theorem Alike.cancel_right {u w v : List Int} (h : Alike D (w ++ u) (v ++ u)) : Alike D w v := fun a b hd => by
  have := h a b hd
  rw [pr_append, pr_append] at this
  exact List.append_cancel_right this

theorem Alike.cons {w v : List Int} (a : Int) (h : Alike D w v) : Alike D (a :: w) (a :: v) := (Alike.refl [a]).append h
theorem Alike.tail {a : Int} {w v : List Int} (h : Alike D (a :: w) (a :: v)) : Alike D w v := Alike.cancel (u := [a]) h

theorem pr_cons (a b x : Int) (w : List Int) : pr a b (x :: w) = if x = a ∨ x = b then x :: pr a b w else pr a b w := by
  unfold pr
  rw [List.filter_cons]
  simp

/-- A letter can be brought to the front exactly if each projection begins with it. -/
theorem free_iff (hr : ∀ a, D a a = true) (a : Int) : ∀ w : List Int, (free D w a).isSome = true ↔ ∀ c, D a c = true → (pr a c w).head? = some a
  | [] => by
    simp only [free, Option.isSome_none, Bool.false_eq_true, false_iff]
    intro h
    have := h a (hr a)
    simp [pr] at this
  | b :: w => by
    have ih := free_iff hr a w
    by_cases hb : b = a
    · subst hb
      simp [free, pr_cons]
    · cases hd : D a b with
      | true =>
        simp only [free, hb, if_false, hd, if_true, Option.isSome_none, Bool.false_eq_true, false_iff]
        intro h
        have := h b hd
        rw [pr_cons] at this
        simp [hb] at this
      | false =>
        simp only [free, hb, if_false, hd, Bool.false_eq_true, Option.isSome_map]
        rw [ih]
        refine forall_congr' fun c => imp_congr_right fun hc => ?_
        have hbc : b ≠ c := fun e => by subst e; rw [hd] at hc; exact absurd hc (by simp)
        rw [pr_cons, if_neg (by rintro (h | h); exact hb h; exact hbc h)]

theorem free_alike (hr : ∀ a, D a a = true) {w v : List Int} (h : Alike D w v) (a : Int) : (free D w a).isSome = (free D v a).isSome := by
  rw [Bool.eq_iff_iff, free_iff hr, free_iff hr]
  exact forall_congr' fun c => imp_congr_right fun hc => by rw [h a c hc]

/-- A word is alike to one with such a letter in front of what is left. -/
theorem alike_free (hs : ∀ a b, D a b = D b a) {a : Int} : ∀ {w : List Int} {i : Nat}, free D w a = some i → Alike D w (a :: w.eraseIdx i)
  | [], i, h => by simp [free] at h
  | b :: w, i, h => by
    unfold free at h
    by_cases hb : b = a
    · subst hb
      simp only [if_true] at h
      cases h
      exact Alike.refl _
    · rw [if_neg hb] at h
      cases hd : D a b with
      | true => rw [hd] at h; simp at h
      | false =>
        rw [hd] at h
        simp only [Bool.false_eq_true, if_false, Option.map_eq_some_iff] at h
        obtain ⟨j, hj, rfl⟩ := h
        have ih := alike_free hs hj
        rw [List.eraseIdx_cons_succ]
        refine ((ih.cons b)).trans fun c d hcd => ?_
        rw [pr_cons c d b, pr_cons c d a, pr_cons c d a, pr_cons c d b]
        by_cases h1 : b = c ∨ b = d
        · by_cases h2 : a = c ∨ a = d
          · exfalso
            rcases h1 with rfl | rfl <;> rcases h2 with rfl | rfl
            · exact hb rfl
            · rw [hs] at hcd; rw [hcd] at hd; exact absurd hd (by simp)
            · rw [hcd] at hd; exact absurd hd (by simp)
            · exact hb rfl
          · simp [h1, h2]
        · simp [h1]

theorem free_of_alike (hr : ∀ a, D a a = true) {w v : List Int} {a : Int} (h : Alike D w (a :: v)) : ∃ i, free D w a = some i := by
  have : (free D w a).isSome = true := by
    rw [free_alike hr h]
    simp [free]
  exact Option.isSome_iff_exists.1 this

theorem erase_alike (hs : ∀ a b, D a b = D b a) {w v : List Int} {a : Int} {i : Nat} (h : Alike D w (a :: v)) (hf : free D w a = some i) : Alike D (w.eraseIdx i) v :=
  Alike.tail ((alike_free hs hf).symm.trans h)

theorem rest_alike (hs : ∀ a b, D a b = D b a) : ∀ {u w v : List Int}, rest D u w = some v → Alike D w (u ++ v)
  | [], w, v, h => by simp only [rest, Option.some.injEq] at h; subst h; exact Alike.refl _
  | a :: u, w, v, h => by
    unfold rest at h
    cases hf : free D w a with
    | none => rw [hf] at h; simp at h
    | some i =>
      rw [hf] at h
      exact (alike_free hs hf).trans ((rest_alike hs h).cons a)

theorem rest_of_alike (hr : ∀ a, D a a = true) (hs : ∀ a b, D a b = D b a) : ∀ {u w v : List Int}, Alike D w (u ++ v) → ∃ x, rest D u w = some x ∧ Alike D x v
  | [], w, v, h => ⟨w, rfl, h⟩
  | a :: u, w, v, h => by
    obtain ⟨i, hi⟩ := free_of_alike hr h
    obtain ⟨x, hx, ha⟩ := rest_of_alike hr hs (erase_alike hs h hi)
    exact ⟨x, by unfold rest; rw [hi]; exact hx, ha⟩

theorem pr_self (a : Int) (w : List Int) : pr a a w = List.replicate (w.count a) a := by
  unfold pr
  simp only [Bool.or_self]
  rw [List.filter_beq]

theorem Alike.count (hr : ∀ a, D a a = true) {w v : List Int} (h : Alike D w v) (a : Int) : w.count a = v.count a := by
  have := congrArg List.length (h a a (hr a))
  rwa [pr_self, pr_self, List.length_replicate, List.length_replicate] at this

theorem Alike.perm (hr : ∀ a, D a a = true) {w v : List Int} (h : Alike D w v) : w.Perm v := List.perm_iff_count.2 (h.count hr)
theorem Alike.length (hr : ∀ a, D a a = true) {w v : List Int} (h : Alike D w v) : w.length = v.length := (h.perm hr).length_eq
theorem Alike.nil (hr : ∀ a, D a a = true) {w : List Int} (h : Alike D w []) : w = [] := List.length_eq_zero_iff.1 (h.length hr)

/-- Two words are alike exactly if the one is all of the other one. -/
theorem alike_iff (hr : ∀ a, D a a = true) (hs : ∀ a b, D a b = D b a) {w v : List Int} : rest D w v = some [] ↔ Alike D w v := by
  constructor
  · intro h; have := rest_alike hs h; rw [List.append_nil] at this; exact this.symm
  · intro h
    obtain ⟨x, hx, ha⟩ := rest_of_alike hr hs (u := w) (w := v) (v := []) (by rw [List.append_nil]; exact h.symm)
    rw [hx, ha.nil hr]

/-! ### First forms -/

theorem starts_alike (hr : ∀ a, D a a = true) (n : Nat) {w v : List Int} (h : Alike D w v) : starts D n w = starts D n v := by
  unfold starts
  congr 1
  funext a
  exact free_alike hr h a

theorem mem_starts {n : Nat} {w : List Int} {a : Int} : a ∈ starts D n w ↔ (0 ≤ a ∧ a < n) ∧ (free D w a).isSome = true := by
  unfold starts
  rw [List.mem_filter]
  refine and_congr_left fun _ => ?_
  simp only [List.mem_map, List.mem_range]
  constructor
  · rintro ⟨k, hk, rfl⟩; simp; omega
  · rintro ⟨h0, h1⟩; exact ⟨a.toNat, by omega, by simp; omega⟩

theorem free_lt {a : Int} : ∀ {w : List Int} {i : Nat}, free D w a = some i → ∃ h : i < w.length, w[i] = a
  | [], i, h => by simp [free] at h
  | b :: w, i, h => by
    unfold free at h
    by_cases hb : b = a
    · rw [if_pos hb] at h; cases h; exact ⟨by simp, hb⟩
    · rw [if_neg hb] at h
      split at h
      · simp at h
      · rw [Option.map_eq_some_iff] at h
        obtain ⟨j, hj, rfl⟩ := h
        obtain ⟨h1, h2⟩ := free_lt hj
        exact ⟨by simp; omega, by simpa using h2⟩

theorem free_head (w : List Int) (a : Int) : free D (a :: w) a = some 0 := by simp [free]

theorem rem_alike (hs : ∀ a b, D a b = D b a) {w : List Int} {a : Int} (h : (free D w a).isSome = true) : Alike D w (a :: rem D w a) := by
  obtain ⟨i, hi⟩ := Option.isSome_iff_exists.1 h
  unfold rem
  rw [hi]
  exact alike_free hs hi

theorem rem_length {w : List Int} {a : Int} (h : (free D w a).isSome = true) : (rem D w a).length + 1 = w.length := by
  obtain ⟨i, hi⟩ := Option.isSome_iff_exists.1 h
  unfold rem
  rw [hi]
  obtain ⟨hl, _⟩ := free_lt hi
  simp only [List.length_eraseIdx, hl, if_true]
  omega

theorem rem_sub {w : List Int} {a x : Int} (h : x ∈ rem D w a) : x ∈ w := by
  unfold rem at h
  split at h
  · exact List.mem_of_mem_eraseIdx h
  · exact h

theorem firstN_alike (hr : ∀ a, D a a = true) (hs : ∀ a b, D a b = D b a) (n : Nat) : ∀ (k : Nat) {w v : List Int}, Alike D w v → firstN D n k w = firstN D n k v
  | 0, _, _, _ => rfl
  | k + 1, w, v, h => by
    have hst := starts_alike hr n h
    unfold firstN
    rw [← hst]
    cases hs' : starts D n w with
    | nil => rfl
    | cons a l =>
      have hm : a ∈ starts D n w := by rw [hs']; simp
      have hw := (mem_starts.1 hm).2
      have hv : (free D v a).isSome = true := by rw [← free_alike hr h]; exact hw
      simp only
      rw [firstN_alike hr hs n k (Alike.tail ((rem_alike hs hw).symm.trans (h.trans (rem_alike hs hv))))]

theorem first_alike (hr : ∀ a, D a a = true) (hs : ∀ a b, D a b = D b a) (n : Nat) {w v : List Int} (h : Alike D w v) : first D n w = first D n v := by
  unfold first
  rw [h.length hr]
  exact firstN_alike hr hs n _ h

/-- A word that has letters has a first one. -/
theorem starts_ne {n : Nat} {w : List Int} (hw : ∀ x ∈ w, 0 ≤ x ∧ x < n) (hne : w ≠ []) : starts D n w ≠ [] := by
  obtain ⟨a, l, rfl⟩ := List.exists_cons_of_ne_nil hne
  have : a ∈ starts D n (a :: l) := mem_starts.2 ⟨hw a (by simp), by simp [free]⟩
  intro e
  rw [e] at this
  simp at this

theorem alike_firstN (hs : ∀ a b, D a b = D b a) (n : Nat) : ∀ (k : Nat) {w : List Int}, w.length ≤ k → (∀ x ∈ w, 0 ≤ x ∧ x < n) → Alike D w (firstN D n k w)
  | 0, w, hk, _ => by
    obtain rfl : w = [] := List.length_eq_zero_iff.1 (by omega)
    exact Alike.refl _
  | k + 1, w, hk, hw => by
    unfold firstN
    cases hs' : starts D n w with
    | nil =>
      by_cases hne : w = []
      · subst hne; exact Alike.refl _
      · exact absurd hs' (starts_ne hw hne)
    | cons a l =>
      have hm : a ∈ starts D n w := by rw [hs']; simp
      have hf := (mem_starts.1 hm).2
      have hl := rem_length hf
      exact (rem_alike hs hf).trans ((alike_firstN hs n k (by omega) (fun x hx => hw x (rem_sub hx))).cons a)

theorem alike_first (hs : ∀ a b, D a b = D b a) {n : Nat} {w : List Int} (hw : ∀ x ∈ w, 0 ≤ x ∧ x < n) : Alike D w (first D n w) := alike_firstN hs n _ (Nat.le_refl _) hw

theorem first_iff (hr : ∀ a, D a a = true) (hs : ∀ a b, D a b = D b a) {n : Nat} {w v : List Int} (hw : ∀ x ∈ w, 0 ≤ x ∧ x < n) (hv : ∀ x ∈ v, 0 ≤ x ∧ x < n) : first D n w = first D n v ↔ Alike D w v :=
  ⟨fun h => (alike_first hs hw).trans (h ▸ (alike_first hs hv).symm), first_alike hr hs n⟩

theorem dep_refl (L : Lt) (a : Int) : dep L a a = true := by simp [dep]
theorem hits_comm (a b : Int) (p : Int × Int) : hits a b p = hits b a p := by unfold hits; exact Bool.or_comm _ _
theorem dep_comm (L : Lt) (a b : Int) : dep L a b = dep L b a := by
  unfold dep
  rw [show hits a b = hits b a from funext (hits_comm a b), show (a == b) = (b == a) from Bool.eq_iff_iff.2 (by rw [beq_iff_eq, beq_iff_eq]; exact eq_comm)]

end Go.Lin.Wv
namespace Go.Lin.Wv

variable {D : Int → Int → Bool}

/-! ### How many words a class has -/

def sizeN (D : Int → Int → Bool) (n : Nat) : Nat → List Int → Nat
  | 0, _ => 1
  | k + 1, w => ((starts D n w).map fun a => sizeN D n k (rem D w a)).sum

def sizeM (D : Int → Int → Bool) (n : Nat) (w : List Int) : Nat := sizeN D n w.length w

theorem starts_length (n : Nat) (w : List Int) : (starts D n w).length ≤ n := by
  unfold starts
  refine Nat.le_trans (List.length_filter_le _ _) ?_
  simp

theorem sum_le {l : List Nat} {b : Nat} (h : ∀ x ∈ l, x ≤ b) : l.sum ≤ l.length * b := by
  induction l with
  | nil => simp
  | cons x l ih =>
    simp only [List.sum_cons, List.length_cons, Nat.add_mul, Nat.one_mul]
    have := h x (by simp)
    have := ih (fun y hy => h y (by simp [hy]))
    omega

theorem sizeN_le (n : Nat) : ∀ (k : Nat) (w : List Int), sizeN D n k w ≤ n ^ k
  | 0, _ => by simp [sizeN]
  | k + 1, w => by
    unfold sizeN
    have h := sum_le (l := (starts D n w).map fun a => sizeN D n k (rem D w a)) (b := n ^ k) (fun x hx => by
      obtain ⟨a, _, rfl⟩ := List.mem_map.1 hx
      exact sizeN_le n k _)
    rw [List.length_map] at h
    have h2 := starts_length (D := D) n w
    calc _ ≤ (starts D n w).length * n ^ k := h
      _ ≤ n * n ^ k := Nat.mul_le_mul_right _ h2
      _ = n ^ (k + 1) := by rw [Nat.pow_succ, Nat.mul_comm]

theorem rem_both (hs : ∀ a b, D a b = D b a) {w v : List Int} {a : Int} (h : Alike D w v) (hw : (free D w a).isSome = true) (hv : (free D v a).isSome = true) : Alike D (rem D w a) (rem D v a) :=
  Alike.tail ((rem_alike hs hw).symm.trans (h.trans (rem_alike hs hv)))

theorem sizeN_alike (hr : ∀ a, D a a = true) (hs : ∀ a b, D a b = D b a) (n : Nat) : ∀ (k : Nat) {w v : List Int}, Alike D w v → sizeN D n k w = sizeN D n k v
  | 0, _, _, _ => rfl
  | k + 1, w, v, h => by
    unfold sizeN
    rw [← starts_alike hr n h]
    congr 1
    refine List.map_congr_left fun a ha => ?_
    have hw := (mem_starts.1 ha).2
    exact sizeN_alike hr hs n k (rem_both hs h hw (by rw [← free_alike hr h]; exact hw))

theorem sizeM_alike (hr : ∀ a, D a a = true) (hs : ∀ a b, D a b = D b a) (n : Nat) {w v : List Int} (h : Alike D w v) : sizeM D n w = sizeM D n v := by
  unfold sizeM
  rw [h.length hr]
  exact sizeN_alike hr hs n _ h

theorem sizeM_nil (n : Nat) : sizeM D n [] = 1 := rfl

theorem sizeM_step {n : Nat} {w : List Int} (hw : w ≠ []) : sizeM D n w = ((starts D n w).map fun a => sizeM D n (rem D w a)).sum := by
  obtain ⟨x, l, rfl⟩ := List.exists_cons_of_ne_nil hw
  unfold sizeM
  rw [List.length_cons]
  show ((starts D n (x :: l)).map fun a => sizeN D n l.length (rem D (x :: l) a)).sum = _
  congr 1
  refine List.map_congr_left fun a ha => ?_
  have := rem_length (mem_starts.1 ha).2
  rw [List.length_cons] at this
  rw [show (rem D (x :: l) a).length = l.length by omega]

theorem sizeM_le {n : Nat} (h6 : n ≤ 6) {w : List Int} (hw : w.length ≤ 10) : sizeM D n w ≤ 60466176 := by
  unfold sizeM
  refine Nat.le_trans (sizeN_le n _ _) ?_
  calc n ^ w.length ≤ 6 ^ w.length := Nat.pow_le_pow_left h6 _
    _ ≤ 6 ^ 10 := Nat.pow_le_pow_right (by decide) hw
    _ = 60466176 := by decide

/-! ### The words of a class, in order -/

def classN (D : Int → Int → Bool) (n : Nat) : Nat → List Int → List (List Int)
  | 0, _ => [[]]
  | k + 1, w => (starts D n w).flatMap fun a => (classN D n k (rem D w a)).map (a :: ·)

def classM (D : Int → Int → Bool) (n : Nat) (w : List Int) : List (List Int) := classN D n w.length w

theorem classM_nil (n : Nat) : classM D n [] = [[]] := rfl

theorem classM_step {n : Nat} {w : List Int} (hw : w ≠ []) : classM D n w = (starts D n w).flatMap fun a => (classM D n (rem D w a)).map (a :: ·) := by
  obtain ⟨x, l, rfl⟩ := List.exists_cons_of_ne_nil hw
  unfold classM
  rw [List.length_cons]
  show ((starts D n (x :: l)).flatMap fun a => (classN D n l.length (rem D (x :: l) a)).map (a :: ·)) = _
  rw [List.flatMap_def, List.flatMap_def]
  congr 1
  refine List.map_congr_left fun a ha => ?_
  have := rem_length (mem_starts.1 ha).2
  rw [List.length_cons] at this
  rw [show (rem D (x :: l) a).length = l.length by omega]

theorem classN_length (n : Nat) : ∀ (k : Nat) (w : List Int), (classN D n k w).length = sizeN D n k w
  | 0, _ => rfl
  | k + 1, w => by
    unfold classN sizeN
    rw [List.length_flatMap]
    congr 1
    refine List.map_congr_left fun a _ => ?_
    rw [List.length_map, classN_length]

theorem classM_length (n : Nat) (w : List Int) : (classM D n w).length = sizeM D n w := classN_length n _ _

/-- One more list, as far as there is room. -/
theorem take_more {α : Type} (a b : List α) (n : Nat) : (a ++ b).take n = a.take n ++ b.take (n - (a.take n).length) := by
  rw [List.take_append]
  congr 1
  rw [List.length_take]
  by_cases h : a.length ≤ n
  · rw [Nat.min_eq_right h]
  · rw [Nat.min_eq_left (by omega), show n - a.length = 0 by omega, show n - n = 0 by omega]

/-! ### What two words have in common -/

def meet (D : Int → Int → Bool) (n : Nat) : Nat → List Int → List Int → List Int × List Int × List Int
  | 0, w, v => ([], w, v)
  | k + 1, w, v => match (starts D n w).find? (fun a => (free D v a).isSome) with
    | none => ([], w, v)
    | some a => let r := meet D n k (rem D w a) (rem D v a); (a :: r.1, r.2)

def common (D : Int → Int → Bool) (n : Nat) (w v : List Int) : List Int × List Int × List Int := meet D n w.length w v

theorem common_none {n : Nat} {w v : List Int} (h : (starts D n w).find? (fun a => (free D v a).isSome) = none) : common D n w v = ([], w, v) := by
  unfold common
  cases hl : w.length with
  | zero => rfl
  | succ k => unfold meet; rw [h]

theorem common_some {n : Nat} {w v : List Int} {a : Int} (h : (starts D n w).find? (fun a => (free D v a).isSome) = some a) : common D n w v = (a :: (common D n (rem D w a) (rem D v a)).1, (common D n (rem D w a) (rem D v a)).2) := by
  have hw := (mem_starts.1 (List.mem_of_find?_eq_some h)).2
  have hl := rem_length hw
  unfold common
  rw [← hl]
  conv => lhs; unfold meet
  rw [h]

end Go.Lin.Wv
namespace Go.Lin.Wv

variable {D : Int → Int → Bool} (hr : ∀ a, D a a = true) (hs : ∀ a b, D a b = D b a)

/-- One begins the other one. -/
def Pre (D : Int → Int → Bool) (u w : List Int) : Prop := ∃ s, Alike D w (u ++ s)

/-- A letter can be brought to the front. -/
abbrev Fr (D : Int → Int → Bool) (w : List Int) (a : Int) : Prop := (free D w a).isSome = true

theorem fr_cons {b a : Int} {w : List Int} : Fr D (b :: w) a ↔ b = a ∨ (D a b = false ∧ Fr D w a) := by
  unfold Fr
  rw [show free D (b :: w) a = if b = a then some 0 else if D a b then none else (free D w a).map (· + 1) from rfl]
  by_cases hb : b = a
  · simp [hb]
  · cases hd : D a b <;> simp [hb]

include hr in
theorem fr_mem {a : Int} {w : List Int} (h : Fr D w a) : a ∈ w := by
  obtain ⟨i, hi⟩ := Option.isSome_iff_exists.1 h
  obtain ⟨h1, h2⟩ := free_lt hi
  have := hr a
  exact h2 ▸ List.getElem_mem h1

include hr in
theorem fr_append_mem {u v : List Int} {a : Int} (h : Fr D (u ++ v) a) (ha : a ∈ u) : Fr D u a := by
  induction u with
  | nil => cases ha
  | cons b u ih =>
    rw [List.cons_append] at h
    rcases fr_cons.1 h with rfl | ⟨hd, h⟩
    · exact fr_cons.2 (.inl rfl)
    · rcases List.mem_cons.1 ha with rfl | ha
      · rw [hr] at hd; cases hd
      · exact fr_cons.2 (.inr ⟨hd, ih h ha⟩)

theorem fr_append_not {u v : List Int} {a : Int} (h : Fr D (u ++ v) a) (ha : a ∉ u) : (∀ c ∈ u, D a c = false) ∧ Fr D v a := by
  induction u with
  | nil => exact ⟨fun c hc => (by cases hc), h⟩
  | cons b u ih =>
    rw [List.cons_append] at h
    rcases fr_cons.1 h with rfl | ⟨hd, h⟩
    · exact absurd (List.mem_cons_self ..) ha
    · obtain ⟨h1, h2⟩ := ih h (fun hm => ha (List.mem_cons_of_mem _ hm))
      refine ⟨fun c hc => ?_, h2⟩
      rcases List.mem_cons.1 hc with rfl | hc
      · exact hd
      · exact h1 c hc

theorem fr_append_left {u v : List Int} {a : Int} (h : Fr D u a) : Fr D (u ++ v) a := by
  induction u with
  | nil => unfold Fr free at h; cases h
  | cons b u ih =>
    rw [List.cons_append]
    rcases fr_cons.1 h with h | ⟨hd, h⟩
    · exact fr_cons.2 (.inl h)
    · exact fr_cons.2 (.inr ⟨hd, ih h⟩)

include hr in
theorem fr_alike {u v : List Int} {a : Int} (h : Alike D u v) : Fr D u a ↔ Fr D v a := by unfold Fr; rw [free_alike hr h]

include hs in
/-- Two neighbouring letters that do not depend. -/
theorem swap_alike {a b : Int} (hab : D a b = false) (hr : ∀ a, D a a = true) : Alike D [a, b] [b, a] := by
  have hne : a ≠ b := fun e => by subst e; rw [hr] at hab; cases hab
  intro c d hcd
  have no : ¬ ((a = c ∨ a = d) ∧ (b = c ∨ b = d)) := fun ⟨h1, h2⟩ => by
    rcases h1 with rfl | rfl <;> rcases h2 with rfl | rfl
    · exact hne rfl
    · rw [hcd] at hab; cases hab
    · rw [hs, hcd] at hab; cases hab
    · exact hne rfl
  rw [pr_cons, pr_cons, pr_cons, pr_cons]
  by_cases h1 : a = c ∨ a = d
  · have h2 : ¬ (b = c ∨ b = d) := fun h2 => no ⟨h1, h2⟩
    simp [h1, h2]
  · simp [h1]

include hr hs in
theorem pass_alike {a : Int} {u : List Int} (h : ∀ c ∈ u, D a c = false) : Alike D (a :: u) (u ++ [a]) := by
  induction u with
  | nil => exact Alike.refl _
  | cons b u ih =>
    have h1 := swap_alike hs (h b (by simp)) hr
    have h2 := ih (fun c hc => h c (by simp [hc]))
    exact (h1.append (Alike.refl u)).trans (h2.cons b)

include hr hs in
theorem pass_word {p q : List Int} (h : ∀ a ∈ p, ∀ c ∈ q, D a c = false) : Alike D (p ++ q) (q ++ p) := by
  induction p with
  | nil => rw [List.nil_append, List.append_nil]; exact Alike.refl _
  | cons a p ih =>
    have h1 := ih (fun a' ha' => h a' (by simp [ha']))
    have h2 := pass_alike hr hs (h a (by simp))
    have h3 := (h2.append (Alike.refl p))
    rw [List.append_assoc] at h3
    exact (h1.cons a).trans h3

theorem Pre.refl (w : List Int) : Pre D w w := ⟨[], by rw [List.append_nil]; exact Alike.refl _⟩
theorem Pre.of_alike {u w x : List Int} (h : Pre D u w) (ha : Alike D w x) : Pre D u x := let ⟨s, h1⟩ := h; ⟨s, ha.symm.trans h1⟩
theorem Pre.alike_left {u v w : List Int} (h : Pre D u w) (ha : Alike D u v) : Pre D v w := let ⟨s, h1⟩ := h; ⟨s, h1.trans (ha.append (Alike.refl s))⟩

include hr hs in
theorem pre_iff {u w : List Int} : Pre D u w ↔ (rest D u w).isSome = true := by
  constructor
  · rintro ⟨s, h⟩
    obtain ⟨x, hx, _⟩ := rest_of_alike hr hs h
    rw [hx]; rfl
  · intro h
    obtain ⟨x, hx⟩ := Option.isSome_iff_exists.1 h
    exact ⟨x, rest_alike hs hx⟩

include hr in
theorem Pre.antisymm {u w : List Int} (h : Pre D u w) (h2 : Pre D w u) : Alike D u w := by
  obtain ⟨s, h⟩ := h
  obtain ⟨t, h2⟩ := h2
  have l1 := h.length hr
  have l2 := h2.length hr
  rw [List.length_append] at l1 l2
  have : s = [] := List.length_eq_zero_iff.1 (by omega)
  subst this
  rw [List.append_nil] at h
  exact h.symm

include hs in
/-- The two words fall into what they have in common and what is left. -/
theorem meet_alike (n : Nat) : ∀ (k : Nat) (w v : List Int), Alike D w ((meet D n k w v).1 ++ (meet D n k w v).2.1) ∧ Alike D v ((meet D n k w v).1 ++ (meet D n k w v).2.2)
  | 0, w, v => ⟨Alike.refl _, Alike.refl _⟩
  | k + 1, w, v => by
    unfold meet
    cases hf : (starts D n w).find? (fun a => (free D v a).isSome) with
    | none => exact ⟨Alike.refl _, Alike.refl _⟩
    | some a =>
      have hw := (mem_starts.1 (List.mem_of_find?_eq_some hf)).2
      have hv : (free D v a).isSome = true := by simpa using List.find?_some hf
      obtain ⟨h1, h2⟩ := meet_alike n k (rem D w a) (rem D v a)
      exact ⟨(rem_alike hs hw).trans (h1.cons a), (rem_alike hs hv).trans (h2.cons a)⟩

include hr in
theorem meet_none (n : Nat) : ∀ (k : Nat) (w v : List Int), w.length ≤ k → (∀ z ∈ w, 0 ≤ z ∧ z < (n : Int)) → ∀ a, ¬ (Fr D (meet D n k w v).2.1 a ∧ Fr D (meet D n k w v).2.2 a)
  | 0, w, v, hk, _, a => by
    obtain rfl : w = [] := List.length_eq_zero_iff.1 (by omega)
    rintro ⟨h, _⟩
    have h2 : (free D [] a).isSome = true := h
    cases h2
  | k + 1, w, v, hk, hw, a => by
    unfold meet
    cases hf : (starts D n w).find? (fun a => (free D v a).isSome) with
    | none =>
      rintro ⟨h1, h2⟩
      have hm : a ∈ starts D n w := mem_starts.2 ⟨hw a (fr_mem hr h1), h1⟩
      have := List.find?_eq_none.1 hf a hm
      exact this (by simpa using h2)
    | some b =>
      have hb := (mem_starts.1 (List.mem_of_find?_eq_some hf)).2
      have hl := rem_length hb
      exact meet_none n k (rem D w b) (rem D v b) (by omega) (fun z hz => hw z (rem_sub hz)) a

include hr hs in
/-- Whatever begins both begins what they have in common. -/
theorem meet_great (n : Nat) : ∀ (k : Nat) (w v o : List Int), w.length ≤ k → (∀ z ∈ w, 0 ≤ z ∧ z < (n : Int)) → Pre D o w → Pre D o v → Pre D o (meet D n k w v).1
  | 0, w, v, o, hk, _, h1, _ => by
    obtain rfl : w = [] := List.length_eq_zero_iff.1 (by omega)
    obtain ⟨s, h⟩ := h1
    have := h.length hr
    rw [List.length_append] at this
    have : o = [] := List.length_eq_zero_iff.1 (by simp at this; omega)
    subst this
    exact Pre.refl _
  | k + 1, w, v, o, hk, hw, ⟨s, h1⟩, ⟨t, h2⟩ => by
    unfold meet
    cases hf : (starts D n w).find? (fun a => (free D v a).isSome) with
    | none =>
      cases o with
      | nil => exact Pre.refl _
      | cons a o =>
        exfalso
        have fw : Fr D w a := (fr_alike hr h1).2 (fr_cons.2 (.inl rfl))
        have fv : Fr D v a := (fr_alike hr h2).2 (fr_cons.2 (.inl rfl))
        have hm : a ∈ starts D n w := mem_starts.2 ⟨hw a (fr_mem hr fw), fw⟩
        exact List.find?_eq_none.1 hf a hm (by simpa using fv)
    | some a =>
      have fw : Fr D w a := (mem_starts.1 (List.mem_of_find?_eq_some hf)).2
      have fv : Fr D v a := by simpa using List.find?_some hf
      have hl := rem_length fw
      have rw' := rem_alike hs fw
      have rv := rem_alike hs fv
      have ih := meet_great n k (rem D w a) (rem D v a)
      simp only
      by_cases ha : a ∈ o
      · have fo : Fr D o a := fr_append_mem hr ((fr_alike hr h1).1 fw) ha
        have ro := rem_alike hs fo
        have p1 : Pre D (rem D o a) (rem D w a) := ⟨s, Alike.tail (rw'.symm.trans (h1.trans (ro.append (Alike.refl s))))⟩
        have p2 : Pre D (rem D o a) (rem D v a) := ⟨t, Alike.tail (rv.symm.trans (h2.trans (ro.append (Alike.refl t))))⟩
        obtain ⟨z, hz⟩ := ih (rem D o a) (by omega) (fun x hx => hw x (rem_sub hx)) p1 p2
        exact ⟨z, (hz.cons a).trans (ro.symm.append (Alike.refl z))⟩
      · obtain ⟨d1, fs⟩ := fr_append_not ((fr_alike hr h1).1 fw) ha
        obtain ⟨_, ft⟩ := fr_append_not ((fr_alike hr h2).1 fv) ha
        have pa := pass_alike hr hs d1
        have q1 : Alike D w (a :: (o ++ rem D s a)) := h1.trans (((Alike.refl o).append (rem_alike hs fs)).trans (by
          have := pa.symm.append (Alike.refl (rem D s a))
          rwa [List.append_assoc] at this))
        have q2 : Alike D v (a :: (o ++ rem D t a)) := h2.trans (((Alike.refl o).append (rem_alike hs ft)).trans (by
          have := pa.symm.append (Alike.refl (rem D t a))
          rwa [List.append_assoc] at this))
        obtain ⟨z, hz⟩ := ih o (by omega) (fun x hx => hw x (rem_sub hx)) ⟨_, Alike.tail (rw'.symm.trans q1)⟩ ⟨_, Alike.tail (rv.symm.trans q2)⟩
        refine ⟨a :: z, (hz.cons a).trans ?_⟩
        have := pa.append (Alike.refl z)
        rwa [List.append_assoc] at this

include hr hs in
/-- Two words with no first letter in common, that begin one word: they do not depend, and that word begins with both. -/
theorem apart_both : ∀ (p q s t : List Int), (∀ a, ¬ (Fr D p a ∧ Fr D q a)) → Alike D (p ++ s) (q ++ t) → (∀ a ∈ p, ∀ c ∈ q, D a c = false) ∧ ∃ z, Alike D t (p ++ z)
  | [], q, s, t, _, _ => ⟨fun a ha => (by cases ha), t, Alike.refl _⟩
  | a :: p, q, s, t, hn, h => by
    have f1 : Fr D (q ++ t) a := (fr_alike hr h).1 (fr_cons.2 (.inl rfl))
    have haq : a ∉ q := fun hm => hn a ⟨fr_cons.2 (.inl rfl), fr_append_mem hr f1 hm⟩
    obtain ⟨d, ft⟩ := fr_append_not f1 haq
    have rt := rem_alike hs ft
    have pa := pass_alike hr hs d
    have h2 : Alike D (a :: (p ++ s)) (a :: (q ++ rem D t a)) := h.trans (((Alike.refl q).append rt).trans (by
      have := pa.symm.append (Alike.refl (rem D t a))
      rwa [List.append_assoc] at this))
    obtain ⟨i1, z, i2⟩ := apart_both p q s (rem D t a) (fun c ⟨c1, c2⟩ => hn c ⟨fr_cons.2 (.inr ⟨by rw [hs]; exact d c (fr_mem hr c2), c1⟩), c2⟩) (Alike.tail h2)
    refine ⟨fun b hb => ?_, z, rt.trans (i2.cons a)⟩
    rcases List.mem_cons.1 hb with rfl | hb
    · exact d
    · exact i1 b hb

end Go.Lin.Wv
namespace Go.Lin.Wv

variable {D : Int → Int → Bool}

/-- Layers, each in any order: none is empty, its letters do not depend, and each letter of the next one depends on one of it. -/
def FoatU (D : Int → Int → Bool) : List (List Int) → Prop
  | [] => True
  | l :: F => l ≠ [] ∧ l.Pairwise (fun a b => D a b = false) ∧ (∀ a ∈ F.headD [], ∃ b ∈ l, D a b = true) ∧ FoatU D F

/-- A letter is put into the first one of some layers. -/
def putL (a : Int) : List (List Int) → List (List Int)
  | [] => [[a]]
  | m :: F => (m ++ [a]) :: F

theorem putL_flat (hr : ∀ a, D a a = true) (hs : ∀ a b, D a b = D b a) {a : Int} {L : List (List Int)} (h : ∀ l ∈ L, ∀ c ∈ l, D a c = false) : Alike D (L.flatten ++ [a]) (putL a L).flatten := by
  cases L with
  | nil => simpa [putL] using Alike.refl (D := D) [a]
  | cons m F =>
    simp only [putL, List.flatten_cons, List.append_assoc]
    refine (Alike.refl m).append ?_
    refine (pass_alike hr hs (fun c hc => ?_)).symm
    obtain ⟨l, hl, hcl⟩ := List.mem_flatten.1 hc
    exact h l (by simp [hl]) c hcl

theorem foatU_put {a : Int} (hs : ∀ a b, D a b = D b a) : ∀ (L1 L2 : List (List Int)), FoatU D (L1 ++ L2) → (∀ l ∈ L2, ∀ c ∈ l, D a c = false) → (L1 = [] ∨ ∃ T l, L1 = T ++ [l] ∧ ∃ b ∈ l, D a b = true) → FoatU D (L1 ++ putL a L2)
  | [], [], _, _, _ => by simp [putL, FoatU]
  | [], m :: F, h, hi, _ => by
    obtain ⟨h1, h2, h3, h4⟩ := h
    refine ⟨by simp, ?_, fun c hc => ?_, h4⟩
    · rw [List.pairwise_append]
      refine ⟨h2, by simp, fun x hx y hy => ?_⟩
      obtain rfl := List.mem_singleton.1 hy
      rw [hs]; exact hi m (by simp) x hx
    · obtain ⟨b, hb, hd⟩ := h3 c hc; exact ⟨b, by simp [hb], hd⟩
  | l :: T, L2, h, hi, hc => by
    obtain ⟨h1, h2, h3, h4⟩ := h
    refine ⟨h1, h2, ?_, foatU_put hs T L2 h4 hi ?_⟩
    · cases T with
      | cons t T' => exact h3
      | nil =>
        have hdep : ∃ b ∈ l, D a b = true := by
          rcases hc with hc | ⟨T, l', hc, hd⟩
          · cases hc
          · cases T with
            | nil => simp at hc; subst hc; exact hd
            | cons t T => have := congrArg List.length hc; simp at this
        cases L2 with
        | nil =>
          intro c hc'
          obtain rfl : c = a := by simpa [putL] using hc'
          exact hdep
        | cons m F =>
          intro c hc'
          have hc2 : c ∈ m ++ [a] := hc'
          rcases List.mem_append.1 hc2 with hm | hm
          · exact h3 c hm
          · obtain rfl := List.mem_singleton.1 hm; exact hdep
    · cases T with
      | nil => exact .inl rfl
      | cons t T' =>
        refine .inr ?_
        rcases hc with hc | ⟨T2, l', hc, hd⟩
        · cases hc
        · cases T2 with
          | nil => have := congrArg List.length hc; simp at this
          | cons t2 T2 =>
            simp only [List.cons_append, List.cons.injEq] at hc
            exact ⟨T2, l', hc.2, hd⟩

theorem foatU_mono : ∀ {F G : List (List Int)}, F.length = G.length → (∀ i, i < F.length → (G.getD i []).Perm (F.getD i [])) → (∀ a b, D a b = D b a) → FoatU D F → FoatU D G
  | [], [], _, _, _, _ => trivial
  | [], _ :: _, h, _, _, _ => by simp at h
  | _ :: _, [], h, _, _, _ => by simp at h
  | l :: F, m :: G, h, hp, hs, hf => by
    obtain ⟨h1, h2, h3, h4⟩ := hf
    have p0 : m.Perm l := by simpa using hp 0 (by simp)
    refine ⟨fun e => h1 (by rw [e] at p0; exact p0.nil_eq.symm), ?_, fun a ha => ?_, foatU_mono (by simpa using h) (fun i hi => by simpa using hp (i + 1) (by simpa using hi)) hs h4⟩
    · exact (p0.pairwise_iff (fun {x y} h => by rw [hs]; exact h)).2 h2
    · cases G with
      | nil => simp at ha
      | cons g G =>
        cases F with
        | nil => simp at h
        | cons f F =>
          have p1 : g.Perm f := by simpa using hp 1 (by simp)
          obtain ⟨b, hb, hd⟩ := h3 a (p1.mem_iff.1 (by simpa using ha))
          exact ⟨b, p0.mem_iff.2 hb, hd⟩

theorem perm_alike (hr : ∀ a, D a a = true) (hs : ∀ a b, D a b = D b a) : ∀ {l m : List Int}, l.Perm m → l.Pairwise (fun a b => D a b = false) → Alike D l m := by
  intro l m h
  induction h with
  | nil => exact fun _ => Alike.refl _
  | cons a _ ih => exact fun hp => (ih (List.pairwise_cons.1 hp).2).cons a
  | swap a b l =>
    intro hp
    rw [List.pairwise_cons] at hp
    have h1 : D b a = false := hp.1 a (by simp)
    exact (swap_alike hs h1 hr).append (Alike.refl l)
  | trans h1 h2 ih1 ih2 => exact fun hp => (ih1 hp).trans (ih2 ((h1.pairwise_iff (fun {x y} h => by rw [hs]; exact h)).1 hp))

theorem foatU_flat (hr : ∀ a, D a a = true) (hs : ∀ a b, D a b = D b a) : ∀ {F G : List (List Int)}, F.length = G.length → (∀ i, i < F.length → (G.getD i []).Perm (F.getD i [])) → FoatU D F → Alike D F.flatten G.flatten
  | [], [], _, _, _ => Alike.refl _
  | [], _ :: _, h, _, _ => by simp at h
  | _ :: _, [], h, _, _ => by simp at h
  | l :: F, m :: G, h, hp, hf => by
    obtain ⟨h1, h2, h3, h4⟩ := hf
    have p0 : m.Perm l := by simpa using hp 0 (by simp)
    rw [List.flatten_cons, List.flatten_cons]
    exact (perm_alike hr hs p0.symm h2).append (foatU_flat hr hs (by simpa using h) (fun i hi => by simpa using hp (i + 1) (by simpa using hi)) h4)

/-! ### There is but one -/

/-- .. each layer in ascending order. -/
def Foat (D : Int → Int → Bool) (F : List (List Int)) : Prop := FoatU D F ∧ ∀ l ∈ F, l.Pairwise (· < ·)

theorem sorted_ext : ∀ {l m : List Int}, l.Pairwise (· < ·) → m.Pairwise (· < ·) → (∀ a, a ∈ l ↔ a ∈ m) → l = m
  | [], [], _, _, _ => rfl
  | [], b :: m, _, _, h => by have := (h b).2 (by simp); simp at this
  | a :: l, [], _, _, h => by have := (h a).1 (by simp); simp at this
  | a :: l, b :: m, h1, h2, h => by
    rw [List.pairwise_cons] at h1 h2
    have hab : a = b := by
      have ha := (h a).1 (by simp)
      have hb := (h b).2 (by simp)
      rcases List.mem_cons.1 ha with ha | ha
      · exact ha
      · rcases List.mem_cons.1 hb with hb | hb
        · exact hb.symm
        · have := h1.1 b hb; have := h2.1 a ha; omega
    subst hab
    congr 1
    refine sorted_ext h1.2 h2.2 (fun c => ⟨fun hc => ?_, fun hc => ?_⟩)
    · have := h1.1 c hc
      rcases List.mem_cons.1 ((h c).1 (by simp [hc])) with e | e
      · omega
      · exact e
    · have := h2.1 c hc
      rcases List.mem_cons.1 ((h c).2 (by simp [hc])) with e | e
      · omega
      · exact e

theorem fr_pairwise (hr : ∀ a, D a a = true) (hs : ∀ a b, D a b = D b a) {a : Int} : ∀ {l : List Int}, l.Pairwise (fun a b => D a b = false) → a ∈ l → Fr D l a
  | [], _, h => by simp at h
  | b :: l, hp, h => by
    rw [List.pairwise_cons] at hp
    rw [fr_cons]
    rcases List.mem_cons.1 h with h | h
    · exact .inl h.symm
    · exact .inr ⟨by rw [hs]; exact hp.1 a h, fr_pairwise hr hs hp.2 h⟩

/-- A letter that can be brought to the front of layers stands in the first one. -/
theorem foatU_front (hr : ∀ a, D a a = true) {a : Int} : ∀ (F : List (List Int)) (l : List Int), FoatU D (l :: F) → Fr D (l ++ F.flatten) a → a ∈ l
  | [], l, _, h => by
    rw [List.flatten_nil, List.append_nil] at h
    exact fr_mem hr h
  | m :: F, l, hf, h => by
    by_cases ha : a ∈ l
    · exact ha
    · exfalso
      obtain ⟨h1, h2⟩ := fr_append_not h ha
      obtain ⟨_, _, h3, h4⟩ := hf
      rw [List.flatten_cons] at h2
      have hm := foatU_front hr F m h4 h2
      obtain ⟨b, hb, hd⟩ := h3 a (by simpa using hm)
      rw [h1 b hb] at hd; cases hd

theorem foat_starts (hr : ∀ a, D a a = true) (hs : ∀ a b, D a b = D b a) {n : Nat} {l : List Int} {F : List (List Int)} (hf : Foat D (l :: F)) (hw : ∀ z ∈ l, 0 ≤ z ∧ z < (n : Int)) : starts D n (l ++ F.flatten) = l := by
  refine sorted_ext ?_ (hf.2 l (by simp)) (fun a => ?_)
  · unfold starts
    refine List.Pairwise.filter _ ?_
    rw [List.pairwise_map]
    exact List.pairwise_lt_range.imp (fun h => Int.ofNat_lt.2 h)
  · rw [mem_starts]
    constructor
    · exact fun h => foatU_front hr F l hf.1 h.2
    · exact fun h => ⟨hw a h, fr_append_left (fr_pairwise hr hs hf.1.2.1 h)⟩

/-- The layers of a word, one after the other. -/
def layersN (D : Int → Int → Bool) (n : Nat) : Nat → List Int → List (List Int)
  | 0, _ => []
  | k + 1, w => if w = [] then [] else starts D n w :: layersN D n k ((rest D (starts D n w) w).getD [])
def layersM (D : Int → Int → Bool) (n : Nat) (w : List Int) : List (List Int) := layersN D n w.length w

theorem foat_uniq (hr : ∀ a, D a a = true) (hs : ∀ a b, D a b = D b a) {n : Nat} : ∀ (k : Nat) (F : List (List Int)) (w : List Int), w.length ≤ k → Foat D F → (∀ z ∈ w, 0 ≤ z ∧ z < (n : Int)) → Alike D w F.flatten → layersN D n k w = F
  | 0, F, w, hk, hf, hw, ha => by
    obtain rfl : w = [] := List.length_eq_zero_iff.1 (by omega)
    cases F with
    | nil => rfl
    | cons l F =>
      have := ha.symm.nil hr
      rw [List.flatten_cons, List.append_eq_nil_iff] at this
      exact absurd this.1 hf.1.1
  | k + 1, F, w, hk, hf, hw, ha => by
    cases F with
    | nil =>
      obtain rfl : w = [] := ha.nil hr
      rfl
    | cons l F =>
      have hl := ha.length hr
      have hlne : l.length ≠ 0 := fun e => hf.1.1 (List.length_eq_zero_iff.1 e)
      rw [List.flatten_cons] at ha hl
      rw [List.length_append] at hl
      have hne : w ≠ [] := by intro e; subst e; simp at hl; omega
      have hlw : ∀ z ∈ l, 0 ≤ z ∧ z < (n : Int) := fun z hz => hw z ((ha.perm hr).mem_iff.2 (by simp [hz]))
      have hst : starts D n w = l := by rw [starts_alike hr n ha, foat_starts hr hs hf hlw]
      obtain ⟨x, hx, hxa⟩ := rest_of_alike hr hs ha
      unfold layersN
      rw [if_neg hne, hst, hx, Option.getD_some]
      congr 1
      refine foat_uniq hr hs k F x ?_ ⟨hf.1.2.2.2, fun m hm => hf.2 m (by simp [hm])⟩ (fun z hz => hw z ((ha.perm hr).mem_iff.2 (by rw [List.mem_append]; exact .inr ((hxa.perm hr).mem_iff.1 hz)))) hxa
      have := hxa.length hr
      omega

theorem layers_uniq (hr : ∀ a, D a a = true) (hs : ∀ a b, D a b = D b a) {n : Nat} {F : List (List Int)} {w : List Int} (hf : Foat D F) (hw : ∀ z ∈ w, 0 ≤ z ∧ z < (n : Int)) (ha : Alike D w F.flatten) : layersM D n w = F := foat_uniq hr hs _ F w (Nat.le_refl _) hf hw ha

/-! ### How the letters of a word fall -/

/-- The first layers, up to the last one on which a letter depends; and the others. -/
def cutL (D : Int → Int → Bool) (a : Int) : List (List Int) → List (List Int) × List (List Int)
  | [] => ([], [])
  | l :: F => let r := cutL D a F; if r.1 = [] ∧ l.any (fun c => D a c) = false then ([], l :: r.2) else (l :: r.1, r.2)

def dropL (D : Int → Int → Bool) (L : List (List Int)) (a : Int) : List (List Int) := (cutL D a L).1 ++ putL a (cutL D a L).2
def fallL (D : Int → Int → Bool) (w : List Int) : List (List Int) := w.foldl (dropL D) []

theorem cutL_spec (a : Int) : ∀ L : List (List Int), (cutL D a L).1 ++ (cutL D a L).2 = L ∧ (∀ l ∈ (cutL D a L).2, ∀ c ∈ l, D a c = false) ∧ ((cutL D a L).1 = [] ∨ ∃ T l, (cutL D a L).1 = T ++ [l] ∧ ∃ b ∈ l, D a b = true)
  | [] => ⟨rfl, by simp [cutL], .inl rfl⟩
  | l :: F => by
    obtain ⟨h1, h2, h3⟩ := cutL_spec a F
    unfold cutL
    by_cases hc : (cutL D a F).1 = [] ∧ l.any (fun c => D a c) = false
    · simp only [hc, and_self, if_true]
      rw [hc.1, List.nil_append] at h1
      refine ⟨by rw [List.nil_append, h1], fun m hm => ?_, by simp⟩
      rcases List.mem_cons.1 hm with rfl | hm
      · have := hc.2
        simpa using this
      · exact h2 m hm
    · simp only [hc, if_false]
      refine ⟨by rw [List.cons_append, h1], h2, .inr ?_⟩
      rcases h3 with h3 | ⟨T, m, h3, hb⟩
      · have hb : l.any (fun c => D a c) = true := by
          cases h : l.any (fun c => D a c) with
          | true => rfl
          | false => exact absurd ⟨h3, h⟩ hc
        refine ⟨[], l, by rw [h3]; rfl, ?_⟩
        simpa using hb
      · exact ⟨l :: T, m, by rw [h3]; rfl, hb⟩

theorem fallL_spec (hr : ∀ a, D a a = true) (hs : ∀ a b, D a b = D b a) : ∀ (w : List Int) (L : List (List Int)), FoatU D L → FoatU D (w.foldl (dropL D) L) ∧ Alike D (L.flatten ++ w) (w.foldl (dropL D) L).flatten
  | [], L, h => ⟨h, by rw [List.append_nil]; exact Alike.refl _⟩
  | a :: w, L, h => by
    obtain ⟨h1, h2, h3⟩ := cutL_spec (D := D) a L
    have hf : FoatU D (dropL D L a) := foatU_put hs _ _ (by rw [h1]; exact h) h2 h3
    have hal : Alike D (L.flatten ++ [a]) (dropL D L a).flatten := by
      unfold dropL
      rw [List.flatten_append]
      have h4 : L.flatten = (cutL D a L).1.flatten ++ (cutL D a L).2.flatten := by rw [← List.flatten_append, h1]
      rw [h4, List.append_assoc]
      exact (Alike.refl _).append (putL_flat hr hs h2)
    obtain ⟨g1, g2⟩ := fallL_spec hr hs w _ hf
    refine ⟨g1, Alike.trans ?_ g2⟩
    rw [show L.flatten ++ a :: w = (L.flatten ++ [a]) ++ w by simp]
    exact hal.append (Alike.refl w)

abbrev sortI (ss : List Int) : List Int := ss.mergeSort fun x y => decide (x ≤ y)

theorem sortI_perm (l : List Int) : (sortI l).Perm l := List.mergeSort_perm l _

theorem sortI_lt {l : List Int} (hr : ∀ a, D a a = true) (hp : l.Pairwise (fun a b => D a b = false)) : (sortI l).Pairwise (· < ·) := by
  have h1 : (sortI l).Pairwise (fun a b => decide (a ≤ b) = true) := List.pairwise_mergeSort (le := fun x y : Int => decide (x ≤ y)) (fun a b c h1 h2 => by simp at *; omega) (fun a b => by simp; omega) l
  have h2 : l.Pairwise (· ≠ ·) := hp.imp (fun {a b} h e => by subst e; rw [hr] at h; cases h)
  have h3 : (sortI l).Pairwise (· ≠ ·) := ((sortI_perm l).pairwise_iff (fun {x y} h => h.symm)).2 h2
  refine (h1.and h3).imp (fun {a b} h => ?_)
  obtain ⟨h4, h5⟩ := h
  simp at h4
  omega

theorem foatU_each : ∀ {F : List (List Int)}, FoatU D F → ∀ l ∈ F, l ≠ [] ∧ l.Pairwise (fun a b => D a b = false)
  | [], _, l, h => by simp at h
  | m :: F, hf, l, h => by
    rcases List.mem_cons.1 h with rfl | h
    · exact ⟨hf.1, hf.2.1⟩
    · exact foatU_each hf.2.2.2 l h

/-- The layers, as the program makes them. -/
theorem layers_fall (hr : ∀ a, D a a = true) (hs : ∀ a b, D a b = D b a) {n : Nat} {w : List Int} (hw : ∀ z ∈ w, 0 ≤ z ∧ z < (n : Int)) :
    layersM D n w = (fallL D w).map sortI ∧ Foat D (layersM D n w) ∧ Alike D w (layersM D n w).flatten := by
  obtain ⟨h1, h2⟩ := fallL_spec hr hs w [] trivial
  have hlen : (fallL D w).length = ((fallL D w).map sortI).length := by rw [List.length_map]
  have hp : ∀ i, i < (fallL D w).length → (((fallL D w).map sortI).getD i []).Perm ((fallL D w).getD i []) := by
    intro i hi
    simp only [List.getD, List.getElem?_map, List.getElem?_eq_getElem hi, Option.map_some, Option.getD_some]
    exact sortI_perm _
  have hf : Foat D ((fallL D w).map sortI) := ⟨foatU_mono hlen hp hs h1, fun l hl => by
    obtain ⟨m, hm, rfl⟩ := List.mem_map.1 hl
    exact sortI_lt hr (foatU_each h1 m hm).2⟩
  have ha : Alike D w ((fallL D w).map sortI).flatten := by
    have h3 := foatU_flat hr hs hlen hp h1
    rw [List.flatten_nil, List.nil_append] at h2
    exact h2.trans h3
  have hu := layers_uniq hr hs hf hw ha
  exact ⟨hu, hu ▸ hf, hu ▸ ha⟩

theorem layers_iff (hr : ∀ a, D a a = true) (hs : ∀ a b, D a b = D b a) {n : Nat} {w v : List Int} (hw : ∀ z ∈ w, 0 ≤ z ∧ z < (n : Int)) (hv : ∀ z ∈ v, 0 ≤ z ∧ z < (n : Int)) : layersM D n w = layersM D n v ↔ Alike D w v := by
  obtain ⟨_, h1, h2⟩ := layers_fall hr hs hw
  obtain ⟨_, h3, h4⟩ := layers_fall hr hs hv
  constructor
  · intro h; rw [h] at h2; exact h2.trans h4.symm
  · intro h; exact layers_uniq hr hs h3 hw (h.trans h4)
end Go.Lin.Wv
namespace Go.Lin.Wv

variable {D : Int → Int → Bool}

theorem mem_class (hr : ∀ a, D a a = true) (hs : ∀ a b, D a b = D b a) (n : Nat) : ∀ (k : Nat) (w : List Int), w.length = k → (∀ z ∈ w, 0 ≤ z ∧ z < (n : Int)) → ∀ v, v ∈ classM D n w ↔ Alike D w v
  | 0, w, hk, _, v => by
    obtain rfl : w = [] := List.length_eq_zero_iff.1 hk
    rw [classM_nil, List.mem_singleton]
    exact ⟨fun h => h ▸ Alike.refl _, fun h => h.symm.nil hr⟩
  | k + 1, w, hk, hw, v => by
    have hne : w ≠ [] := by intro e; rw [e] at hk; simp at hk
    rw [classM_step hne, List.mem_flatMap]
    constructor
    · rintro ⟨a, ha, hv⟩
      obtain ⟨u, hu, rfl⟩ := List.mem_map.1 hv
      have hf := (mem_starts.1 ha).2
      have hl := rem_length hf
      exact (rem_alike hs hf).trans (((mem_class hr hs n k _ (by omega) (fun z hz => hw z (rem_sub hz)) u).1 hu).cons a)
    · intro h
      have hvl := h.length hr
      obtain ⟨a, u, rfl⟩ : ∃ a u, v = a :: u := by
        cases v with
        | nil => exact absurd (List.length_eq_zero_iff.1 hvl) hne
        | cons a u => exact ⟨a, u, rfl⟩
      obtain ⟨i, hi⟩ := free_of_alike hr h
      have hf : (free D w a).isSome = true := by rw [hi]; rfl
      have hl := rem_length hf
      obtain ⟨hil, hia⟩ := free_lt hi
      have ha : a ∈ w := hia ▸ List.getElem_mem _
      refine ⟨a, mem_starts.2 ⟨hw a ha, hf⟩, List.mem_map.2 ⟨u, ?_, rfl⟩⟩
      rw [mem_class hr hs n k _ (by omega) (fun z hz => hw z (rem_sub hz)) u]
      exact Alike.tail ((rem_alike hs hf).symm.trans h)

theorem mem_classM (hr : ∀ a, D a a = true) (hs : ∀ a b, D a b = D b a) {n : Nat} {w : List Int} (hw : ∀ z ∈ w, 0 ≤ z ∧ z < (n : Int)) {v : List Int} : v ∈ classM D n w ↔ Alike D w v := mem_class hr hs n _ w rfl hw v

/-- A word before another one. -/
def befW : List Int → List Int → Bool
  | _, [] => false
  | [], _ :: _ => true
  | a :: u, b :: v => if a = b then befW u v else decide (a < b)

theorem befW_irrefl : ∀ u, befW u u = false
  | [] => rfl
  | a :: u => by simp [befW, befW_irrefl u]

theorem starts_sorted (n : Nat) (w : List Int) : (starts D n w).Pairwise (· < ·) := by
  unfold starts
  refine List.Pairwise.filter _ ?_
  rw [List.pairwise_map]
  exact List.pairwise_lt_range.imp (fun h => Int.ofNat_lt.2 h)

theorem starts_nodup (n : Nat) (w : List Int) : (starts D n w).Nodup := (starts_sorted n w).imp (fun h => by omega)

theorem class_sorted (n : Nat) : ∀ (k : Nat) (w : List Int), (classN D n k w).Pairwise (fun u v => befW u v = true)
  | 0, w => by simp [classN]
  | k + 1, w => by
    unfold classN
    rw [List.flatMap_def, List.pairwise_flatten]
    constructor
    · intro l hl
      obtain ⟨a, _, rfl⟩ := List.mem_map.1 hl
      rw [List.pairwise_map]
      exact (class_sorted n k _).imp (fun h => by simpa [befW] using h)
    · rw [List.pairwise_map]
      refine (starts_sorted n w).imp (fun {a b} h => ?_)
      intro x hx y hy
      obtain ⟨u, _, rfl⟩ := List.mem_map.1 hx
      obtain ⟨v, _, rfl⟩ := List.mem_map.1 hy
      have hne : ¬ a = b := by omega
      simp [befW, hne, h]

theorem classM_sorted (n : Nat) (w : List Int) : (classM D n w).Pairwise (fun u v => befW u v = true) := class_sorted n _ w

theorem classM_nodup (n : Nat) (w : List Int) : (classM D n w).Nodup := (classM_sorted n w).imp (fun {a b} h e => by subst e; rw [befW_irrefl] at h; cases h)

theorem pr_reverse (a b : Int) (w : List Int) : pr a b w.reverse = (pr a b w).reverse := by unfold pr; rw [List.filter_reverse]

theorem Alike.reverse {w v : List Int} (h : Alike D w v) : Alike D w.reverse v.reverse := fun a b hd => by rw [pr_reverse, pr_reverse, h a b hd]

/-- The class of the word turned round is as great. -/
theorem sizeM_reverse (hr : ∀ a, D a a = true) (hs : ∀ a b, D a b = D b a) {n : Nat} {w : List Int} (hw : ∀ z ∈ w, 0 ≤ z ∧ z < (n : Int)) : sizeM D n w.reverse = sizeM D n w := by
  have hw' : ∀ z ∈ w.reverse, 0 ≤ z ∧ z < (n : Int) := fun z hz => hw z (List.mem_reverse.1 hz)
  rw [← classM_length, ← classM_length]
  have hp : (classM D n w.reverse).Perm ((classM D n w).map List.reverse) := by
    rw [List.perm_ext_iff_of_nodup (classM_nodup n _)]
    · intro v
      rw [mem_classM hr hs hw', List.mem_map]
      constructor
      · intro h
        exact ⟨v.reverse, (mem_classM hr hs hw).2 (by have := h.reverse; rwa [List.reverse_reverse] at this), List.reverse_reverse _⟩
      · rintro ⟨u, hu, rfl⟩
        exact ((mem_classM hr hs hw).1 hu).reverse
    · rw [List.Nodup, List.pairwise_map]
      exact (classM_nodup n w).imp (fun h e => h (by have := congrArg List.reverse e; rwa [List.reverse_reverse, List.reverse_reverse] at this))
  have := hp.length_eq
  rwa [List.length_map] at this

/-- The first word of the class is the first form. -/
theorem class_head (n : Nat) : ∀ (k : Nat) (w : List Int), w.length = k → (∀ z ∈ w, 0 ≤ z ∧ z < (n : Int)) → ∃ t, classM D n w = first D n w :: t
  | 0, w, hk, _ => by
    obtain rfl : w = [] := List.length_eq_zero_iff.1 hk
    exact ⟨[], rfl⟩
  | k + 1, w, hk, hw => by
    have hne : w ≠ [] := by intro e; rw [e] at hk; simp at hk
    rw [classM_step hne]
    cases hst : starts D n w with
    | nil => exact absurd hst (starts_ne hw hne)
    | cons a l =>
      have hf := (mem_starts.1 (show a ∈ starts D n w by rw [hst]; simp)).2
      have hl := rem_length hf
      obtain ⟨t, ht⟩ := class_head n k (rem D w a) (by omega) (fun z hz => hw z (rem_sub hz))
      rw [List.flatMap_cons, ht]
      refine ⟨t.map (a :: ·) ++ l.flatMap fun a => (classM D n (rem D w a)).map (a :: ·), ?_⟩
      have hfst : first D n w = a :: first D n (rem D w a) := by
        unfold first
        rw [hk, show (rem D w a).length = k by omega]
        show (match starts D n w with | [] => [] | a :: _ => a :: firstN D n k (rem D w a)) = _
        rw [hst]
      rw [hfst]
      simp

theorem sizeM_pos {n : Nat} {w : List Int} (hw : ∀ z ∈ w, 0 ≤ z ∧ z < (n : Int)) : 1 ≤ sizeM D n w := by
  obtain ⟨t, ht⟩ := class_head (D := D) n _ w rfl hw
  rw [← classM_length, ht]; simp
end Go.Lin.Wv
namespace Go.Lin.Wv

/-! ### Sets of occurrences as numbers -/

/-- A set without a place. -/
def del (S i : Nat) : Nat := S ^^^ (S &&& 2 ^ i)

theorem del_bit (S i j : Nat) : (del S i).testBit j = (S.testBit j && decide (i ≠ j)) := by
  unfold del
  rw [Nat.testBit_xor, Nat.testBit_and, Nat.testBit_two_pow]
  by_cases h : i = j <;> cases S.testBit j <;> simp [h]

theorem bits_and_i64 (a b : Nat) (ha : a < 1000000) (hb : b < 1000000) : Go.bits .and .i64 (a : Int) (b : Int) = ((a &&& b : Nat) : Int) := by
  have h : a &&& b ≤ a := Nat.and_le_left
  show IntKind.i64.wrap ((BitVec.ofInt 64 (a : Int) &&& BitVec.ofInt 64 (b : Int)).toNat : Int) = _
  rw [BitVec.toNat_and, ofInt_u64 a (by omega), ofInt_u64 b (by omega)]
  exact Go.Lib.wrap_i64_small _ (by omega)

theorem bits_or_i64 (a b : Nat) (ha : a < 2 ^ 20) (hb : b < 2 ^ 20) : Go.bits .or .i64 (a : Int) (b : Int) = ((a ||| b : Nat) : Int) := by
  have h : a ||| b < 2 ^ 20 := Nat.or_lt_two_pow ha hb
  show IntKind.i64.wrap ((BitVec.ofInt 64 (a : Int) ||| BitVec.ofInt 64 (b : Int)).toNat : Int) = _
  rw [BitVec.toNat_or, ofInt_u64 a (by omega), ofInt_u64 b (by omega)]
  exact Go.Lib.wrap_i64_small _ (by omega)

theorem bits_andNot_i64 (S i : Nat) (ha : S < 1000000) (hb : 2 ^ i < 1000000) : Go.bits .andNot .i64 (S : Int) ((2 ^ i : Nat) : Int) = ((del S i : Nat) : Int) := by
  show IntKind.i64.wrap ((BitVec.ofInt 64 (S : Int) &&& ~~~BitVec.ofInt 64 ((2 ^ i : Nat) : Int)).toNat : Int) = _
  rw [BitVec.toNat_and, BitVec.toNat_not, ofInt_u64 S (by omega), ofInt_u64 (2 ^ i) (by omega)]
  have he : S &&& (2 ^ 64 - 1 - 2 ^ i) = del S i := by
    apply Nat.eq_of_testBit_eq
    intro j
    rw [Nat.testBit_and, del_bit, show 2 ^ 64 - 1 - 2 ^ i = 2 ^ 64 - (2 ^ i + 1) by omega, Nat.testBit_two_pow_sub_succ (by omega), Nat.testBit_two_pow]
    by_cases hj : j < 64
    · by_cases h : i = j <;> simp [h, hj] <;> simp_all
    · have : S.testBit j = false := Nat.testBit_lt_two_pow (by
        have : 2 ^ 64 ≤ 2 ^ j := Nat.pow_le_pow_right (by decide) (by omega)
        omega)
      simp [this]
  rw [he]
  refine Go.Lib.wrap_i64_small _ ?_
  have : S &&& (2 ^ 64 - 1 - 2 ^ i) ≤ S := Nat.and_le_left
  rw [he] at this
  omega

theorem del_le (S i : Nat) : del S i ≤ S := by
  have h : del S i = S &&& del S i := by
    apply Nat.eq_of_testBit_eq
    intro j
    rw [Nat.testBit_and, del_bit]
    cases S.testBit j <;> simp
  rw [h]; exact Nat.and_le_left

theorem del_same {S i : Nat} : S = del S i ↔ S.testBit i = false := by
  constructor
  · intro h
    have := del_bit S i i
    rw [← h] at this
    simpa using this
  · intro h
    apply Nat.eq_of_testBit_eq
    intro j
    rw [del_bit]
    by_cases e : i = j
    · subst e; simp [h]
    · simp [e]

theorem sub_iff {A B : Nat} : B &&& A = A ↔ ∀ k, A.testBit k = true → B.testBit k = true := by
  constructor
  · intro h k hk
    rw [← h, Nat.testBit_and] at hk
    simp at hk; exact hk.1
  · intro h
    apply Nat.eq_of_testBit_eq
    intro j
    rw [Nat.testBit_and]
    cases hA : A.testBit j with
    | false => simp
    | true => simp [h j hA]

/-! ### The sets of those in front -/

variable {D : Int → Int → Bool}

/-- Those of the first k occurrences on which occurrence i depends. -/
def aheadTo (D : Int → Int → Bool) (w : List Int) (i : Nat) : Nat → Nat
  | 0 => 0
  | k + 1 => if D (nth w i) (nth w k) then aheadTo D w i k ||| 2 ^ k else aheadTo D w i k
def aheadM (D : Int → Int → Bool) (w : List Int) (i : Nat) : Nat := aheadTo D w i i

theorem aheadTo_bit (w : List Int) (i : Nat) : ∀ k j, (aheadTo D w i k).testBit j = (decide (j < k) && D (nth w i) (nth w j))
  | 0, j => by simp [aheadTo]
  | k + 1, j => by
    unfold aheadTo
    by_cases hd : D (nth w i) (nth w k) = true
    · rw [if_pos hd, Nat.testBit_or, aheadTo_bit w i k j, Nat.testBit_two_pow]
      by_cases h : k = j
      · subst h; simp [hd]
      · have : decide (j < k + 1) = decide (j < k) := by rw [decide_eq_decide]; omega
        rw [this]; simp [h]
    · rw [if_neg hd, aheadTo_bit w i k j]
      by_cases h : k = j
      · subst h; simp at hd; simp [hd]
      · have : decide (j < k + 1) = decide (j < k) := by rw [decide_eq_decide]; omega
        rw [this]

theorem aheadTo_lt (w : List Int) (i : Nat) : ∀ k, aheadTo D w i k < 2 ^ k
  | 0 => by simp [aheadTo]
  | k + 1 => by
    have h := aheadTo_lt w i k
    have h2 : 2 ^ k < 2 ^ (k + 1) := Nat.pow_lt_pow_right (by decide) (by omega)
    unfold aheadTo
    split
    · exact Nat.or_lt_two_pow (by omega) h2
    · omega

/-! ### The table -/

def term (D : Int → Int → Bool) (w : List Int) (W : Nat → Nat) (S i : Nat) : Nat := if S ≠ del S i ∧ del S i &&& aheadM D w i = aheadM D w i then W (del S i) else 0
def wsum (D : Int → Int → Bool) (w : List Int) (W : Nat → Nat) (S : Nat) : Nat → Nat
  | 0 => 0
  | i + 1 => wsum D w W S i + term D w W S i

theorem wsum_mono (w : List Int) (W : Nat → Nat) (S : Nat) : ∀ {i j : Nat}, i ≤ j → wsum D w W S i ≤ wsum D w W S j
  | i, 0, h => by obtain rfl : i = 0 := by omega
                  exact Nat.le_refl _
  | i, j + 1, h => by
    by_cases e : i = j + 1
    · subst e; exact Nat.le_refl _
    · exact Nat.le_trans (wsum_mono w W S (by omega : i ≤ j)) (Nat.le_add_right _ _)

theorem wsum_eq (w : List Int) (W : Nat → Nat) (S : Nat) : ∀ i, wsum D w W S i = ((List.range i).map (term D w W S)).sum
  | 0 => rfl
  | i + 1 => by
    rw [List.range_succ, List.map_append, List.sum_append, ← wsum_eq w W S i]
    simp [wsum]

/-- A set in which each has all in front of it on which it depends. -/
def dcl (D : Int → Int → Bool) (w : List Int) (S : Nat) : Prop := ∀ j, S.testBit j = true → ∀ k, k < j → D (nth w j) (nth w k) = true → S.testBit k = true

def posS (n S : Nat) : List Nat := (List.range n).filter (fun i => S.testBit i)
def wordS (w : List Int) (S : Nat) : List Int := (posS w.length S).reverse.map (nth w)

open Classical in
noncomputable def wayM (D : Int → Int → Bool) (N : Nat) (w : List Int) (S : Nat) : Nat := if dcl D w S then sizeM D N (wordS w S) else 0

theorem sum_perm {l m : List Nat} (h : l.Perm m) : l.sum = m.sum := by
  induction h with
  | nil => rfl
  | cons a _ ih => simp [ih]
  | swap a b l => simp; omega
  | trans _ _ h1 h2 => exact h1.trans h2

theorem sum_zero {l : List Nat} (h : ∀ x ∈ l, x = 0) : l.sum = 0 := by
  induction l with
  | nil => rfl
  | cons a l ih => rw [List.sum_cons, h a (by simp), ih (fun x hx => h x (by simp [hx]))]

theorem sum_filter {α : Type} (p : α → Bool) (f : α → Nat) : ∀ l : List α, (l.map (fun i => if p i then f i else 0)).sum = ((l.filter p).map f).sum
  | [] => rfl
  | a :: l => by
    rw [List.map_cons, List.sum_cons, sum_filter p f l, List.filter_cons]
    cases p a <;> simp

theorem ahead_sub {w : List Int} {S i : Nat} : del S i &&& aheadM D w i = aheadM D w i ↔ ∀ k, k < i → D (nth w i) (nth w k) = true → S.testBit k = true := by
  rw [sub_iff]
  constructor
  · intro h k hk hd
    have := h k (by unfold aheadM; rw [aheadTo_bit]; simp [hk, hd])
    rw [del_bit] at this
    simp at this; exact this.1
  · intro h k hk
    unfold aheadM at hk
    rw [aheadTo_bit] at hk
    simp at hk
    rw [del_bit, h k hk.1 hk.2]
    simp; omega

theorem posS_del (n S i : Nat) : posS n (del S i) = (posS n S).filter (fun j => decide (i ≠ j)) := by
  unfold posS
  rw [List.filter_filter]
  congr 1
  funext j
  rw [del_bit, Bool.and_comm]

theorem wordS_split {w : List Int} {S i : Nat} {L1 L2 : List Nat} (h : (posS w.length S).reverse = L1 ++ i :: L2) : (∀ j ∈ L1, i < j) ∧ (∀ j ∈ L2, j < i) ∧ (posS w.length (del S i)).reverse = L1 ++ L2 := by
  have hp : ((posS w.length S).reverse).Pairwise (fun a b => b < a) := by
    rw [List.pairwise_reverse]
    exact List.Pairwise.filter _ List.pairwise_lt_range
  rw [h, List.pairwise_append, List.pairwise_cons] at hp
  obtain ⟨_, ⟨h2, _⟩, h3⟩ := hp
  have h1 : ∀ j ∈ L1, i < j := fun j hj => h3 j hj i (by simp)
  refine ⟨h1, h2, ?_⟩
  rw [posS_del, ← List.filter_reverse, h, List.filter_append, List.filter_cons]
  have e1 : L1.filter (fun j => decide (i ≠ j)) = L1 := List.filter_eq_self.2 (fun j hj => by have := h1 j hj; simp; omega)
  have e2 : L2.filter (fun j => decide (i ≠ j)) = L2 := List.filter_eq_self.2 (fun j hj => by have := h2 j hj; simp; omega)
  rw [e1, e2]; simp

theorem free_split {a : Int} : ∀ {p q : List Int}, (∀ c ∈ p, D a c = false) → D a a = true → free D (p ++ a :: q) a = some p.length
  | [], q, _, _ => by simp [free]
  | c :: p, q, h, ha => by
    have h1 := h c (by simp)
    have hne : ¬ c = a := fun e => by subst e; rw [h1] at ha; cases ha
    rw [List.cons_append]
    unfold free
    rw [if_neg hne, h1, free_split (fun c hc => h c (by simp [hc])) ha]
    rfl

theorem rem_split {a : Int} {p q : List Int} (h : ∀ c ∈ p, D a c = false) (ha : D a a = true) : rem D (p ++ a :: q) a = p ++ q := by
  unfold rem
  rw [free_split h ha]
  simp only
  rw [List.eraseIdx_append_of_length_le (Nat.le_refl _)]
  simp

theorem mem_posS {n S i : Nat} : i ∈ posS n S ↔ i < n ∧ S.testBit i = true := by unfold posS; simp

theorem wayM_rec (hr : ∀ a, D a a = true) (hs : ∀ a b, D a b = D b a) {N : Nat} {w : List Int} (hw : ∀ z ∈ w, 0 ≤ z ∧ z < (N : Int)) {S : Nat} (h1 : 1 ≤ S) (h2 : S < 2 ^ w.length) : wayM D N w S = wsum D w (wayM D N w) S w.length := by
  rw [wsum_eq]
  by_cases hd : dcl D w S
  · -- the occurrences that can be the last ones
    have hnn : ∀ i, i < w.length → nth w i ∈ w := fun i hi => by rw [nth_lt hi]; exact List.getElem_mem _
    have hbit : ∀ j, S.testBit j = true → j < w.length := fun j hj => by
      rcases Nat.lt_or_ge j w.length with h | h
      · exact h
      · rw [Nat.testBit_lt_two_pow (Nat.lt_of_lt_of_le h2 (Nat.pow_le_pow_right (by decide) h))] at hj; cases hj
    obtain ⟨L, hL⟩ : ∃ L, (posS w.length S).reverse = L := ⟨_, rfl⟩
    have hLm : ∀ i, i ∈ L ↔ S.testBit i = true := fun i => by rw [← hL, List.mem_reverse, mem_posS]; exact ⟨fun h => h.2, fun h => ⟨hbit i h, h⟩⟩
    have hy : wordS w S = L.map (nth w) := by unfold wordS; rw [hL]
    have hyne : wordS w S ≠ [] := by
      obtain ⟨i, hi⟩ := Nat.exists_testBit_of_ne_zero (show S ≠ 0 by omega)
      rw [hy]
      intro e
      have : i ∈ L := (hLm i).2 hi
      rw [List.map_eq_nil_iff] at e
      rw [e] at this; cases this
    have hle : wayM D N w S = sizeM D N (wordS w S) := by unfold wayM; rw [if_pos hd]
    rw [hle, sizeM_step hyne]
    -- the sum over the places
    have hterm : ∀ i ∈ List.range w.length, term D w (wayM D N w) S i = if S.testBit i then wayM D N w (del S i) else 0 := by
      intro i _
      unfold term
      by_cases hb : S.testBit i = true
      · have c1 : S ≠ del S i := fun e => by rw [del_same.1 e] at hb; cases hb
        have c2 : del S i &&& aheadM D w i = aheadM D w i := ahead_sub.2 (fun k hk hdk => hd i hb k hk hdk)
        rw [if_pos ⟨c1, c2⟩, if_pos hb]
      · have c1 : S = del S i := del_same.2 (by simpa using hb)
        rw [if_neg (fun h => h.1 c1), if_neg hb]
    rw [List.map_congr_left hterm, sum_filter (fun i => S.testBit i) (fun i => wayM D N w (del S i))]
    show _ = ((posS w.length S).map fun i => wayM D N w (del S i)).sum
    rw [sum_perm ((List.reverse_perm (posS w.length S)).symm.map _), hL]
    classical
    obtain ⟨M, hM⟩ : ∃ M, L.filter (fun i => decide (dcl D w (del S i))) = M := ⟨_, rfl⟩
    have hMs : (L.map fun i => wayM D N w (del S i)).sum = (M.map fun i => sizeM D N (wordS w (del S i))).sum := by
      rw [← hM, ← sum_filter]
      congr 1
      refine List.map_congr_left fun i _ => ?_
      unfold wayM
      by_cases h : dcl D w (del S i) <;> simp [h]
    rw [hMs]
    have key : ∀ i ∈ M, ∃ L1 L2, L = L1 ++ i :: L2 ∧ (∀ j ∈ L1, D (nth w i) (nth w j) = false) := by
      intro i hi
      rw [← hM, List.mem_filter] at hi
      obtain ⟨hiL, hdi⟩ := hi
      obtain ⟨L1, L2, hsp⟩ := List.append_of_mem hiL
      refine ⟨L1, L2, hsp, fun j hj => ?_⟩
      obtain ⟨g1, _, _⟩ := wordS_split (hL.trans hsp)
      have hij := g1 j hj
      have hjS : S.testBit j = true := (hLm j).1 (by rw [hsp]; simp [hj])
      cases hdd : D (nth w i) (nth w j) with
      | false => rfl
      | true =>
        have hdi' : dcl D w (del S i) := by simpa using hdi
        have := hdi' j (by rw [del_bit, hjS]; simp; omega) i hij (by rw [hs]; exact hdd)
        rw [del_bit] at this
        simp at this
    have hrem : ∀ i ∈ M, rem D (wordS w S) (nth w i) = wordS w (del S i) := by
      intro i hi
      obtain ⟨L1, L2, hsp, hind⟩ := key i hi
      obtain ⟨_, _, g3⟩ := wordS_split (hL.trans hsp)
      rw [hy, hsp, List.map_append, List.map_cons, rem_split (fun c hc => by
        obtain ⟨j, hj, rfl⟩ := List.mem_map.1 hc
        exact hind j hj) (hr _)]
      unfold wordS
      rw [g3, List.map_append]
    have hperm : (starts D N (wordS w S)).Perm (M.map (nth w)) := by
      rw [List.perm_ext_iff_of_nodup (starts_nodup N _)]
      · intro a
        rw [mem_starts, List.mem_map]
        constructor
        · rintro ⟨_, hf⟩
          obtain ⟨t, ht⟩ := Option.isSome_iff_exists.1 hf
          obtain ⟨f1, f2, f3⟩ : t < (wordS w S).length ∧ nth (wordS w S) t = a ∧ ∀ r, r < t → D a (nth (wordS w S) r) = false := by
            have : ∀ {y : List Int} {i : Nat}, free D y a = some i → i < y.length ∧ nth y i = a ∧ ∀ t, t < i → D a (nth y t) = false := by
              intro y
              induction y with
              | nil => intro i h; simp [free] at h
              | cons c y ih =>
                intro i h
                unfold free at h
                split at h
                · rename_i hc
                  simp only [Option.some.injEq] at h
                  subst h
                  exact ⟨by simp, by simpa [nth] using hc, fun t ht => by omega⟩
                · split at h
                  · cases h
                  · rename_i hdc
                    obtain ⟨j, hj, rfl⟩ := Option.map_eq_some_iff.1 h
                    obtain ⟨h1, h2, h3⟩ := ih hj
                    refine ⟨by simp; omega, by simpa [nth] using h2, fun t ht => ?_⟩
                    cases t with
                    | zero => simpa [nth] using hdc
                    | succ t => have := h3 t (by omega); simpa [nth] using this
            exact this ht
          rw [hy] at f1 f2 f3
          rw [List.length_map] at f1
          have hgm : ∀ r (hr : r < L.length), nth (L.map (nth w)) r = nth w L[r] := fun r hr => by rw [nth_lt (by simpa using hr)]; simp
          rw [hgm t f1] at f2
          have hsp : L = L.take t ++ L[t] :: L.drop (t + 1) := by rw [List.getElem_cons_drop, List.take_append_drop]
          obtain ⟨g1, g2, _⟩ := wordS_split (hL.trans hsp)
          refine ⟨L[t], ?_, f2⟩
          rw [← hM, List.mem_filter]
          refine ⟨List.getElem_mem _, ?_⟩
          simp only [decide_eq_true_eq]
          intro j hj k hk hdk
          rw [del_bit] at hj
          simp at hj
          rw [del_bit, hd j hj.1 k hk hdk]
          simp only [Bool.true_and, decide_eq_true_eq]
          rintro rfl
          have hjL : j ∈ L.take t := by
            have h5 : j ∈ L := (hLm j).2 hj.1
            rw [hsp] at h5
            rcases List.mem_append.1 h5 with h5 | h5
            · exact h5
            · rcases List.mem_cons.1 h5 with h5 | h5
              · omega
              · have := g2 j h5; omega
          obtain ⟨r, hrl, hrj⟩ := List.getElem_of_mem hjL
          rw [List.length_take] at hrl
          have h6 := f3 r (by omega)
          rw [hgm r (by omega)] at h6
          rw [List.getElem_take] at hrj
          rw [hrj, ← f2, hs, hdk] at h6
          cases h6
        · rintro ⟨i, hi, rfl⟩
          obtain ⟨L1, L2, hsp, hind⟩ := key i hi
          have hiL : i ∈ L := by rw [hsp]; simp
          refine ⟨hw _ (hnn i (hbit i ((hLm i).1 hiL))), ?_⟩
          rw [hy, hsp, List.map_append, List.map_cons, free_split (fun c hc => by
            obtain ⟨j, hj, rfl⟩ := List.mem_map.1 hc
            exact hind j hj) (hr _)]
          rfl
      · -- each letter once
        have hMp : M.Pairwise (fun a b => b < a) := by
          rw [← hM]
          refine List.Pairwise.filter _ ?_
          rw [← hL, List.pairwise_reverse]
          exact List.Pairwise.filter _ List.pairwise_lt_range
        rw [List.Nodup, List.pairwise_map]
        refine hMp.imp_of_mem (fun {a b} ha hb hab e => ?_)
        rw [← hM, List.mem_filter] at ha hb
        have hdb : dcl D w (del S b) := by simpa using hb.2
        have := hdb a (by rw [del_bit, (hLm a).1 ha.1]; simp; omega) b hab (by rw [e]; exact hr _)
        rw [del_bit] at this
        simp at this
    rw [sum_perm (hperm.map _), List.map_map]
    congr 1
    refine List.map_congr_left fun i hi => ?_
    simp only [Function.comp]
    rw [hrem i hi]
  · have hz : wayM D N w S = 0 := by unfold wayM; rw [if_neg hd]
    rw [hz]
    have : ∀ i ∈ List.range w.length, term D w (wayM D N w) S i = 0 := by
      intro i _
      unfold term
      by_cases hc : S ≠ del S i ∧ del S i &&& aheadM D w i = aheadM D w i
      · rw [if_pos hc]
        have hnd : ¬ dcl D w (del S i) := by
          intro hdi
          apply hd
          intro j hj k hk hdk
          by_cases e : i = j
          · subst e
            exact ahead_sub.1 hc.2 k hk hdk
          · have := hdi j (by rw [del_bit, hj]; simp [e]) k hk hdk
            rw [del_bit] at this
            simp at this; exact this.1
        unfold wayM; rw [if_neg hnd]
      · rw [if_neg hc]
    symm
    exact sum_zero (fun x hx => by
      obtain ⟨i, hi, rfl⟩ := List.mem_map.1 hx
      exact this i hi)

theorem wayM_zero (N : Nat) (w : List Int) : wayM D N w 0 = 1 := by
  unfold wayM
  rw [if_pos (show dcl D w 0 from fun j hj => by simp at hj)]
  have : wordS w 0 = [] := by unfold wordS posS; simp
  rw [this]; rfl

theorem wayM_all (hr : ∀ a, D a a = true) (hs : ∀ a b, D a b = D b a) {N : Nat} {w : List Int} (hw : ∀ z ∈ w, 0 ≤ z ∧ z < (N : Int)) : wayM D N w (2 ^ w.length - 1) = sizeM D N w := by
  have hb : ∀ j, (2 ^ w.length - 1).testBit j = decide (j < w.length) := fun j => Nat.testBit_two_pow_sub_one _ _
  unfold wayM
  rw [if_pos (show dcl D w (2 ^ w.length - 1) from fun j hj k hk _ => by rw [hb] at hj ⊢; simp at hj ⊢; omega)]
  have : wordS w (2 ^ w.length - 1) = w.reverse := by
    unfold wordS posS
    rw [List.filter_eq_self.2 (fun j hj => by rw [hb]; simpa using hj), List.map_reverse]
    congr 1
    refine ext_nth (by simp) (fun i hi => ?_)
    have hi' : i < w.length := by simpa using hi
    rw [nth_lt hi]; simp
  rw [this, sizeM_reverse hr hs hw]

theorem wayM_le {N : Nat} (h6 : N ≤ 6) {w : List Int} (hw : w.length ≤ 10) (S : Nat) : wayM D N w S ≤ 60466176 := by
  unfold wayM
  split
  · refine sizeM_le h6 ?_
    unfold wordS posS
    rw [List.length_map, List.length_reverse]
    refine Nat.le_trans (List.length_filter_le _ _) ?_
    simpa using hw
  · omega
end Go.Lin.Wv
