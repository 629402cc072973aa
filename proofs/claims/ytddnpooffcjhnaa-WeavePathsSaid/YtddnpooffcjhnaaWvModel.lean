/- The plain model of a weave: letters, words, what depends; no program in sight. -/
import Derived.Test.YtddnpooffcjhnaaBase
namespace Go.Lin.Wv

/-- Letters, and the pairs that depend. -/
structure Lt where
  n : Int
  ps : List (Int × Int)

def pairOk (n : Int) (p : Int × Int) : Bool := !(decide (p.1 < 0) || decide (p.2 ≤ p.1) || decide (n ≤ p.2))

/-- The pairs are right, each is there once. -/
def pairsOk (n : Int) : List (Int × Int) → List (Int × Int) → Bool
  | _, [] => true
  | seen, p :: ps => pairOk n p && !seen.contains p && pairsOk n (seen ++ [p]) ps

def valid (L : Lt) : Bool := pairsOk L.n [] L.ps && (decide (1 ≤ L.n) && decide (L.n ≤ 6))

def hits (a b : Int) (p : Int × Int) : Bool := (p.1 == a && p.2 == b) || (p.1 == b && p.2 == a)
def dep (L : Lt) (a b : Int) : Bool := a == b || L.ps.any (hits a b)

def isL (L : Lt) (a : Int) : Bool := decide (0 ≤ a) && decide (a ≤ L.n - 1)
def isW (L : Lt) (w : List Int) : Bool := decide (w.length ≤ 10) && w.all (isL L)

/-- What is wrong with letters and words. -/
def wrong (L : Lt) (ws : List (List Int)) : Int := if valid L then (if ws.all (isW L) then 0 else 31) else 30

/-- Where the first occurrence of a letter is, if it can be brought to the front. -/
def free (D : Int → Int → Bool) : List Int → Int → Option Nat
  | [], _ => none
  | b :: w, a => if b = a then some 0 else if D a b then none else (free D w a).map (· + 1)

/-- What is left behind a letter that is taken off the front. -/
def rem (D : Int → Int → Bool) (w : List Int) (a : Int) : List Int := match free D w a with | some i => w.eraseIdx i | none => w

def starts (D : Int → Int → Bool) (n : Nat) (w : List Int) : List Int := ((List.range n).map Int.ofNat).filter (fun a => (free D w a).isSome)

def firstN (D : Int → Int → Bool) (n : Nat) : Nat → List Int → List Int
  | 0, _ => []
  | k + 1, w => match starts D n w with | [] => [] | a :: _ => a :: firstN D n k (rem D w a)

/-- The first form. -/
def first (D : Int → Int → Bool) (n : Nat) (w : List Int) : List Int := firstN D n w.length w

/-- What is left of a word behind another one. -/
def rest (D : Int → Int → Bool) : List Int → List Int → Option (List Int)
  | [], w => some w
  | a :: u, w => match free D w a with | none => none | some i => rest D u (w.eraseIdx i)

/-! ### What holds of words -/

/-- The occurrences of two letters. -/
def pr (a b : Int) (w : List Int) : List Int := w.filter (fun x => x == a || x == b)

/-- Words are alike: all their projections to letters that depend are. -/
def Alike (D : Int → Int → Bool) (w v : List Int) : Prop := ∀ a b, D a b = true → pr a b w = pr a b v

variable {D : Int → Int → Bool}

theorem Alike.refl (w : List Int) : Alike D w w := fun _ _ _ => rfl
theorem Alike.symm {w v : List Int} (h : Alike D w v) : Alike D v w := fun a b hd => (h a b hd).symm
theorem Alike.trans {w v u : List Int} (h : Alike D w v) (h2 : Alike D v u) : Alike D w u := fun a b hd => (h a b hd).trans (h2 a b hd)

theorem pr_append (a b : Int) (w v : List Int) : pr a b (w ++ v) = pr a b w ++ pr a b v := List.filter_append ..

theorem Alike.append {w v u x : List Int} (h : Alike D w v) (h2 : Alike D u x) : Alike D (w ++ u) (v ++ x) := fun a b hd => by
  rw [pr_append, pr_append, h a b hd, h2 a b hd]

theorem Alike.cancel {u w v : List Int} (h : Alike D (u ++ w) (u ++ v)) : Alike D w v := fun a b hd => by
  have := h a b hd
  rw [pr_append, pr_append] at this
  exact List.append_cancel_left this

theorem Alike.cancel_right {u w v : List Int} (h : Alike D (w ++ u) (v ++ u)) : Alike D w v := fun a b hd => by
  have := h a b hd
  rw [pr_append, pr_append] at this
  exact List.append_cancel_right this

theorem Alike.cons {w v : List Int} (a : Int) (h : Alike D w v) : Alike D (a :: w) (a :: v) := (Alike.refl [a]).append h
theorem Alike.tail {a : Int} {w v : List Int} (h : Alike D (a :: w) (a :: v)) : Alike D w v := Alike.cancel (u := [a]) h

theorem pr_cons (a b x : Int) (w : List Int) : pr a b (x :: w) = if x = a ∨ x = b then x :: pr a b w else pr a b w := by
  unfold pr
  rw [List.filter_cons]
  simp

/-- A letter can be brought to the front exactly if each projection begins with it. -/
theorem free_iff (hr : ∀ a, D a a = true) (a : Int) : ∀ w : List Int, (free D w a).isSome = true ↔ ∀ c, D a c = true → (pr a c w).head? = some a
  | [] => by
    simp only [free, Option.isSome_none, Bool.false_eq_true, false_iff]
    intro h
    have := h a (hr a)
    simp [pr] at this
  | b :: w => by
    have ih := free_iff hr a w
    by_cases hb : b = a
    · subst hb
      simp [free, pr_cons]
    · cases hd : D a b with
      | true =>
        simp only [free, hb, if_false, hd, if_true, Option.isSome_none, Bool.false_eq_true, false_iff]
        intro h
        have := h b hd
        rw [pr_cons] at this
        simp [hb] at this
      | false =>
        simp only [free, hb, if_false, hd, Bool.false_eq_true, Option.isSome_map]
        rw [ih]
        refine forall_congr' fun c => imp_congr_right fun hc => ?_
        have hbc : b ≠ c := fun e => by subst e; rw [hd] at hc; exact absurd hc (by simp)
        rw [pr_cons, if_neg (by rintro (h | h); exact hb h; exact hbc h)]

theorem free_alike (hr : ∀ a, D a a = true) {w v : List Int} (h : Alike D w v) (a : Int) : (free D w a).isSome = (free D v a).isSome := by
  rw [Bool.eq_iff_iff, free_iff hr, free_iff hr]
  exact forall_congr' fun c => imp_congr_right fun hc => by rw [h a c hc]

/-- A word is alike to one with such a letter in front of what is left. -/
theorem alike_free (hs : ∀ a b, D a b = D b a) {a : Int} : ∀ {w : List Int} {i : Nat}, free D w a = some i → Alike D w (a :: w.eraseIdx i)
  | [], i, h => by simp [free] at h
  | b :: w, i, h => by
    unfold free at h
    by_cases hb : b = a
    · subst hb
      simp only [if_true] at h
      cases h
      exact Alike.refl _
    · rw [if_neg hb] at h
      cases hd : D a b with
      | true => rw [hd] at h; simp at h
      | false =>
        rw [hd] at h
        simp only [Bool.false_eq_true, if_false, Option.map_eq_some_iff] at h
        obtain ⟨j, hj, rfl⟩ := h
        have ih := alike_free hs hj
        rw [List.eraseIdx_cons_succ]
        refine ((ih.cons b)).trans fun c d hcd => ?_
        rw [pr_cons c d b, pr_cons c d a, pr_cons c d a, pr_cons c d b]
        by_cases h1 : b = c ∨ b = d
        · by_cases h2 : a = c ∨ a = d
          · exfalso
            rcases h1 with rfl | rfl <;> rcases h2 with rfl | rfl
            · exact hb rfl
            · rw [hs] at hcd; rw [hcd] at hd; exact absurd hd (by simp)
            · rw [hcd] at hd; exact absurd hd (by simp)
            · exact hb rfl
          · simp [h1, h2]
        · simp [h1]

theorem free_of_alike (hr : ∀ a, D a a = true) {w v : List Int} {a : Int} (h : Alike D w (a :: v)) : ∃ i, free D w a = some i := by
  have : (free D w a).isSome = true := by
    rw [free_alike hr h]
    simp [free]
  exact Option.isSome_iff_exists.1 this

theorem erase_alike (hs : ∀ a b, D a b = D b a) {w v : List Int} {a : Int} {i : Nat} (h : Alike D w (a :: v)) (hf : free D w a = some i) : Alike D (w.eraseIdx i) v :=
  Alike.tail ((alike_free hs hf).symm.trans h)

theorem rest_alike (hs : ∀ a b, D a b = D b a) : ∀ {u w v : List Int}, rest D u w = some v → Alike D w (u ++ v)
  | [], w, v, h => by simp only [rest, Option.some.injEq] at h; subst h; exact Alike.refl _
  | a :: u, w, v, h => by
    unfold rest at h
    cases hf : free D w a with
    | none => rw [hf] at h; simp at h
    | some i =>
      rw [hf] at h
      exact (alike_free hs hf).trans ((rest_alike hs h).cons a)

theorem rest_of_alike (hr : ∀ a, D a a = true) (hs : ∀ a b, D a b = D b a) : ∀ {u w v : List Int}, Alike D w (u ++ v) → ∃ x, rest D u w = some x ∧ Alike D x v
  | [], w, v, h => ⟨w, rfl, h⟩
  | a :: u, w, v, h => by
    obtain ⟨i, hi⟩ := free_of_alike hr h
    obtain ⟨x, hx, ha⟩ := rest_of_alike hr hs (erase_alike hs h hi)
    exact ⟨x, by unfold rest; rw [hi]; exact hx, ha⟩

theorem pr_self (a : Int) (w : List Int) : pr a a w = List.replicate (w.count a) a := by
  unfold pr
  simp only [Bool.or_self]
  rw [List.filter_beq]

theorem Alike.count (hr : ∀ a, D a a = true) {w v : List Int} (h : Alike D w v) (a : Int) : w.count a = v.count a := by
  have := congrArg List.length (h a a (hr a))
  rwa [pr_self, pr_self, List.length_replicate, List.length_replicate] at this

theorem Alike.perm (hr : ∀ a, D a a = true) {w v : List Int} (h : Alike D w v) : w.Perm v := List.perm_iff_count.2 (h.count hr)
theorem Alike.length (hr : ∀ a, D a a = true) {w v : List Int} (h : Alike D w v) : w.length = v.length := (h.perm hr).length_eq
theorem Alike.nil (hr : ∀ a, D a a = true) {w : List Int} (h : Alike D w []) : w = [] := List.length_eq_zero_iff.1 (h.length hr)

/-- Two words are alike exactly if the one is all of the other one. -/
theorem alike_iff (hr : ∀ a, D a a = true) (hs : ∀ a b, D a b = D b a) {w v : List Int} : rest D w v = some [] ↔ Alike D w v := by
  constructor
  · intro h; have := rest_alike hs h; rw [List.append_nil] at this; exact this.symm
  · intro h
    obtain ⟨x, hx, ha⟩ := rest_of_alike hr hs (u := w) (w := v) (v := []) (by rw [List.append_nil]; exact h.symm)
    rw [hx, ha.nil hr]

/-! ### First forms -/

theorem starts_alike (hr : ∀ a, D a a = true) (n : Nat) {w v : List Int} (h : Alike D w v) : starts D n w = starts D n v := by
  unfold starts
  congr 1
  funext a
  exact free_alike hr h a

theorem mem_starts {n : Nat} {w : List Int} {a : Int} : a ∈ starts D n w ↔ (0 ≤ a ∧ a < n) ∧ (free D w a).isSome = true := by
  unfold starts
  rw [List.mem_filter]
  refine and_congr_left fun _ => ?_
  simp only [List.mem_map, List.mem_range]
  constructor
  · rintro ⟨k, hk, rfl⟩; simp; omega
  · rintro ⟨h0, h1⟩; exact ⟨a.toNat, by omega, by simp; omega⟩

theorem free_lt {a : Int} : ∀ {w : List Int} {i : Nat}, free D w a = some i → ∃ h : i < w.length, w[i] = a
  | [], i, h => by simp [free] at h
  | b :: w, i, h => by
    unfold free at h
    by_cases hb : b = a
    · rw [if_pos hb] at h; cases h; exact ⟨by simp, hb⟩
    · rw [if_neg hb] at h
      split at h
      · simp at h
      · rw [Option.map_eq_some_iff] at h
        obtain ⟨j, hj, rfl⟩ := h
        obtain ⟨h1, h2⟩ := free_lt hj
        exact ⟨by simp; omega, by simpa using h2⟩

theorem free_head (w : List Int) (a : Int) : free D (a :: w) a = some 0 := by simp [free]

theorem rem_alike (hs : ∀ a b, D a b = D b a) {w : List Int} {a : Int} (h : (free D w a).isSome = true) : Alike D w (a :: rem D w a) := by
  obtain ⟨i, hi⟩ := Option.isSome_iff_exists.1 h
  unfold rem
  rw [hi]
  exact alike_free hs hi

theorem rem_length {w : List Int} {a : Int} (h : (free D w a).isSome = true) : (rem D w a).length + 1 = w.length := by
  obtain ⟨i, hi⟩ := Option.isSome_iff_exists.1 h
  unfold rem
  rw [hi]
  obtain ⟨hl, _⟩ := free_lt hi
  simp only [List.length_eraseIdx, hl, if_true]
  omega

theorem rem_sub {w : List Int} {a x : Int} (h : x ∈ rem D w a) : x ∈ w := by
  unfold rem at h
  split at h
  · exact List.mem_of_mem_eraseIdx h
  · exact h

theorem firstN_alike (hr : ∀ a, D a a = true) (hs : ∀ a b, D a b = D b a) (n : Nat) : ∀ (k : Nat) {w v : List Int}, Alike D w v → firstN D n k w = firstN D n k v
  | 0, _, _, _ => rfl
  | k + 1, w, v, h => by
    have hst := starts_alike hr n h
    unfold firstN
    rw [← hst]
    cases hs' : starts D n w with
    | nil => rfl
    | cons a l =>
      have hm : a ∈ starts D n w := by rw [hs']; simp
      have hw := (mem_starts.1 hm).2
      have hv : (free D v a).isSome = true := by rw [← free_alike hr h]; exact hw
      simp only
      rw [firstN_alike hr hs n k (Alike.tail ((rem_alike hs hw).symm.trans (h.trans (rem_alike hs hv))))]

theorem first_alike (hr : ∀ a, D a a = true) (hs : ∀ a b, D a b = D b a) (n : Nat) {w v : List Int} (h : Alike D w v) : first D n w = first D n v := by
  unfold first
  rw [h.length hr]
  exact firstN_alike hr hs n _ h

/-- A word that has letters has a first one. -/
theorem starts_ne {n : Nat} {w : List Int} (hw : ∀ x ∈ w, 0 ≤ x ∧ x < n) (hne : w ≠ []) : starts D n w ≠ [] := by
  obtain ⟨a, l, rfl⟩ := List.exists_cons_of_ne_nil hne
  have : a ∈ starts D n (a :: l) := mem_starts.2 ⟨hw a (by simp), by simp [free]⟩
  intro e
  rw [e] at this
  simp at this

theorem alike_firstN (hs : ∀ a b, D a b = D b a) (n : Nat) : ∀ (k : Nat) {w : List Int}, w.length ≤ k → (∀ x ∈ w, 0 ≤ x ∧ x < n) → Alike D w (firstN D n k w)
  | 0, w, hk, _ => by
    obtain rfl : w = [] := List.length_eq_zero_iff.1 (by omega)
    exact Alike.refl _
  | k + 1, w, hk, hw => by
    unfold firstN
    cases hs' : starts D n w with
    | nil =>
      by_cases hne : w = []
      · subst hne; exact Alike.refl _
      · exact absurd hs' (starts_ne hw hne)
    | cons a l =>
      have hm : a ∈ starts D n w := by rw [hs']; simp
      have hf := (mem_starts.1 hm).2
      have hl := rem_length hf
      exact (rem_alike hs hf).trans ((alike_firstN hs n k (by omega) (fun x hx => hw x (rem_sub hx))).cons a)

theorem alike_first (hs : ∀ a b, D a b = D b a) {n : Nat} {w : List Int} (hw : ∀ x ∈ w, 0 ≤ x ∧ x < n) : Alike D w (first D n w) := alike_firstN hs n _ (Nat.le_refl _) hw

theorem first_iff (hr : ∀ a, D a a = true) (hs : ∀ a b, D a b = D b a) {n : Nat} {w v : List Int} (hw : ∀ x ∈ w, 0 ≤ x ∧ x < n) (hv : ∀ x ∈ v, 0 ≤ x ∧ x < n) : first D n w = first D n v ↔ Alike D w v :=
  ⟨fun h => (alike_first hs hw).trans (h ▸ (alike_first hs hv).symm), first_alike hr hs n⟩

theorem dep_refl (L : Lt) (a : Int) : dep L a a = true := by simp [dep]
theorem hits_comm (a b : Int) (p : Int × Int) : hits a b p = hits b a p := by unfold hits; exact Bool.or_comm _ _
theorem dep_comm (L : Lt) (a b : Int) : dep L a b = dep L b a := by
  unfold dep
  rw [show hits a b = hits b a from funext (hits_comm a b), show (a == b) = (b == a) from Bool.eq_iff_iff.2 (by rw [beq_iff_eq, beq_iff_eq]; exact eq_comm)]

end Go.Lin.Wv
