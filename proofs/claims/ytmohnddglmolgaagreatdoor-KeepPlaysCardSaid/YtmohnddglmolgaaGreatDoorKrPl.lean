/- Plain: what the reference makes of a line: words, numbers, answers. -/
import Derived.Test.YtmohnddglmolgaaGreatDoorKpSays
import Derived.Test.YtmohnddglmolgaaGreatDoorKpScr
namespace Go.Lin.Kp
open Go Go.Lin

theorem splitL_end (c : UInt8) : ∀ p : List UInt8, (∀ b ∈ p, b ≠ c) → splitL c p = [p]
  | [], _ => rfl
  | b :: p, h => by
    have ih := splitL_end c p (fun x hx => h x (List.mem_cons_of_mem _ hx))
    have hb : b ≠ c := h b (List.mem_cons_self ..)
    simp only [splitL, if_neg hb, ih]

theorem splitL_run (c : UInt8) (q : List UInt8) : ∀ p : List UInt8, (∀ b ∈ p, b ≠ c) → splitL c (p ++ c :: q) = p :: splitL c q
  | [], _ => by simp only [List.nil_append, splitL, if_true]
  | b :: p, h => by
    have ih := splitL_run c q p (fun x hx => h x (List.mem_cons_of_mem _ hx))
    have hb : b ≠ c := h b (List.mem_cons_self ..)
    simp only [List.cons_append, splitL, if_neg hb, ih]

/-- Nothing between two places is a byte. -/
def NoB (c : UInt8) (l : List UInt8) (a i : Nat) : Prop := ∀ t b, a ≤ t → t < i → l[t]? = some b → b ≠ c

theorem noB_mem {c : UInt8} {l : List UInt8} {a i : Nat} (h : NoB c l a i) : ∀ b ∈ (l.take i).drop a, b ≠ c := fun b hb => by
  obtain ⟨t, ht, rfl⟩ := List.getElem_of_mem hb
  have ht2 := ht
  rw [List.length_drop, List.length_take] at ht2
  refine h (a + t) _ (Nat.le_add_right _ _) (by omega) ?_
  rw [List.getElem_drop, List.getElem_take, List.getElem?_eq_getElem]

theorem splitL_atR {c : UInt8} {l : List UInt8} {a i : Nat} (ha : a ≤ i) (hi : i < l.length) (h : NoB c l a i) (hc : l[i]? = some c) : splitL c (l.drop a) = (l.take i).drop a :: splitL c (l.drop (i + 1)) := by
  have hd : l.drop a = (l.take i).drop a ++ c :: l.drop (i + 1) := by
    have h1 : l.take i ++ l.drop i = l := List.take_append_drop i l
    have h2 : l.drop i = c :: l.drop (i + 1) := by
      rw [List.drop_eq_getElem_cons hi]
      rw [List.getElem?_eq_getElem hi, Option.some.injEq] at hc
      rw [hc]
    have h3 : (l.take i ++ l.drop i).drop a = (l.take i).drop a ++ l.drop i := List.drop_append_of_le_length (by rw [List.length_take]; omega)
    rw [h1, h2] at h3
    exact h3
  rw [hd, splitL_run c _ _ (noB_mem h)]

theorem splitL_last {c : UInt8} {l : List UInt8} {a : Nat} (h : NoB c l a l.length) : splitL c (l.drop a) = [l.drop a] := by
  have := noB_mem h
  rw [List.take_length] at this
  exact splitL_end c _ this

theorem splitL_one {c : UInt8} : ∀ {l x : List UInt8}, splitL c l = [x] → l = x
  | [], x, h => by
    unfold splitL at h
    exact (List.cons.inj h).1
  | b :: l, x, h => by
    unfold splitL at h
    split at h
    · exact absurd (List.cons.inj h).2 (splitL_ne c l)
    · cases e : splitL c l with
      | nil => exact absurd e (splitL_ne c l)
      | cons y r =>
        rw [e] at h
        simp only [List.cons.injEq] at h
        obtain ⟨h1, h2⟩ := h
        subst h2
        rw [splitL_one e, h1]

theorem splitL_size {c : UInt8} : ∀ {l : List UInt8}, ∀ x ∈ splitL c l, x.length ≤ l.length
  | [], x, h => by simp [splitL] at h; subst h; exact Nat.le_refl _
  | b :: l, x, h => by
    unfold splitL at h
    split at h
    · rcases List.mem_cons.1 h with rfl | h
      · exact Nat.zero_le _
      · exact Nat.le_succ_of_le (splitL_size x h)
    · cases e : splitL c l with
      | nil => exact absurd e (splitL_ne c l)
      | cons y r =>
        have ih := fun x hx => splitL_size (c := c) (l := l) x hx
        rw [e] at h ih
        rcases List.mem_cons.1 h with rfl | h
        · have := ih y (List.mem_cons_self ..); simp only [List.length_cons]; omega
        · have := ih x (List.mem_cons_of_mem _ h); simp only [List.length_cons]; omega

theorem numM_some {s : List UInt8} (h1 : 1 ≤ s.length) (h2 : s.length ≤ 4) (h3 : ¬ (1 < s.length ∧ s.head? = some 48)) (h4 : s.all isDig = true) : numM s = some (numVal 0 s : Int) := by
  unfold numM; rw [if_pos ⟨h1, h2, h3, h4⟩]
theorem numM_short {s : List UInt8} (h : ¬ (1 ≤ s.length ∧ s.length ≤ 4)) : numM s = none := by
  unfold numM; rw [if_neg (fun e => h ⟨e.1, e.2.1⟩)]
theorem numM_zero {s : List UInt8} (h : 1 < s.length ∧ s.head? = some 48) : numM s = none := by
  unfold numM; rw [if_neg (fun e => e.2.2.1 h)]
theorem numM_bad {s : List UInt8} {i : Nat} {b : UInt8} (h : s[i]? = some b) (hb : isDig b = false) : numM s = none := by
  unfold numM
  rw [if_neg (fun e => ?_)]
  have h4 := e.2.2.2
  rw [List.all_eq_true] at h4
  have := h4 b (List.mem_of_getElem? h)
  rw [hb] at this; cases this

theorem join_snoc (xs : List (List UInt8)) (y sep : List UInt8) : Lib.join (xs ++ [y]) sep = if xs = [] then y else Lib.join xs sep ++ sep ++ y := by
  cases xs with
  | nil => rw [List.nil_append, Lib.join_one, if_pos rfl]
  | cons x r =>
    rw [List.cons_append, Lib.join_cons, Lib.join_cons, if_neg (by simp)]
    simp [Lib.joinTail, List.append_assoc]

/-- What the reference answers to a line. -/
def scriptM (A : Bk → List UInt8 → List UInt8 × Int) (D : Dk) (x : List UInt8) : (List UInt8 × Int) × Dk := match parseM x with
  | none => (([], 100), D)
  | some c => doM A D c

theorem lineM_script (A : Bk → List UInt8 → List UInt8 × Int) (D : Dk) (x : List UInt8) :
    lineM A D x = (if (scriptM A D x).1.2 = 0 then (scriptM A D x).1.1 else errT (scriptM A D x).1.2, (scriptM A D x).2) := by
  unfold lineM scriptM
  cases parseM x with
  | none => rfl
  | some c => rfl

theorem script_some {A : Bk → List UInt8 → List UInt8 × Int} {D : Dk} {x : List UInt8} {c : Cmd} (h : parseM x = some c) : scriptM A D x = doM A D c := by
  unfold scriptM; rw [h]
theorem script_none {A : Bk → List UInt8 → List UInt8 × Int} {D : Dk} {x : List UInt8} (h : parseM x = none) : scriptM A D x = (([], 100), D) := by
  unfold scriptM; rw [h]

theorem wOpen_split : splitL 32 wOpen = [wOpen] := by decide
theorem wList_split : splitL 32 wList = [wList] := by decide
theorem open_parse : parseM wOpen = some .open_ := by kernel_rfl
theorem list_parse : parseM wList = some .list := by kernel_rfl

/-- A line that is no question answers as one that is none. -/
theorem ask_none (b : Bk) {x w0 : List UInt8} {r : List (List UInt8)} (h : splitL 32 x = w0 :: r) (hr : r ≠ []) : askA b x = ([], 100) := by
  unfold askA
  have key : ∀ y : List UInt8, splitL 32 y = [y] → x ≠ y := fun y hy e => by
    subst e
    rw [h] at hy
    exact hr (List.cons.inj hy).2
  rw [if_neg (key [115, 105, 122, 101] (by decide)), if_neg (key [115, 97, 121, 115] (by decide)), if_neg (key [99, 111, 117, 110, 116] (by decide))]

end Go.Lin.Kp
