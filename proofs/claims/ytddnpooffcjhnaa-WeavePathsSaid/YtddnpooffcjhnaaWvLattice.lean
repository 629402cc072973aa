/- Plain laws: what two words have in common is the greatest word that begins both; the word that both begin is the least one. No program in sight. -/
import Derived.Test.YtddnpooffcjhnaaWvPlain2
namespace Go.Lin.Wv

variable {D : Int → Int → Bool} (hr : ∀ a, D a a = true) (hs : ∀ a b, D a b = D b a)

/-- One begins the other one. -/
def Pre (D : Int → Int → Bool) (u w : List Int) : Prop := ∃ s, Alike D w (u ++ s)

/-- A letter can be brought to the front. -/
abbrev Fr (D : Int → Int → Bool) (w : List Int) (a : Int) : Prop := (free D w a).isSome = true

theorem fr_cons {b a : Int} {w : List Int} : Fr D (b :: w) a ↔ b = a ∨ (D a b = false ∧ Fr D w a) := by
  unfold Fr
  rw [show free D (b :: w) a = if b = a then some 0 else if D a b then none else (free D w a).map (· + 1) from rfl]
  by_cases hb : b = a
  · simp [hb]
  · cases hd : D a b <;> simp [hb]

include hr in
theorem fr_mem {a : Int} {w : List Int} (h : Fr D w a) : a ∈ w := by
  obtain ⟨i, hi⟩ := Option.isSome_iff_exists.1 h
  obtain ⟨h1, h2⟩ := free_lt hi
  have := hr a
  exact h2 ▸ List.getElem_mem h1

include hr in
theorem fr_append_mem {u v : List Int} {a : Int} (h : Fr D (u ++ v) a) (ha : a ∈ u) : Fr D u a := by
  induction u with
  | nil => cases ha
  | cons b u ih =>
    rw [List.cons_append] at h
    rcases fr_cons.1 h with rfl | ⟨hd, h⟩
    · exact fr_cons.2 (.inl rfl)
    · rcases List.mem_cons.1 ha with rfl | ha
      · rw [hr] at hd; cases hd
      · exact fr_cons.2 (.inr ⟨hd, ih h ha⟩)

theorem fr_append_not {u v : List Int} {a : Int} (h : Fr D (u ++ v) a) (ha : a ∉ u) : (∀ c ∈ u, D a c = false) ∧ Fr D v a := by
  induction u with
  | nil => exact ⟨fun c hc => (by cases hc), h⟩
  | cons b u ih =>
    rw [List.cons_append] at h
    rcases fr_cons.1 h with rfl | ⟨hd, h⟩
    · exact absurd (List.mem_cons_self ..) ha
    · obtain ⟨h1, h2⟩ := ih h (fun hm => ha (List.mem_cons_of_mem _ hm))
      refine ⟨fun c hc => ?_, h2⟩
      rcases List.mem_cons.1 hc with rfl | hc
      · exact hd
      · exact h1 c hc

theorem fr_append_left {u v : List Int} {a : Int} (h : Fr D u a) : Fr D (u ++ v) a := by
  induction u with
  | nil => unfold Fr free at h; cases h
  | cons b u ih =>
    rw [List.cons_append]
    rcases fr_cons.1 h with h | ⟨hd, h⟩
    · exact fr_cons.2 (.inl h)
    · exact fr_cons.2 (.inr ⟨hd, ih h⟩)

include hr in
theorem fr_alike {u v : List Int} {a : Int} (h : Alike D u v) : Fr D u a ↔ Fr D v a := by unfold Fr; rw [free_alike hr h]

include hs in
/-- Two neighbouring letters that do not depend. -/
theorem swap_alike {a b : Int} (hab : D a b = false) (hr : ∀ a, D a a = true) : Alike D [a, b] [b, a] := by
  have hne : a ≠ b := fun e => by subst e; rw [hr] at hab; cases hab
  intro c d hcd
  have no : ¬ ((a = c ∨ a = d) ∧ (b = c ∨ b = d)) := fun ⟨h1, h2⟩ => by
    rcases h1 with rfl | rfl <;> rcases h2 with rfl | rfl
    · exact hne rfl
    · rw [hcd] at hab; cases hab
    · rw [hs, hcd] at hab; cases hab
    · exact hne rfl
  rw [pr_cons, pr_cons, pr_cons, pr_cons]
  by_cases h1 : a = c ∨ a = d
  · have h2 : ¬ (b = c ∨ b = d) := fun h2 => no ⟨h1, h2⟩
    simp [h1, h2]
  · simp [h1]

include hr hs in
theorem pass_alike {a : Int} {u : List Int} (h : ∀ c ∈ u, D a c = false) : Alike D (a :: u) (u ++ [a]) := by
  induction u with
  | nil => exact Alike.refl _
  | cons b u ih =>
    have h1 := swap_alike hs (h b (by simp)) hr
    have h2 := ih (fun c hc => h c (by simp [hc]))
    exact (h1.append (Alike.refl u)).trans (h2.cons b)

include hr hs in
theorem pass_word {p q : List Int} (h : ∀ a ∈ p, ∀ c ∈ q, D a c = false) : Alike D (p ++ q) (q ++ p) := by
  induction p with
  | nil => rw [List.nil_append, List.append_nil]; exact Alike.refl _
  | cons a p ih =>
    have h1 := ih (fun a' ha' => h a' (by simp [ha']))
    have h2 := pass_alike hr hs (h a (by simp))
    have h3 := (h2.append (Alike.refl p))
    rw [List.append_assoc] at h3
    exact (h1.cons a).trans h3

theorem Pre.refl (w : List Int) : Pre D w w := ⟨[], by rw [List.append_nil]; exact Alike.refl _⟩
theorem Pre.of_alike {u w x : List Int} (h : Pre D u w) (ha : Alike D w x) : Pre D u x := let ⟨s, h1⟩ := h; ⟨s, ha.symm.trans h1⟩
theorem Pre.alike_left {u v w : List Int} (h : Pre D u w) (ha : Alike D u v) : Pre D v w := let ⟨s, h1⟩ := h; ⟨s, h1.trans (ha.append (Alike.refl s))⟩

include hr hs in
theorem pre_iff {u w : List Int} : Pre D u w ↔ (rest D u w).isSome = true := by
  constructor
  · rintro ⟨s, h⟩
    obtain ⟨x, hx, _⟩ := rest_of_alike hr hs h
    rw [hx]; rfl
  · intro h
    obtain ⟨x, hx⟩ := Option.isSome_iff_exists.1 h
    exact ⟨x, rest_alike hs hx⟩

include hr in
theorem Pre.antisymm {u w : List Int} (h : Pre D u w) (h2 : Pre D w u) : Alike D u w := by
  obtain ⟨s, h⟩ := h
  obtain ⟨t, h2⟩ := h2
  have l1 := h.length hr
  have l2 := h2.length hr
  rw [List.length_append] at l1 l2
  have : s = [] := List.length_eq_zero_iff.1 (by omega)
  subst this
  rw [List.append_nil] at h
  exact h.symm

include hs in
/-- The two words fall into what they have in common and what is left. -/
theorem meet_alike (n : Nat) : ∀ (k : Nat) (w v : List Int), Alike D w ((meet D n k w v).1 ++ (meet D n k w v).2.1) ∧ Alike D v ((meet D n k w v).1 ++ (meet D n k w v).2.2)
  | 0, w, v => ⟨Alike.refl _, Alike.refl _⟩
  | k + 1, w, v => by
    unfold meet
    cases hf : (starts D n w).find? (fun a => (free D v a).isSome) with
    | none => exact ⟨Alike.refl _, Alike.refl _⟩
    | some a =>
      have hw := (mem_starts.1 (List.mem_of_find?_eq_some hf)).2
      have hv : (free D v a).isSome = true := by simpa using List.find?_some hf
      obtain ⟨h1, h2⟩ := meet_alike n k (rem D w a) (rem D v a)
      exact ⟨(rem_alike hs hw).trans (h1.cons a), (rem_alike hs hv).trans (h2.cons a)⟩

include hr in
theorem meet_none (n : Nat) : ∀ (k : Nat) (w v : List Int), w.length ≤ k → (∀ z ∈ w, 0 ≤ z ∧ z < (n : Int)) → ∀ a, ¬ (Fr D (meet D n k w v).2.1 a ∧ Fr D (meet D n k w v).2.2 a)
  | 0, w, v, hk, _, a => by
    obtain rfl : w = [] := List.length_eq_zero_iff.1 (by omega)
    rintro ⟨h, _⟩
    have h2 : (free D [] a).isSome = true := h
    cases h2
  | k + 1, w, v, hk, hw, a => by
    unfold meet
    cases hf : (starts D n w).find? (fun a => (free D v a).isSome) with
    | none =>
      rintro ⟨h1, h2⟩
      have hm : a ∈ starts D n w := mem_starts.2 ⟨hw a (fr_mem hr h1), h1⟩
      have := List.find?_eq_none.1 hf a hm
      exact this (by simpa using h2)
    | some b =>
      have hb := (mem_starts.1 (List.mem_of_find?_eq_some hf)).2
      have hl := rem_length hb
      exact meet_none n k (rem D w b) (rem D v b) (by omega) (fun z hz => hw z (rem_sub hz)) a

include hr hs in
/-- Whatever begins both begins what they have in common. -/
theorem meet_great (n : Nat) : ∀ (k : Nat) (w v o : List Int), w.length ≤ k → (∀ z ∈ w, 0 ≤ z ∧ z < (n : Int)) → Pre D o w → Pre D o v → Pre D o (meet D n k w v).1
  | 0, w, v, o, hk, _, h1, _ => by
    obtain rfl : w = [] := List.length_eq_zero_iff.1 (by omega)
    obtain ⟨s, h⟩ := h1
    have := h.length hr
    rw [List.length_append] at this
    have : o = [] := List.length_eq_zero_iff.1 (by simp at this; omega)
    subst this
    exact Pre.refl _
  | k + 1, w, v, o, hk, hw, ⟨s, h1⟩, ⟨t, h2⟩ => by
    unfold meet
    cases hf : (starts D n w).find? (fun a => (free D v a).isSome) with
    | none =>
      cases o with
      | nil => exact Pre.refl _
      | cons a o =>
        exfalso
        have fw : Fr D w a := (fr_alike hr h1).2 (fr_cons.2 (.inl rfl))
        have fv : Fr D v a := (fr_alike hr h2).2 (fr_cons.2 (.inl rfl))
        have hm : a ∈ starts D n w := mem_starts.2 ⟨hw a (fr_mem hr fw), fw⟩
        exact List.find?_eq_none.1 hf a hm (by simpa using fv)
    | some a =>
      have fw : Fr D w a := (mem_starts.1 (List.mem_of_find?_eq_some hf)).2
      have fv : Fr D v a := by simpa using List.find?_some hf
      have hl := rem_length fw
      have rw' := rem_alike hs fw
      have rv := rem_alike hs fv
      have ih := meet_great n k (rem D w a) (rem D v a)
      simp only
      by_cases ha : a ∈ o
      · have fo : Fr D o a := fr_append_mem hr ((fr_alike hr h1).1 fw) ha
        have ro := rem_alike hs fo
        have p1 : Pre D (rem D o a) (rem D w a) := ⟨s, Alike.tail (rw'.symm.trans (h1.trans (ro.append (Alike.refl s))))⟩
        have p2 : Pre D (rem D o a) (rem D v a) := ⟨t, Alike.tail (rv.symm.trans (h2.trans (ro.append (Alike.refl t))))⟩
        obtain ⟨z, hz⟩ := ih (rem D o a) (by omega) (fun x hx => hw x (rem_sub hx)) p1 p2
        exact ⟨z, (hz.cons a).trans (ro.symm.append (Alike.refl z))⟩
      · obtain ⟨d1, fs⟩ := fr_append_not ((fr_alike hr h1).1 fw) ha
        obtain ⟨_, ft⟩ := fr_append_not ((fr_alike hr h2).1 fv) ha
        have pa := pass_alike hr hs d1
        have q1 : Alike D w (a :: (o ++ rem D s a)) := h1.trans (((Alike.refl o).append (rem_alike hs fs)).trans (by
          have := pa.symm.append (Alike.refl (rem D s a))
          rwa [List.append_assoc] at this))
        have q2 : Alike D v (a :: (o ++ rem D t a)) := h2.trans (((Alike.refl o).append (rem_alike hs ft)).trans (by
          have := pa.symm.append (Alike.refl (rem D t a))
          rwa [List.append_assoc] at this))
        obtain ⟨z, hz⟩ := ih o (by omega) (fun x hx => hw x (rem_sub hx)) ⟨_, Alike.tail (rw'.symm.trans q1)⟩ ⟨_, Alike.tail (rv.symm.trans q2)⟩
        refine ⟨a :: z, (hz.cons a).trans ?_⟩
        have := pa.append (Alike.refl z)
        rwa [List.append_assoc] at this

include hr hs in
/-- Two words with no first letter in common, that begin one word: they do not depend, and that word begins with both. -/
theorem apart_both : ∀ (p q s t : List Int), (∀ a, ¬ (Fr D p a ∧ Fr D q a)) → Alike D (p ++ s) (q ++ t) → (∀ a ∈ p, ∀ c ∈ q, D a c = false) ∧ ∃ z, Alike D t (p ++ z)
  | [], q, s, t, _, _ => ⟨fun a ha => (by cases ha), t, Alike.refl _⟩
  | a :: p, q, s, t, hn, h => by
    have f1 : Fr D (q ++ t) a := (fr_alike hr h).1 (fr_cons.2 (.inl rfl))
    have haq : a ∉ q := fun hm => hn a ⟨fr_cons.2 (.inl rfl), fr_append_mem hr f1 hm⟩
    obtain ⟨d, ft⟩ := fr_append_not f1 haq
    have rt := rem_alike hs ft
    have pa := pass_alike hr hs d
    have h2 : Alike D (a :: (p ++ s)) (a :: (q ++ rem D t a)) := h.trans (((Alike.refl q).append rt).trans (by
      have := pa.symm.append (Alike.refl (rem D t a))
      rwa [List.append_assoc] at this))
    obtain ⟨i1, z, i2⟩ := apart_both p q s (rem D t a) (fun c ⟨c1, c2⟩ => hn c ⟨fr_cons.2 (.inr ⟨by rw [hs]; exact d c (fr_mem hr c2), c1⟩), c2⟩) (Alike.tail h2)
    refine ⟨fun b hb => ?_, z, rt.trans (i2.cons a)⟩
    rcases List.mem_cons.1 hb with rfl | hb
    · exact d
    · exact i1 b hb

end Go.Lin.Wv
