/- Plain laws of names and less: what changed makes of a graph. -/
import Derived.Test.YtojkohpniokaaaaPgRef6
import Derived.Test.YtojkohpniokaaaaPgEitherP
namespace Go.Lin.Pg
open Go.Proofs.Ytojkohpniokaaaa

theorem renM_map (ms : List Mv) (a b : Int) : renM ms a b = ms.map (ren a b) := by
  have key : ∀ j, j ≤ ms.length → chgM (fun _ m => (ren a b m, true)) ms j = (ms.take j).map (ren a b) := by
    intro j
    induction j with
    | zero => intro _; rfl
    | succ j ih =>
      intro hj
      simp only [chgM]
      rw [ih (by omega), tellAt_some (List.getElem?_eq_getElem (by omega : j < ms.length)), take_add_getM (List.getElem?_eq_getElem (by omega : j < ms.length)), List.map_append]
      simp
  unfold renM
  rw [key _ (Nat.le_refl _), List.take_length]

theorem chgM_mem {tell : Nat → Mv → Mv × Bool} (ht : ∀ i m, (tell i m).1 = m) (ms : List Mv) : ∀ j, ∀ x ∈ chgM tell ms j, x ∈ ms ∧ ∃ i, (tell i x).2 = true
  | 0, x, h => by cases h
  | j + 1, x, h => by
    simp only [chgM] at h
    rcases List.mem_append.1 h with h | h
    · exact chgM_mem ht ms j x h
    · unfold tellAt at h
      cases hm : ms[j]? with
      | none => rw [hm] at h; cases h
      | some m =>
        rw [hm] at h
        simp only at h
        split at h
        · rename_i hc
          rw [List.mem_singleton, ht] at h
          subst h
          exact ⟨List.mem_of_getElem? hm, j, hc⟩
        · cases h

theorem only_mem {ms : List Mv} {t : Int} : ∀ m ∈ onlyM ms t, m ∈ ms ∧ th m = t := fun m hm => by
  obtain ⟨h1, i, h2⟩ := chgM_mem (tell := fun _ m => (m, th m == t)) (fun _ _ => rfl) ms _ m hm
  exact ⟨h1, by simpa using h2⟩
theorem without_mem {ms : List Mv} {i : Int} : ∀ m ∈ withoutM ms i, m ∈ ms := fun m hm => (chgM_mem (tell := fun k m => (m, (k : Int) != i)) (fun _ _ => rfl) ms _ m hm).1

/-- Sublists of right moves are right. -/
theorem mvsOk_iff {n : Int} : ∀ (l s : List Mv), mvsOk n s l = true ↔ (∀ m ∈ l, mvOk n m = true) ∧ l.Nodup ∧ ∀ m ∈ l, m ∉ s
  | [], s => by simp [mvsOk]
  | x :: l, s => by
    simp only [mvsOk, Bool.and_eq_true, Bool.not_eq_true', mvsOk_iff l, List.mem_cons, List.nodup_cons, List.mem_append, List.not_mem_nil, or_false]
    constructor
    · rintro ⟨⟨h1, h2⟩, h3, h4, h5⟩
      have h2' : x ∉ s := by rw [← List.contains_iff_mem, h2]; simp
      refine ⟨?_, ⟨fun hx => (h5 x hx) (.inr rfl), h4⟩, ?_⟩
      · rintro m (rfl | hm)
        · exact h1
        · exact h3 m hm
      · rintro m (rfl | hm)
        · exact h2'
        · exact fun hs => h5 m hm (.inl hs)
    · rintro ⟨h1, ⟨h2, h3⟩, h4⟩
      refine ⟨⟨h1 x (.inl rfl), ?_⟩, fun m hm => h1 m (.inr hm), h3, fun m hm => ?_⟩
      · exact Bool.eq_false_iff.2 (fun hc => h4 x (.inl rfl) (List.contains_iff_mem.1 hc))
      · rintro (hs | rfl)
        · exact h4 m (.inr hm) hs
        · exact h2 hm

theorem valid_iff {g : Gr} : valid g = true ↔ ((∀ m ∈ g.ms, mvOk g.n m = true) ∧ g.ms.Nodup) ∧ (1 ≤ g.n ∧ g.n ≤ 8) ∧ g.ms.length ≤ 20 := by
  unfold valid
  simp only [Bool.and_eq_true, decide_eq_true_eq, mvsOk_iff]
  constructor
  · rintro ⟨⟨⟨h1, h2, _⟩, h3⟩, h4⟩; exact ⟨⟨h1, h2⟩, h3, h4⟩
  · rintro ⟨⟨h1, h2⟩, h3, h4⟩; exact ⟨⟨⟨h1, h2, fun m _ => by simp⟩, h3⟩, h4⟩

theorem chgM_sub {tell : Nat → Mv → Mv × Bool} (ht : ∀ i m, (tell i m).1 = m) (ms : List Mv) : ∀ j, (chgM tell ms j).Sublist (ms.take j)
  | 0 => by simp [chgM]
  | j + 1 => by
    simp only [chgM]
    rw [List.take_add_one]
    refine List.Sublist.append (chgM_sub ht ms j) ?_
    unfold tellAt
    cases hm : ms[j]? with
    | none => simp
    | some m =>
      simp only [Option.toList_some]
      split
      · rw [ht]; exact List.Sublist.refl _
      · simp

theorem valid_sub {n : Int} {ms ms' : List Mv} (h : valid ⟨n, ms⟩ = true) (hs : ms'.Sublist ms) : valid ⟨n, ms'⟩ = true := by
  rw [valid_iff] at h ⊢
  obtain ⟨⟨h1, h2⟩, h3, h4⟩ := h
  exact ⟨⟨fun m hm => h1 m (hs.subset hm), hs.nodup h2⟩, h3, Nat.le_trans hs.length_le h4⟩

theorem valid_only {g : Gr} (h : valid g = true) (t : Int) : valid ⟨g.n, onlyM g.ms t⟩ = true :=
  valid_sub (ms := g.ms) h (by have := chgM_sub (tell := fun _ m => (m, th m == t)) (fun _ _ => rfl) g.ms g.ms.length; rw [List.take_length] at this; exact this)
theorem valid_without {g : Gr} (h : valid g = true) (i : Int) : valid ⟨g.n, withoutM g.ms i⟩ = true :=
  valid_sub (ms := g.ms) h (by have := chgM_sub (tell := fun k m => (m, (k : Int) != i)) (fun _ _ => rfl) g.ms g.ms.length; rw [List.take_length] at this; exact this)

theorem isTh_sw {a b t : Int} (ha : isTh a = true) (hb : isTh b = true) (ht : isTh t = true) : isTh (swT a b t) = true := by
  unfold swT; split
  · exact hb
  · split
    · exact ha
    · exact ht

theorem ren_inj {a b : Int} {x y : Mv} (h : ren a b x = ren a b y) : x = y := by
  have := congrArg (ren a b) h
  rwa [ren_ren, ren_ren] at this

theorem valid_ren {g : Gr} (h : valid g = true) {a b : Int} (ha : isTh a = true) (hb : isTh b = true) : valid ⟨g.n, renM g.ms a b⟩ = true := by
  rw [valid_iff] at h ⊢
  obtain ⟨⟨h1, h2⟩, h3, h4⟩ := h
  simp only [renM_map]
  refine ⟨⟨fun m hm => ?_, ?_⟩, h3, by simpa using h4⟩
  · obtain ⟨y, hy, rfl⟩ := List.mem_map.1 hm
    have := h1 y hy
    unfold mvOk at this ⊢
    simp only [Bool.and_eq_true] at this ⊢
    exact ⟨⟨this.1.1, this.1.2⟩, isTh_sw ha hb this.2⟩
  · rw [List.nodup_iff_pairwise_ne, List.pairwise_map]
    exact List.Pairwise.imp (fun hne he => hne (ren_inj he)) h2

theorem renM_renM (ms : List Mv) (a b : Int) : renM (renM ms a b) a b = ms := by rw [renM_map, renM_map, map_ren_ren]

/-- A claim holds for threads that are exchanged as it did. -/
theorem hol_ren {g : Gr} (h : valid g = true) {a b c t : Int} : hol ⟨g.n, renM g.ms a b⟩ c (if c > 0 then swT a b t else t) = hol g c t ∨ c < 0 := by
  by_cases hc : c < 0
  · exact .inr hc
  · refine .inl ?_
    have hG := gOk_valid h
    unfold hol Gr.N
    simp only [renM_map]
    by_cases h0 : c > 0
    · rw [if_pos h0]; exact holds_ren hG.h1 hG.h8 hG.inN a b c t
    · obtain rfl : c = 0 := by omega
      rw [if_neg h0]; exact holds_ren0 hG.h1 hG.h8 hG.inN a b t

theorem hol_only {g : Gr} (h : valid g = true) {t : Int} : hol ⟨g.n, onlyM g.ms t⟩ 0 0 = hol ⟨g.n, onlyM g.ms t⟩ 2 t := by
  have hG := gOk_valid (valid_only h t)
  exact only_same hG.h1 hG.h8 hG.inN (fun m hm => (only_mem m hm).2)

theorem hol_without {g : Gr} (h : valid g = true) {i c t : Int} (hh : hol g c t = true) : hol ⟨g.n, withoutM g.ms i⟩ c t = true := by
  have hG := gOk_valid h
  have hG' := gOk_valid (valid_without h i)
  exact holds_mono hG'.h1 hG'.h8 hG'.inN hG.h1 hG.h8 hG.inN hh without_mem (fun _ _ h => h) (fun _ _ _ h => h)

theorem without_len (ms : List Mv) {i : Nat} (hi : i < ms.length) : (withoutM ms (i : Int)).length = ms.length - 1 := by
  have key : ∀ j, j ≤ ms.length → (chgM (fun k m => (m, (k : Int) != (i : Int))) ms j).length = if i < j then j - 1 else j := by
    intro j
    induction j with
    | zero => intro _; simp [chgM]
    | succ j ih =>
      intro hj
      simp only [chgM, List.length_append]
      rw [ih (by omega), tellAt_some (List.getElem?_eq_getElem (by omega : j < ms.length))]
      by_cases e : j = i
      · subst e
        simp
      · have : ((j : Int) != (i : Int)) = true := by simp; omega
        simp only [this, if_true, List.length_singleton]
        by_cases h : i < j
        · rw [if_pos h, if_pos (by omega)]; omega
        · rw [if_neg h, if_neg (by omega)]
  unfold withoutM
  rw [key _ (Nat.le_refl _), if_pos hi]
end Go.Lin.Pg
