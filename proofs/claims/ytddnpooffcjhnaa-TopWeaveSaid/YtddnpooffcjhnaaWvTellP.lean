/- Plain law: words are equal in class exactly if their projections to all letters that depend on each other are; the letters are told one after the other. -/
import Derived.Test.YtddnpooffcjhnaaWvProjR
namespace Go.Lin.Wv
theorem kept_pr (a b : Int) (x : List Int) : kept (qP a b) x = pr a b x := by
  unfold kept pr
  refine List.filter_congr fun z _ => ?_
  unfold qP
  cases h1 : z == a <;> cases h2 : z == b <;> simp [bne, h1, h2]

theorem pr_swap (a b : Int) (x : List Int) : pr a b x = pr b a x := by
  unfold pr
  exact List.filter_congr fun z _ => Bool.or_comm _ _

theorem pr_out {a b : Int} {x : List Int} (h : a ∉ x) : pr a b x = pr b b x := by
  unfold pr
  refine List.filter_congr fun z hz => ?_
  have : (z == a) = false := by simp only [beq_eq_false_iff_ne, ne_eq]; rintro rfl; exact h hz
  rw [this, Bool.false_or, Bool.or_self]

theorem pr_out2 {b : Int} {x : List Int} (h : b ∉ x) : pr b b x = [] := by
  unfold pr
  rw [List.filter_eq_nil_iff]
  intro z hz
  have : (z == b) = false := by simp only [beq_eq_false_iff_ne, ne_eq]; rintro rfl; exact h hz
  rw [this]; simp

theorem alike_in {L : Lt} {N : Nat} {x y : List Int} (hx : ∀ z ∈ x, 0 ≤ z ∧ z < (N : Int)) (hy : ∀ z ∈ y, 0 ≤ z ∧ z < (N : Int)) :
    Alike (dep L) x y ↔ ∀ a b : Nat, a < N → b ≤ a → dep L a b = true → pr a b x = pr a b y := by
  refine ⟨fun h a b _ _ hd => h a b hd, fun h a b hd => ?_⟩
  have hone : ∀ c : Int, pr c c x = pr c c y := fun c => by
    by_cases hc : 0 ≤ c ∧ c < (N : Int)
    · obtain ⟨c', rfl⟩ : ∃ c' : Nat, c = c' := ⟨c.toNat, by omega⟩
      exact h c' c' (by omega) (Nat.le_refl _) (dep_refl L _)
    · rw [pr_out2 (fun hm => hc (hx c hm)), pr_out2 (fun hm => hc (hy c hm))]
  by_cases ha : 0 ≤ a ∧ a < (N : Int)
  · by_cases hb : 0 ≤ b ∧ b < (N : Int)
    · obtain ⟨a', rfl⟩ : ∃ a' : Nat, a = a' := ⟨a.toNat, by omega⟩
      obtain ⟨b', rfl⟩ : ∃ b' : Nat, b = b' := ⟨b.toNat, by omega⟩
      by_cases hle : b' ≤ a'
      · exact h a' b' (by omega) hle hd
      · rw [pr_swap a' b' x, pr_swap a' b' y]
        exact h b' a' (by omega) (by omega) (by rw [dep_comm]; exact hd)
    · rw [pr_swap a b x, pr_swap a b y, pr_out (fun hm => hb (hx b hm)), pr_out (fun hm => hb (hy b hm))]
      exact hone a
  · rw [pr_out (fun hm => ha (hx a hm)), pr_out (fun hm => ha (hy a hm))]
    exact hone b

/-- What is told of the letters in front of a, and of a with those in front of b. -/
def ToldTo (L : Lt) (x y : List Int) (a b : Nat) (t : Bool) : Prop :=
  t = true ↔ ∀ a' b' : Nat, (a' < a ∨ a' = a ∧ b' < b) → b' ≤ a' → dep L a' b' = true → pr a' b' x = pr a' b' y

theorem ToldTo.zero (L : Lt) (x y : List Int) : ToldTo L x y 0 0 true := ⟨fun _ a' b' h => by omega, fun _ => rfl⟩
theorem ToldTo.row {L : Lt} {x y : List Int} {a : Nat} {t : Bool} (h : ToldTo L x y a (a + 1) t) : ToldTo L x y (a + 1) 0 t :=
  h.trans ⟨fun h1 a' b' h2 h3 => h1 a' b' (by omega) h3, fun h1 a' b' h2 h3 => h1 a' b' (by omega) h3⟩
theorem ToldTo.step {L : Lt} {x y : List Int} {a b : Nat} {t : Bool} (h : ToldTo L x y a b t) (hb : b ≤ a) : ToldTo L x y a (b + 1) (t && (!dep L a b || (pr a b x == pr a b y))) := by
  unfold ToldTo at h ⊢
  rw [Bool.and_eq_true, h, Bool.or_eq_true, Bool.not_eq_true', beq_iff_eq]
  constructor
  · rintro ⟨h1, h2⟩ a' b' h3 h4 hd
    by_cases he : a' = a ∧ b' = b
    · obtain ⟨rfl, rfl⟩ := he
      rcases h2 with h2 | h2
      · rw [hd] at h2; cases h2
      · exact h2
    · exact h1 a' b' (by omega) h4 hd
  · intro h1
    refine ⟨fun a' b' h2 h3 => h1 a' b' (by omega) h3, ?_⟩
    cases hd : dep L a b
    · exact .inl rfl
    · exact .inr (h1 a b (by omega) hb hd)
theorem ToldTo.all {L : Lt} {x y : List Int} {N : Nat} {t : Bool} (h : ToldTo L x y N 0 t) (hx : ∀ z ∈ x, 0 ≤ z ∧ z < (N : Int)) (hy : ∀ z ∈ y, 0 ≤ z ∧ z < (N : Int)) : t = true ↔ Alike (dep L) x y :=
  h.trans (Iff.trans ⟨fun h1 a b ha hb => h1 a b (by omega) hb, fun h1 a b ha hb => h1 a b (by omega) hb⟩ (alike_in hx hy).symm)
end Go.Lin.Wv
