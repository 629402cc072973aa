/- Plain: the states that are reached, and the first shortest word to each, in the order of these words. -/
import Derived.Test.YtnebpcpihldllaaBfs
namespace Go.Lin

/-- The machine that answers nothing, and the machine of one state. -/
def mute (M : Mach) : Mach := { M with sy := fun _ _ => 0 }
def oneM (M : Mach) : Mach := { n := 1, k := M.k, nx := fun _ _ => 0, sy := fun _ _ => 0 }

theorem mute_st (M : Mach) (s : Nat) (ws : List Nat) : stM (mute M) s ws = stM M s ws := rfl

theorem one_st (M : Mach) (ws : List Nat) : stM (oneM M) 0 ws = 0 := by
  induction ws with
  | nil => rfl
  | cons o ws ih => exact ih

/-- w is the first shortest word that leads to a state. -/
structure IsWay (M : Mach) (to : Nat) (w : List Nat) : Prop where
  ok : OkW M.k w
  leads : stM M 0 w = to
  least : ∀ v, OkW M.k v → stM M 0 v = to → sle w v

theorem IsWay.unique {M : Mach} {to : Nat} {u v : List Nat} (h : IsWay M to u) (k : IsWay M to v) : u = v := sle_antisymm (h.least v k.ok k.leads) (k.least u h.ok h.leads)

abbrev WInv (M : Mach) (all : List E) (H : E → Nat → Prop) : Prop := BInv (mute M) (oneM M) 0 0 all H

theorem WInv.one {M : Mach} {all : List E} {H : E → Nat → Prop} (hi : WInv M all H) {e : E} (he : e ∈ all) : e.2.1 = 0 := by
  have := (hi.path e he).2.1
  rw [this, one_st]

section
variable {M : Mach} {done tail : List E} {h : E} {op : Nat}

theorem WInv.cover (hi : WInv M (done ++ h :: tail) (Tried done h op)) {v : List Nat} (hv : OkW M.k v) : sle (h.2.2 ++ [op]) v ∨ ∃ f ∈ done ++ h :: tail, f.1 = stM M 0 v ∧ sle f.2.2 v := by
  have step : ∀ i, i ≤ v.length → sle (h.2.2 ++ [op]) v ∨ ∃ f ∈ done ++ h :: tail, f.1 = stM M 0 (v.take i) ∧ sle f.2.2 (v.take i) := by
    intro i
    induction i with
    | zero =>
      intro _
      obtain ⟨f, hf, h1, _, h3⟩ := hi.root
      exact .inr ⟨f, hf, by simpa [stM] using h1, by rw [h3]; simpa using sle_refl _⟩
    | succ i ih =>
      intro hlt
      rcases ih (by omega) with hgoal | ⟨f, hf, f1, f3⟩
      · exact .inl hgoal
      · have hc := hv.nth (show i < v.length by omega)
        have tk := take_succ_nthN (show i < v.length by omega)
        have hpre : sle (v.take i ++ [nthN v i]) v := by
          rw [← tk]
          conv => rhs; rw [← List.take_append_drop (i + 1) v]
          exact sle_prefix _ _
        have good : Tried done h op f (nthN v i) → sle (h.2.2 ++ [op]) v ∨ ∃ f ∈ done ++ h :: tail, f.1 = stM M 0 (v.take (i + 1)) ∧ sle f.2.2 (v.take (i + 1)) := by
          intro hT
          obtain ⟨_, g, hg, g2, _, g4⟩ := hi.closed f hf _ hc hT
          refine .inr ⟨g, hg, by rw [tk, stM_snoc, ← f1, g2]; rfl, ?_⟩
          rw [tk]
          exact sle_trans g4 (sle_snoc_le f3 (Nat.le_refl _))
        rcases List.mem_append.1 hf with hd | hd
        · exact good (.inl hd)
        · rcases List.mem_cons.1 hd with rfl | hd
          · rcases Nat.lt_or_ge (nthN v i) op with hlt' | hge
            · exact good (.inr ⟨rfl, hlt'⟩)
            · exact .inl (sle_trans (sle_snoc_le f3 hge) hpre)
          · obtain ⟨b1, b2⟩ := hi.back hd
            refine .inl (sle_trans (sle_snoc op _ (sle_trans b1 f3) ?_) hpre)
            intro e
            exact b2 (sle_antisymm b1 (by rw [e]; exact f3))
  rcases step v.length (Nat.le_refl _) with hgoal | ⟨f, hf, f1, f2⟩
  · exact .inl hgoal
  · rw [List.take_of_length_le (Nat.le_refl _)] at f1 f2
    exact .inr ⟨f, hf, f1, f2⟩

/-- Each entry is the first shortest word to its state. -/
theorem WInv.isWay (hi : WInv M (done ++ h :: tail) (Tried done h op)) {e : E} (he : e ∈ done ++ h :: tail) : IsWay M e.1 e.2.2 := by
  obtain ⟨p1, _, _, p4⟩ := hi.path e he
  refine ⟨p4, p1.symm, fun v hv hl => ?_⟩
  rcases hi.cover hv with hc | ⟨f, hf, f1, f2⟩
  · exact sle_trans (hi.before he) hc
  · by_cases hef : e = f
    · subst hef; exact f2
    · have hb1 := hi.one he
      have hb2 := hi.one hf
      have hsame : e.1 = f.1 ∧ e.2.1 = f.2.1 := ⟨by rw [f1, hl], by rw [hb1, hb2]⟩
      have hp := hi.apart
      obtain ⟨i, hi1, rfl⟩ := List.getElem_of_mem he
      obtain ⟨j, hj1, rfl⟩ := List.getElem_of_mem hf
      rcases Nat.lt_trichotomy i j with h1 | h1 | h1
      · exact absurd hsame (List.pairwise_iff_getElem.1 hp i j hi1 hj1 h1)
      · subst h1; exact f2
      · exact absurd ⟨hsame.1.symm, hsame.2.symm⟩ (List.pairwise_iff_getElem.1 hp j i hj1 hi1 h1)
end

/-- Nothing is left: all states that a word leads to are there. -/
theorem WInv.all {M : Mach} {done : List E} (hi : WInv M done (fun e _ => e ∈ done)) {v : List Nat} (hv : OkW M.k v) : ∃ f ∈ done, f.1 = stM M 0 v ∧ sle f.2.2 v := by
  have step : ∀ i, i ≤ v.length → ∃ f ∈ done, f.1 = stM M 0 (v.take i) ∧ sle f.2.2 (v.take i) := by
    intro i
    induction i with
    | zero =>
      intro _
      obtain ⟨f, hf, h1, _, h3⟩ := hi.root
      exact ⟨f, hf, by simpa [stM] using h1, by rw [h3]; simpa using sle_refl _⟩
    | succ i ih =>
      intro hlt
      obtain ⟨f, hf, f1, f3⟩ := ih (by omega)
      have tk := take_succ_nthN (show i < v.length by omega)
      obtain ⟨_, g, hg, g2, _, g4⟩ := hi.closed f hf _ (hv.nth (show i < v.length by omega)) hf
      refine ⟨g, hg, by rw [tk, stM_snoc, ← f1, g2]; rfl, ?_⟩
      rw [tk]
      exact sle_trans g4 (sle_snoc_le f3 (Nat.le_refl _))
  obtain ⟨f, hf, f1, f2⟩ := step v.length (Nat.le_refl _)
  rw [List.take_of_length_le (Nat.le_refl _)] at f1 f2
  exact ⟨f, hf, f1, f2⟩

theorem WInv.same {M : Mach} {all : List E} {H : E → Nat → Prop} (hi : WInv M all H) {e f : E} (he : e ∈ all) (hf : f ∈ all) (h : e.1 = f.1) : e = f := by
  have hsame : e.1 = f.1 ∧ e.2.1 = f.2.1 := ⟨h, by rw [hi.one he, hi.one hf]⟩
  have hp := hi.apart
  obtain ⟨i, hi1, rfl⟩ := List.getElem_of_mem he
  obtain ⟨j, hj1, rfl⟩ := List.getElem_of_mem hf
  rcases Nat.lt_trichotomy i j with h1 | h1 | h1
  · exact absurd hsame (List.pairwise_iff_getElem.1 hp i j hi1 hj1 h1)
  · subst h1; rfl
  · exact absurd ⟨hsame.1.symm, hsame.2.symm⟩ (List.pairwise_iff_getElem.1 hp j i hj1 hi1 h1)

theorem WInv.isWay_done {M : Mach} {done : List E} (hi : WInv M done (fun e _ => e ∈ done)) {e : E} (he : e ∈ done) : IsWay M e.1 e.2.2 := by
  obtain ⟨p1, _, _, p4⟩ := hi.path e he
  refine ⟨p4, p1.symm, fun v hv hl => ?_⟩
  obtain ⟨f, hf, f1, f2⟩ := hi.all hv
  have := hi.same he hf (by rw [f1, hl])
  subst this; exact f2

/-- The states of the entries are all different. -/
theorem WInv.nodup {M : Mach} {all : List E} {H : E → Nat → Prop} (hi : WInv M all H) : (all.map fun e => e.1).Nodup := by
  rw [List.nodup_iff_pairwise_ne, List.pairwise_map]
  have hp := hi.apart
  rw [List.pairwise_iff_getElem] at hp ⊢
  intro i j h1 h2 h3 he
  refine hp i j h1 h2 h3 ⟨he, ?_⟩
  rw [hi.one (List.getElem_mem h1), hi.one (List.getElem_mem h2)]

/-- There are at most as many entries as states. -/
theorem WInv.count {M : Mach} (hM : M.WF) {all : List E} {H : E → Nat → Prop} (hi : WInv M all H) : all.length ≤ M.n := by
  have := nodup_lt_length M.n _ hi.nodup (fun x hx => by
    obtain ⟨e, he, rfl⟩ := List.mem_map.1 hx
    obtain ⟨p1, _, _, p4⟩ := hi.path e he
    rw [p1]
    exact stM_lt (M := M) hM hM.n1 p4)
  simpa using this
end Go.Lin
