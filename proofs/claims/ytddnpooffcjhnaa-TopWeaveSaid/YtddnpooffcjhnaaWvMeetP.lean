/- Plain law: what two words have in common begins both, and any other word that begins both begins it; and the word that both begin begins any other one that both begin. -/
import Derived.Test.YtddnpooffcjhnaaWvSh
namespace Go.Lin.Wv

theorem clash_iff {D : Int → Int → Bool} {p q : List Int} : clash D p q = false ↔ ∀ a ∈ p, ∀ c ∈ q, D a c = false := by
  unfold clash
  rw [List.any_eq_false]
  constructor
  · intro h a ha c hc
    have := h a ha
    rw [List.any_eq_true] at this
    cases hd : D a c with
    | false => rfl
    | true => exact absurd ⟨c, hc, hd⟩ this
  · intro h a ha h2
    rw [List.any_eq_true] at h2
    obtain ⟨c, hc, hd⟩ := h2
    rw [h a ha c hc] at hd
    cases hd

section
variable {L : Lt} {N : Nat} (hN : L.n = N) (hv : valid L = true)

/-- The parts of two words. -/
structure Parts (L : Lt) (N : Nat) (x y b p q : List Int) : Prop where
  gx : GoodW N x
  gy : GoodW N y
  ax : Alike (dep L) x (b ++ p)
  ay : Alike (dep L) y (b ++ q)
  no : ∀ a, ¬ (Fr (dep L) p a ∧ Fr (dep L) q a)
  great : ∀ o, Pre (dep L) o x → Pre (dep L) o y → Pre (dep L) o b

theorem parts_of {x y : List Int} (gx : GoodW N x) (gy : GoodW N y) : Parts L N x y (common (dep L) N x y).1 (common (dep L) N x y).2.1 (common (dep L) N x y).2.2 := by
  obtain ⟨h1, h2⟩ := common_alike L N x y
  exact ⟨gx, gy, h1, h2, meet_none (dep_refl L) N _ x y (Nat.le_refl _) gx.ok, fun o h3 h4 => meet_great (dep_refl L) (dep_comm L) N _ x y o (Nat.le_refl _) gx.ok h3 h4⟩

variable {x y b p q : List Int}

theorem Parts.gb (h : Parts L N x y b p q) : GoodW N b := (good_of_alike h.gx h.ax).1
theorem Parts.lens (h : Parts L N x y b p q) : b.length + p.length = x.length ∧ b.length + q.length = y.length := by
  have h1 := h.ax.length (dep_refl L)
  have h2 := h.ay.length (dep_refl L)
  rw [List.length_append] at h1 h2
  omega

theorem Parts.swap {b' p' q' : List Int} (h : Parts L N x y b p q) (h' : Parts L N y x b' q' p') : Alike (dep L) b b' ∧ Alike (dep L) p p' ∧ Alike (dep L) q q' := by
  have e : Alike (dep L) b b' := Pre.antisymm (dep_refl L) (h'.great b ⟨q, h.ay⟩ ⟨p, h.ax⟩) (h.great b' ⟨p', h'.ay⟩ ⟨q', h'.ax⟩)
  refine ⟨e, ?_, ?_⟩
  · exact Alike.cancel ((h.ax.symm.trans h'.ay).trans (e.symm.append (Alike.refl p')))
  · exact Alike.cancel ((h.ay.symm.trans h'.ax).trans (e.symm.append (Alike.refl q')))

theorem clash_alike {p p' q q' : List Int} (hp : Alike (dep L) p p') (hq : Alike (dep L) q q') : clash (dep L) p q = clash (dep L) q' p' := by
  rw [Bool.eq_iff_iff, ← Bool.not_eq_false, ← Bool.not_eq_false, clash_iff, clash_iff]
  refine not_congr ⟨fun h a ha c hc => ?_, fun h a ha c hc => ?_⟩
  · rw [dep_comm]; exact h c ((hp.perm (dep_refl L)).mem_iff.2 hc) a ((hq.perm (dep_refl L)).mem_iff.2 ha)
  · rw [dep_comm]; exact h c ((hq.perm (dep_refl L)).mem_iff.1 hc) a ((hp.perm (dep_refl L)).mem_iff.1 ha)

/-- The word that both begin. -/
theorem Parts.join (h : Parts L N x y b p q) (hc : clash (dep L) p q = false) : Pre (dep L) x (b ++ p ++ q) ∧ Pre (dep L) y (b ++ p ++ q) := by
  refine ⟨⟨q, (h.ax.symm.append (Alike.refl q))⟩, ⟨p, ?_⟩⟩
  have hpq := pass_word (dep_refl L) (dep_comm L) (clash_iff.1 hc)
  have h1 : Alike (dep L) (b ++ (p ++ q)) (b ++ (q ++ p)) := (Alike.refl b).append hpq
  rw [← List.append_assoc, ← List.append_assoc] at h1
  exact h1.trans (h.ay.symm.append (Alike.refl p))

/-- Whatever both begin begins with it. -/
theorem Parts.least (h : Parts L N x y b p q) {o : List Int} (h1 : Pre (dep L) x o) (h2 : Pre (dep L) y o) : clash (dep L) p q = false ∧ Pre (dep L) (b ++ p ++ q) o := by
  obtain ⟨s, hs⟩ := h1
  obtain ⟨t, ht⟩ := h2
  have e1 := hs.trans (h.ax.append (Alike.refl s))
  have e2 := ht.trans (h.ay.append (Alike.refl t))
  have e3 := e1.symm.trans e2
  rw [List.append_assoc, List.append_assoc] at e3
  obtain ⟨h3, z, hz⟩ := apart_both (dep_refl L) (dep_comm L) p q s t h.no (Alike.cancel e3)
  refine ⟨clash_iff.2 h3, z, e2.trans ?_⟩
  have hpq := pass_word (dep_refl L) (dep_comm L) h3
  have e4 : Alike (dep L) (b ++ q ++ t) (b ++ q ++ (p ++ z)) := (Alike.refl (b ++ q)).append hz
  refine e4.trans ?_
  have e5 : Alike (dep L) (b ++ ((q ++ p) ++ z)) (b ++ ((p ++ q) ++ z)) := (Alike.refl b).append (hpq.symm.append (Alike.refl z))
  simpa [List.append_assoc] using e5

include hN hv

theorem commonM_good (gx : GoodW N x) (gy : GoodW N y) : commonM L x y = (first (dep L) N (common (dep L) N x y).1, 0) := by
  unfold commonM
  rw [if_pos (good_wrong hv hN (by simp; exact ⟨gx, gy⟩)), hN, Int.toNat_natCast]

theorem bothM_good (gx : GoodW N x) (gy : GoodW N y) : bothM L x y = if clash (dep L) (common (dep L) N x y).2.1 (common (dep L) N x y).2.2 then ([], 5) else if ((common (dep L) N x y).1 ++ (common (dep L) N x y).2.1 ++ (common (dep L) N x y).2.2).length ≤ 10 then (first (dep L) N ((common (dep L) N x y).1 ++ (common (dep L) N x y).2.1 ++ (common (dep L) N x y).2.2), 0) else ([], 4) := by
  unfold bothM
  rw [if_pos (good_wrong hv hN (by simp; exact ⟨gx, gy⟩)), hN, Int.toNat_natCast]
  rfl

theorem begins_pre {u w : List Int} (gu : GoodW N u) (gw : GoodW N w) : beginsM L u w = ((rest (dep L) u w).isSome, 0) ∧ ((rest (dep L) u w).isSome = true ↔ Pre (dep L) u w) :=
  ⟨beginsM_good hN hv gu gw, (pre_iff (dep_refl L) (dep_comm L)).symm⟩

/-- All that the law says of two words and another one, told in one go. -/
theorem meets_all {o : List Int} (gx : GoodW N x) (gy : GoodW N y) (go : GoodW N o) : ∃ (c : List Int) (B : List Int × Int), GoodW N c ∧ commonM L x y = (c, 0) ∧ commonM L y x = (c, 0) ∧ Pre (dep L) c x ∧ Pre (dep L) c y ∧ (Pre (dep L) o x → Pre (dep L) o y → Pre (dep L) o c) ∧ bothM L x y = B ∧ bothM L y x = B ∧
    ((B.2 = 5 ∧ B.1 = [] ∧ ¬ (Pre (dep L) x o ∧ Pre (dep L) y o)) ∨ (B.2 = 4 ∧ B.1 = [] ∧ c.length + 10 < x.length + y.length ∧ ¬ (Pre (dep L) x o ∧ Pre (dep L) y o)) ∨
      (B.2 = 0 ∧ GoodW N B.1 ∧ c.length + B.1.length = x.length + y.length ∧ Pre (dep L) x B.1 ∧ Pre (dep L) y B.1 ∧ (Pre (dep L) x o → Pre (dep L) y o → Pre (dep L) B.1 o))) := by
  have P := parts_of (L := L) gx gy
  have P' := parts_of (L := L) gy gx
  have e1 := commonM_good hN hv gx gy
  have e2 := commonM_good hN hv gy gx
  have e3 := bothM_good hN hv gx gy
  have e4 := bothM_good hN hv gy gx
  obtain ⟨⟨b, p, q⟩, hC⟩ : ∃ C, common (dep L) N x y = C := ⟨_, rfl⟩
  obtain ⟨⟨b', q', p'⟩, hC'⟩ : ∃ C, common (dep L) N y x = C := ⟨_, rfl⟩
  rw [hC] at P e1 e3
  rw [hC'] at P' e2 e4
  simp only at P P' e1 e2 e3 e4
  obtain ⟨sb, sp, sq⟩ := P.swap P'
  have gb := P.gb
  have afb := alike_first (dep_comm L) gb.ok
  have hl := P.lens
  have hlb := sb.length (dep_refl L); have hlp := sp.length (dep_refl L); have hlq := sq.length (dep_refl L)
  have hfb : first (dep L) N b = first (dep L) N b' := first_alike (dep_refl L) (dep_comm L) N sb
  have hcl := clash_alike sp sq
  have okj : ∀ z ∈ b ++ p ++ q, 0 ≤ z ∧ z < (N : Int) := by
    have gp := (good_of_alike gx P.ax).2
    have gq := (good_of_alike gy P.ay).2
    intro z hz
    rcases List.mem_append.1 hz with hz | hz
    · exact (List.mem_append.1 hz).elim (gb.ok z) (gp.ok z)
    · exact gq.ok z hz
  have hlen3 : (b ++ p ++ q).length = b.length + p.length + q.length := by rw [List.length_append, List.length_append]
  refine ⟨first (dep L) N b, bothM L x y, gb.first, e1, by rw [e2, hfb], Pre.alike_left ⟨p, P.ax⟩ afb, Pre.alike_left ⟨q, P.ay⟩ afb, fun h1 h2 => (P.great o h1 h2).of_alike afb, rfl, ?_, ?_⟩
  · rw [e3, e4, hcl]
    cases hc : clash (dep L) q' p' with
    | true => rfl
    | false =>
      have hpq := pass_word (dep_refl L) (dep_comm L) (clash_iff.1 hc)
      have ha : Alike (dep L) (b ++ p ++ q) (b' ++ q' ++ p') := by
        have h1 : Alike (dep L) (b ++ (p ++ q)) (b' ++ (p' ++ q')) := sb.append (sp.append sq)
        have h2 : Alike (dep L) (b' ++ (p' ++ q')) (b' ++ (q' ++ p')) := (Alike.refl b').append hpq.symm
        have := h1.trans h2
        rwa [← List.append_assoc, ← List.append_assoc] at this
      rw [← ha.length (dep_refl L), first_alike (dep_refl L) (dep_comm L) N ha]
  · rw [first_len gb.ok, e3]
    cases hc : clash (dep L) p q with
    | true => exact .inl ⟨rfl, rfl, fun ⟨h1, h2⟩ => by have := (P.least h1 h2).1; rw [hc] at this; cases this⟩
    | false =>
      simp only [Bool.false_eq_true, if_false]
      by_cases h10 : (b ++ p ++ q).length ≤ 10
      · rw [if_pos h10]
        have aj := alike_first (dep_comm L) okj
        obtain ⟨j1, j2⟩ := P.join hc
        refine .inr (.inr ⟨rfl, GoodW.first ⟨h10, okj⟩, ?_, j1.of_alike aj, j2.of_alike aj, fun h1 h2 => (P.least h1 h2).2.alike_left aj⟩)
        rw [first_len okj]
        omega
      · rw [if_neg h10]
        refine .inr (.inl ⟨rfl, rfl, by omega, fun ⟨h1, h2⟩ => ?_⟩)
        obtain ⟨s, hs⟩ := (P.least h1 h2).2
        have := hs.length (dep_refl L)
        rw [List.length_append] at this
        have := go.len
        omega

end
end Go.Lin.Wv
