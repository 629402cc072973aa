/- Plain: the first word that tells two states of a machine apart has fewer calls than the machine has states. -/
import Derived.Test.YtnebpcpihldllaaWSame
namespace Go.Lin

/-- No word of at most j calls tells a and b apart. -/
def Upto (M : Mach) (j a b : Nat) : Prop := ∀ v, OkW M.k v → v.length ≤ j → anM M a v = anM M b v

theorem IsFirst.short {M K : Mach} {a b : Nat} {ws v : List Nat} (h : IsFirst M K a b ws) (hv : OkW M.k v) (hl : v.length < ws.length) : anM M a v = anM K b v := by
  by_cases ht : anM M a v = anM K b v
  · exact ht
  · rcases h.least v hv ht with h1 | ⟨h1, _⟩ <;> omega

theorem moore_lists {M : Mach} (hM : M.WF) {a b : Nat} {ws : List Nat} (ha : a < M.n) (hb : b < M.n) (h : IsFirst M M a b ws) :
    ∀ j, j ≤ ws.length → ∃ l : List Nat, l.length = j + 1 ∧ (∀ x ∈ l, x < M.n) ∧ l.Pairwise (fun x y => ¬ Upto M j x y) := by
  intro j
  induction j with
  | zero => intro _; exact ⟨[a], rfl, fun x hx => by simp at hx; subst hx; exact ha, by simp⟩
  | succ j ih =>
    intro hj
    obtain ⟨l, hl, hlt, hp⟩ := ih (by omega)
    have hokp : OkW M.k (ws.take (ws.length - 1 - j)) := h.ok.take _
    obtain ⟨p, hpe⟩ : ∃ p, stM M a (ws.take (ws.length - 1 - j)) = p := ⟨_, rfl⟩
    obtain ⟨q, hqe⟩ : ∃ q, stM M b (ws.take (ws.length - 1 - j)) = q := ⟨_, rfl⟩
    have hplt : p < M.n := by rw [← hpe]; exact stM_lt hM ha hokp
    have hqlt : q < M.n := by rw [← hqe]; exact stM_lt hM hb hokp
    have hlen : (ws.take (ws.length - 1 - j)).length = ws.length - 1 - j := by rw [List.length_take]; omega
    have hsame : anM M a (ws.take (ws.length - 1 - j)) = anM M b (ws.take (ws.length - 1 - j)) := h.short hokp (by rw [hlen]; omega)
    have hpq : Upto M j p q := by
      intro v hv hvl
      have h1 : anM M a (ws.take (ws.length - 1 - j) ++ v) = anM M b (ws.take (ws.length - 1 - j) ++ v) := by
        refine h.short (fun x hx => ?_) (by rw [List.length_append, hlen]; omega)
        rcases List.mem_append.1 hx with hx | hx
        · exact hokp x hx
        · exact hv x hx
      rw [anM_append, anM_append, hsame, hpe, hqe] at h1
      exact List.append_cancel_left h1
    have hnot : ¬ Upto M (j + 1) p q := by
      intro hu
      refine h.tells ?_
      have hd : anM M p (ws.drop (ws.length - 1 - j)) = anM M q (ws.drop (ws.length - 1 - j)) := by
        refine hu _ (fun x hx => h.ok x (List.mem_of_mem_drop hx)) ?_
        rw [List.length_drop]; omega
      rw [← List.take_append_drop (ws.length - 1 - j) ws, anM_append, anM_append, hsame, hpe, hqe, hd]
    have hmono : ∀ x y, Upto M (j + 1) x y → Upto M j x y := fun x y hu v hv hvl => hu v hv (by omega)
    have hsymm : ∀ i x y, Upto M i x y → Upto M i y x := fun i x y hu v hv hvl => (hu v hv hvl).symm
    have htrans : ∀ i x y z, Upto M i x y → Upto M i y z → Upto M i x z := fun i x y z h1 h2 v hv hvl => (h1 v hv hvl).trans (h2 v hv hvl)
    have hnew : ∃ y, y < M.n ∧ ∀ z ∈ l, ¬ Upto M (j + 1) y z := by
      by_cases hx : ∃ x ∈ l, Upto M (j + 1) p x
      · obtain ⟨x, hxl, hxu⟩ := hx
        refine ⟨q, hqlt, fun z hz hu => ?_⟩
        have hxz : Upto M j x z := htrans j x q z (htrans j x p q (hsymm j p x (hmono _ _ hxu)) hpq) (hmono _ _ hu)
        have heq : x = z := by
          by_cases he : x = z
          · exact he
          · obtain ⟨i1, hi1, rfl⟩ := List.getElem_of_mem hxl
            obtain ⟨i2, hi2, rfl⟩ := List.getElem_of_mem hz
            rcases Nat.lt_trichotomy i1 i2 with h1 | h1 | h1
            · exact absurd hxz (List.pairwise_iff_getElem.1 hp i1 i2 hi1 hi2 h1)
            · subst h1; rfl
            · exact absurd (hsymm j _ _ hxz) (List.pairwise_iff_getElem.1 hp i2 i1 hi2 hi1 h1)
        subst heq
        exact hnot (htrans _ p x q hxu (hsymm _ q x hu))
      · exact ⟨p, hplt, fun z hz hu => hx ⟨z, hz, hu⟩⟩
    obtain ⟨y, hy, hyl⟩ := hnew
    refine ⟨y :: l, by simp [hl], fun x hx => ?_, ?_⟩
    · rcases List.mem_cons.1 hx with rfl | hx
      · exact hy
      · exact hlt x hx
    · rw [List.pairwise_cons]
      exact ⟨hyl, hp.imp (fun h1 h2 => h1 (hmono _ _ h2))⟩

theorem moore {M : Mach} (hM : M.WF) {a b : Nat} {ws : List Nat} (ha : a < M.n) (hb : b < M.n) (h : IsFirst M M a b ws) : ws.length + 1 ≤ M.n := by
  obtain ⟨l, hl, hlt, hp⟩ := moore_lists hM ha hb h ws.length (Nat.le_refl _)
  have hnd : l.Nodup := by
    rw [List.nodup_iff_pairwise_ne]
    refine hp.imp (fun {x y} h1 he => h1 ?_)
    subst he
    exact fun v _ _ => rfl
  have := nodup_lt_length M.n l hnd hlt
  omega

/-- Two states that are the same answer a call alike and lead to states that are the same. -/
theorem NoTells.next {M : Mach} {a b o : Nat} (h : NoTells M M a b) (ho : o < M.k) : M.sy a o = M.sy b o ∧ NoTells M M (M.nx a o) (M.nx b o) := by
  have h1 : ∀ v, OkW M.k v → OkW M.k (o :: v) := fun v hv x hx => by
    rcases List.mem_cons.1 hx with rfl | hx
    · exact ho
    · exact hv x hx
  constructor
  · have := h [o] (h1 [] (fun x hx => by simp at hx))
    simpa [anM] using this
  · intro v hv
    have := h (o :: v) (h1 v hv)
    simp only [anM, List.cons.injEq] at this
    exact this.2

/-- What the law SpecTold needs to know of the classes. -/
theorem Sames.facts {M : Mach} {sB : Nat → Nat → Bool} {cl : Nat → Nat} (h : Sames M sB cl) (a b : Nat) : (cl a == cl b) = sB a b ∧ cl (cl a) = cl a := by
  have same_of : ∀ x y, sB x y = true → cl x = cl y := by
    intro x y hxy
    have hxy' := (h.same x y).1 hxy
    have tr : ∀ z, sB x z = sB y z := by
      intro z
      rw [Bool.eq_iff_iff, h.same, h.same]
      constructor
      · intro hz v hv; exact (hxy' v hv).symm.trans (hz v hv)
      · intro hz v hv; exact (hxy' v hv).trans (hz v hv)
    rcases Nat.lt_trichotomy (cl x) (cl y) with h1 | h1 | h1
    · have := h.least y (cl x) h1
      rw [← tr, h.cls] at this; cases this
    · exact h1
    · have := h.least x (cl y) h1
      rw [tr, h.cls] at this; cases this
  constructor
  · cases hs : sB a b with
    | true => simp [same_of a b hs]
    | false =>
      by_cases he : cl a = cl b
      · have h1 := (h.same _ _).1 (h.cls a)
        have h2 := (h.same _ _).1 (h.cls b)
        rw [← he] at h2
        have : sB a b = true := (h.same _ _).2 (fun v hv => (h1 v hv).trans (h2 v hv).symm)
        rw [hs] at this; cases this
      · simpa using he
  · exact (same_of a (cl a) (h.cls a)).symm
end Go.Lin
