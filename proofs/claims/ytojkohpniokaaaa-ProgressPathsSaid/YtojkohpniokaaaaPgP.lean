/- Plain laws: a claim holds exactly if there is no lasso; the reference's reach. No program in sight. -/
import Derived.Test.YtojkohpniokaaaaPgR
namespace Go.Lin.Pg

/-- What asked answers. -/
def askM (g : Gr) (c t : Int) : Int := if valid g then if clOk c t then 0 else 2 else 70

/-- Whether a place is reached. -/
def reachB (ms : List Mv) (p : Int) : Bool := decide (p ∈ (legsM ms (fun _ => true) 0).map (·.1))

theorem reachB_iff {ms : List Mv} {N : Nat} (h1 : 1 ≤ N) (h8 : N ≤ 8) (hN : InN N ms) {p : Int} : reachB ms p = true ↔ ∃ u, goG ms (fun _ => true) 0 u = some p := by
  have hi := legs_inv (ms := ms) (may := fun _ => true) (a := 0) h8 (fun v q h => goG_in hN v ⟨by omega, by omega⟩ h)
  unfold reachB
  rw [decide_eq_true_eq, List.mem_map]
  constructor
  · rintro ⟨e, he, rfl⟩
    exact ⟨e.2, hi.path e he⟩
  · rintro ⟨u, hu⟩
    obtain ⟨e, he, h3, _⟩ := hi.all u p hu
    exact ⟨e, he, h3⟩

/-- No move that p and q let, from x, leads back. -/
def CleanAt (ms : List Mv) (p q : Mv → Bool) (x : Int) (n : Nat) : Prop := ∀ (i : Nat) (m : Mv), i < n → ms[i]? = some m → fr m = x → p m = true → q m = true → ∀ v, goG ms p (tg m) v ≠ some (fr m)

/-- A path and a circle that refute. -/
structure IsLasso (ms : List Mv) (p q : Mv → Bool) (path circ : List Nat) : Prop where
  leads : ∃ at_, goG ms (fun _ => true) 0 path = some at_ ∧ goG ms p at_ circ = some at_
  some : ∃ i ∈ circ, ∃ m, ms[i]? = some m ∧ q m = true

theorem lasso_of {ms : List Mv} {p q : Mv → Bool} {path v : List Nat} {x : Int} {i : Nat} {m : Mv} (h1 : goG ms (fun _ => true) 0 path = some x) (hm : ms[i]? = some m) (hf : fr m = x) (hp : p m = true) (hq : q m = true) (hv : goG ms p (tg m) v = some (fr m)) : IsLasso ms p q path (i :: v) := by
  refine ⟨⟨x, h1, ?_⟩, i, by simp, m, hm, hq⟩
  simp only [goG, hm]
  rw [if_pos ⟨hf, hp⟩, hv, hf]

/-- Whatever lets more lets the path. -/
theorem goG_mono {ms : List Mv} {p p' : Mv → Bool} (hp : ∀ m ∈ ms, p m = true → p' m = true) : ∀ (l : List Nat) {a b : Int}, goG ms p a l = some b → goG ms p' a l = some b
  | [], _, _, h => h
  | i :: l, a, b, h => by
    simp only [goG] at h ⊢
    cases hm : ms[i]? with
    | none => rw [hm] at h; cases h
    | some m =>
      rw [hm] at h
      simp only at h ⊢
      split at h
      · rename_i hc
        rw [if_pos ⟨hc.1, hp m (List.mem_of_getElem? hm) hc.2⟩]
        exact goG_mono hp l h
      · cases h

theorem goG_weak {ms : List Mv} {p : Mv → Bool} (l : List Nat) {a b : Int} (h : goG ms p a l = some b) : goG ms (fun _ => true) a l = some b := goG_mono (fun _ _ _ => rfl) l h

theorem no_lasso_clean {ms : List Mv} {p q : Mv → Bool} (h : ∀ x, (∃ u, goG ms (fun _ => true) 0 u = some x) → CleanAt ms p q x ms.length) (path circ : List Nat) : ¬ IsLasso ms p q path circ := by
  rintro ⟨⟨x, h1, h2⟩, i, hi, m, hm, hq⟩
  obtain ⟨u, v, rfl⟩ := List.append_of_mem hi
  rw [goG_append] at h2
  cases hu : goG ms p x u with
  | none => rw [hu] at h2; cases h2
  | some y =>
    rw [hu] at h2
    simp only [Option.bind_some, goG, hm] at h2
    split at h2
    · rename_i hc
      refine h y ⟨path ++ u, by rw [goG_append, h1]; exact goG_weak u hu⟩ i m (List.getElem?_eq_some_iff.1 hm).1 hm hc.1 hc.2 hq (v ++ u) ?_
      rw [goG_append, h2]
      simp only [Option.bind_some]
      rw [hu, hc.1]
    · cases h2

/-- The moves of a claim's circles, from places that are reached. -/
def acM (ms : List Mv) (c t : Int) (m : Mv) : Bool := wi c t m && reachB ms (fr m)

/-- Whether a claim holds. -/
def holdsB (ms : List Mv) (N : Nat) (c t : Int) : Bool := !(raise (acM ms c t) (wt c t) ms (rounds (acM ms c t) (wt c t) ms N (N - 1))).2
/-- The least ranks. -/
def ranksM (ms : List Mv) (N : Nat) (c t : Int) : List Int := rounds (acM ms c t) (wt c t) ms N (N - 1)

theorem goG_ac {ms : List Mv} {N : Nat} (h1 : 1 ≤ N) (h8 : N ≤ 8) (hN : InN N ms) {c t : Int} : ∀ (l : List Nat) {a b : Int}, reachB ms a = true → goG ms (wi c t) a l = some b → goG ms (acM ms c t) a l = some b
  | [], _, _, _, h => h
  | i :: l, a, b, ha, h => by
    simp only [goG] at h ⊢
    cases hm : ms[i]? with
    | none => rw [hm] at h; cases h
    | some m =>
      rw [hm] at h
      simp only at h ⊢
      split at h
      · rename_i hc
        rw [if_pos ⟨hc.1, by unfold acM; rw [hc.2, hc.1, ha]; rfl⟩]
        refine goG_ac h1 h8 hN l ?_ h
        obtain ⟨u, hu⟩ := (reachB_iff h1 h8 hN).1 ha
        exact (reachB_iff h1 h8 hN).2 ⟨u ++ [i], goG_snoc hu hm hc.1 rfl⟩
      · cases h

theorem wsum_pos {ms : List Mv} {c t : Int} {l : List Nat} : 0 < wsum ms (wt c t) l ↔ ∃ i ∈ l, ∃ m, ms[i]? = some m ∧ mu c t m = true := by
  induction l with
  | nil => simp [wsum]
  | cons i l ih =>
    simp only [wsum, List.mem_cons]
    constructor
    · intro h
      by_cases h2 : 0 < wsum ms (wt c t) l
      · obtain ⟨j, hj, m, hm, hq⟩ := ih.1 h2
        exact ⟨j, .inr hj, m, hm, hq⟩
      · cases hm : ms[i]? with
        | none => rw [hm] at h; simp at h; omega
        | some m =>
          rw [hm] at h
          simp only at h
          by_cases hq : mu c t m = true
          · exact ⟨i, .inl rfl, m, hm, hq⟩
          · have h3 : wt c t m = 0 := by unfold wt; rw [if_neg hq]
            omega
    · rintro ⟨j, hj | hj, m, hm, hq⟩
      · subst hj
        rw [hm]
        simp only [wt, hq, if_true]
        omega
      · have := ih.2 ⟨j, hj, m, hm, hq⟩
        omega

theorem noLasso_iff {ms : List Mv} {N : Nat} (h1 : 1 ≤ N) (h8 : N ≤ 8) (hN : InN N ms) {c t : Int} : NoLasso (acM ms c t) (wt c t) ms ↔ ∀ path circ, ¬ IsLasso ms (wi c t) (mu c t) path circ := by
  constructor
  · rintro h path circ ⟨⟨x, h2, h3⟩, i, hi, m, hm, hq⟩
    have hr : reachB ms x = true := (reachB_iff h1 h8 hN).2 ⟨path, h2⟩
    have h4 := h x circ (goG_ac h1 h8 hN circ hr h3)
    have h5 := wsum_pos.2 ⟨i, hi, m, hm, hq⟩
    omega
  · intro h p l hl
    rcases Nat.eq_zero_or_pos (wsum ms (wt c t) l) with h0 | h0
    · exact h0
    · exfalso
      obtain ⟨i, hi, m, hm, hq⟩ := wsum_pos.1 h0
      have hr : reachB ms p = true := by
        rcases l with _ | ⟨j, l⟩
        · cases hi
        · simp only [goG] at hl
          cases hj : ms[j]? with
          | none => rw [hj] at hl; cases hl
          | some m' =>
            rw [hj] at hl
            simp only at hl
            split at hl
            · rename_i hc
              have h2 := hc.2
              unfold acM at h2
              rw [Bool.and_eq_true, hc.1] at h2
              exact h2.2
            · cases hl
      obtain ⟨u, hu⟩ := (reachB_iff h1 h8 hN).1 hr
      exact h u l ⟨⟨p, hu, goG_mono (fun m _ hm => by unfold acM at hm; rw [Bool.and_eq_true] at hm; exact hm.1) l hl⟩, i, hi, m, hm, hq⟩

theorem holdsB_iff {ms : List Mv} {N : Nat} (h1 : 1 ≤ N) (hN : InN N ms) {c t : Int} : holdsB ms N c t = true ↔ NoLasso (acM ms c t) (wt c t) ms := by
  unfold holdsB
  constructor
  · intro h
    rw [Bool.not_eq_true'] at h
    exact no_lasso_of_stays (raise_same h).2
  · intro h
    rw [stays hN h h1]; rfl

theorem holds_lasso {ms : List Mv} {N : Nat} (h1 : 1 ≤ N) (h8 : N ≤ 8) (hN : InN N ms) {c t : Int} : holdsB ms N c t = true ↔ ∀ path circ, ¬ IsLasso ms (wi c t) (mu c t) path circ :=
  (holdsB_iff h1 hN).trans (noLasso_iff h1 h8 hN)

/-- Once the ranks stay they stay. -/
theorem rounds_stay {ac : Mv → Bool} {w : Mv → Nat} {ms : List Mv} {N k : Nat} (h : (raise ac w ms (rounds ac w ms N k)).2 = false) : ∀ j, k ≤ j → rounds ac w ms N j = rounds ac w ms N k
  | 0, hj => by obtain rfl : k = 0 := by omega
                rfl
  | j + 1, hj => by
    rcases Nat.lt_or_eq_of_le hj with hj | rfl
    · have ih := rounds_stay h j (by omega)
      simp only [rounds]
      rw [ih, (raise_same h).1]
    · rfl

/-! ### The reference's reach -/

def hopM (st : List Bool) (m : Mv) : List Bool := st.set (tg m).toNat (st.getD (tg m).toNat false || st.getD (fr m).toNat false)
def hopsM (ms : List Mv) (st : List Bool) : List Bool := ms.foldl hopM st
def reachR (ms : List Mv) (N : Nat) : Nat → List Bool
  | 0 => (List.replicate N false).set 0 true
  | k + 1 => hopsM ms (reachR ms N k)

theorem hopM_length (st : List Bool) (m : Mv) : (hopM st m).length = st.length := by simp [hopM]
theorem hops_length : ∀ (l : List Mv) (st : List Bool), (hopsM l st).length = st.length
  | [], _ => rfl
  | m :: l, st => by
    show (hopsM l (hopM st m)).length = _
    rw [hops_length l, hopM_length]
theorem reachR_length (ms : List Mv) (N : Nat) : ∀ k, (reachR ms N k).length = N
  | 0 => by simp [reachR]
  | k + 1 => by simp only [reachR]; rw [hops_length]; exact reachR_length ms N k

theorem hop_get {st : List Bool} {m : Mv} (hm : (tg m).toNat < st.length) (p : Nat) : (hopM st m).getD p false = (st.getD p false || (decide (p = (tg m).toNat) && st.getD (fr m).toNat false)) := by
  unfold hopM
  simp only [List.getD, List.getElem?_set]
  by_cases e : p = (tg m).toNat
  · subst e
    simp [hm]
  · rw [if_neg (fun h => e h.symm)]
    simp [e]

section
variable {ms : List Mv} {N : Nat}

theorem hops_up (hN : InN N ms) : ∀ (l : List Mv) (st : List Bool), (∀ m ∈ l, m ∈ ms) → st.length = N → ∀ p, st.getD p false = true → (hopsM l st).getD p false = true
  | [], _, _, _, _, h => h
  | m :: l, st, hl, hs, p, h => by
    show (hopsM l (hopM st m)).getD p false = true
    have hb := hN m (hl m (by simp))
    refine hops_up hN l _ (fun x hx => hl x (by simp [hx])) (by rw [hopM_length]; exact hs) p ?_
    rw [hop_get (by omega), h]; rfl

theorem hops_step (hN : InN N ms) : ∀ (l : List Mv) (st : List Bool), (∀ m ∈ l, m ∈ ms) → st.length = N → ∀ m ∈ l, st.getD (fr m).toNat false = true → (hopsM l st).getD (tg m).toNat false = true
  | [], _, _, _, m, hm, _ => by cases hm
  | x :: l, st, hl, hs, m, hm, h => by
    show (hopsM l (hopM st x)).getD (tg m).toNat false = true
    have hb := hN x (hl x (by simp))
    rcases List.mem_cons.1 hm with rfl | hm
    · refine hops_up hN l _ (fun x hx => hl x (by simp [hx])) (by rw [hopM_length]; exact hs) _ ?_
      rw [hop_get (by omega), h]; simp
    · refine hops_step hN l _ (fun x hx => hl x (by simp [hx])) (by rw [hopM_length]; exact hs) m hm ?_
      rw [hop_get (by omega), h]; rfl

/-- All that is marked is reached. -/
theorem hops_sound (hN : InN N ms) {P : Nat → Prop} (hP : ∀ m ∈ ms, P (fr m).toNat → P (tg m).toNat) : ∀ (l : List Mv) (st : List Bool), (∀ m ∈ l, m ∈ ms) → st.length = N → (∀ p, st.getD p false = true → P p) → ∀ p, (hopsM l st).getD p false = true → P p
  | [], _, _, _, h, p, hp => h p hp
  | m :: l, st, hl, hs, h, p, hp => by
    have hb := hN m (hl m (by simp))
    refine hops_sound hN hP l (hopM st m) (fun x hx => hl x (by simp [hx])) (by rw [hopM_length]; exact hs) (fun p hp => ?_) p hp
    rw [hop_get (by omega)] at hp
    simp only [Bool.or_eq_true, Bool.and_eq_true, decide_eq_true_eq] at hp
    rcases hp with hp | ⟨rfl, hp⟩
    · exact h p hp
    · exact hP m (hl m (by simp)) (h _ hp)

theorem reachR_sound (h1 : 1 ≤ N) (h8 : N ≤ 8) (hN : InN N ms) : ∀ k p, (reachR ms N k).getD p false = true → reachB ms (p : Int) = true
  | 0, p, h => by
    unfold reachR at h
    rcases Nat.eq_zero_or_pos p with rfl | hp
    · exact (reachB_iff h1 h8 hN).2 ⟨[], rfl⟩
    · exfalso
      simp only [List.getD, List.getElem?_set] at h
      rw [if_neg (by omega)] at h
      by_cases hpn : p < N
      · simp [hpn] at h
      · simp [hpn] at h
  | k + 1, p, h => by
    refine hops_sound hN (P := fun p => reachB ms (p : Int) = true) (fun m hm hf => ?_) ms _ (fun _ h => h) (reachR_length ms N k) (reachR_sound h1 h8 hN k) p h
    have hb := hN m hm
    obtain ⟨u, hu⟩ := (reachB_iff h1 h8 hN).1 hf
    obtain ⟨i, hi, him⟩ := List.getElem_of_mem hm
    refine (reachB_iff h1 h8 hN).2 ⟨u ++ [i], ?_⟩
    have h2 := goG_snoc hu (by rw [List.getElem?_eq_getElem hi, him]) (show fr m = ((fr m).toNat : Int) by omega) (may := fun _ => true) rfl
    rw [h2]; congr 1; omega

theorem reachR_all (h1 : 1 ≤ N) (hN : InN N ms) : ∀ (k : Nat) (u : List Nat) (p : Int), u.length ≤ k → goG ms (fun _ => true) 0 u = some p → (reachR ms N k).getD p.toNat false = true := by
  intro k
  induction k with
  | zero =>
    intro u p hl hu
    obtain rfl : u = [] := List.length_eq_zero_iff.1 (by omega)
    simp only [goG, Option.some.injEq] at hu
    subst hu
    simp [reachR, List.getD, show 0 < N by omega]
  | succ k ih =>
    intro u p hl hu
    rcases List.eq_nil_or_concat u with rfl | ⟨v, i, rfl⟩
    · exact hops_up hN ms _ (fun _ h => h) (reachR_length ms N k) _ (ih [] p (by simp) hu)
    · rw [List.concat_eq_append] at hu
      obtain ⟨q, m, hq, hm, hf, _, ht⟩ := goG_snoc_inv hu
      rw [List.length_concat] at hl
      have h2 := ih v q (by omega) hq
      rw [← hf] at h2
      have h3 := hops_step hN ms _ (fun _ h => h) (reachR_length ms N k) m (List.mem_of_getElem? hm) h2
      rw [ht] at h3
      exact h3

theorem reachR_eq (h1 : 1 ≤ N) (h8 : N ≤ 8) (hN : InN N ms) {p : Nat} : (reachR ms N N).getD p false = reachB ms (p : Int) := by
  rw [Bool.eq_iff_iff]
  refine ⟨reachR_sound h1 h8 hN N p, fun h => ?_⟩
  obtain ⟨u, hu⟩ := (reachB_iff h1 h8 hN).1 h
  have hi := legs_inv (ms := ms) (may := fun _ => true) (a := 0) h8 (fun v q h => goG_in hN v ⟨by omega, by omega⟩ h)
  obtain ⟨e, he, h3, _⟩ := hi.all u _ hu
  have hc := hi.count (N := N) (fun e he => goG_in hN e.2 ⟨by omega, by omega⟩ (hi.path e he))
  have hw := hi.wordlen he
  have h4 := hi.path e he
  rw [h3] at h4
  have := reachR_all h1 hN N e.2 (p : Int) (by omega) h4
  simpa using this
end
end Go.Lin.Pg
