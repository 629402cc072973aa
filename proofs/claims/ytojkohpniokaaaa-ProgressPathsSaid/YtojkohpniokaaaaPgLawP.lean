/- Plain laws: lassos as lists of moves; classes, less, names, longest, either. No program in sight. -/
import Derived.Test.YtojkohpniokaaaaPgP
namespace Go.Lin.Pg

def goL (may : Mv → Bool) : Int → List Mv → Option Int
  | p, [] => some p
  | p, m :: l => if fr m = p ∧ may m = true then goL may (tg m) l else none

theorem goL_all {may : Mv → Bool} : ∀ (l : List Mv) {a b : Int}, goL may a l = some b → ∀ m ∈ l, may m = true
  | [], _, _, _, m, hm => by cases hm
  | x :: l, a, b, h, m, hm => by
    simp only [goL] at h
    split at h
    · rename_i hc
      rcases List.mem_cons.1 hm with rfl | hm
      · exact hc.2
      · exact goL_all l h m hm
    · cases h

theorem goL_mono {may may' : Mv → Bool} : ∀ (l : List Mv) {a b : Int}, (∀ m ∈ l, may m = true → may' m = true) → goL may a l = some b → goL may' a l = some b
  | [], _, _, _, h => h
  | x :: l, a, b, hp, h => by
    simp only [goL] at h ⊢
    split at h
    · rename_i hc
      rw [if_pos ⟨hc.1, hp x (by simp) hc.2⟩]
      exact goL_mono l (fun m hm => hp m (by simp [hm])) h
    · cases h

theorem goG_goL {ms : List Mv} {may : Mv → Bool} : ∀ (l : List Nat) {a b : Int}, goG ms may a l = some b → ∃ L, (∀ m ∈ L, m ∈ ms) ∧ goL may a L = some b ∧ ∀ i ∈ l, ∀ m, ms[i]? = some m → m ∈ L
  | [], a, b, h => ⟨[], (fun m hm => by cases hm), h, fun i hi => by cases hi⟩
  | i :: l, a, b, h => by
    simp only [goG] at h
    cases hm : ms[i]? with
    | none => rw [hm] at h; cases h
    | some m =>
      rw [hm] at h
      simp only at h
      split at h
      · rename_i hc
        obtain ⟨L, h1, h2, h3⟩ := goG_goL l h
        refine ⟨m :: L, fun x hx => ?_, ?_, fun j hj x hx => ?_⟩
        · rcases List.mem_cons.1 hx with rfl | hx
          · exact List.mem_of_getElem? hm
          · exact h1 x hx
        · simp only [goL]; rw [if_pos hc]; exact h2
        · rcases List.mem_cons.1 hj with rfl | hj
          · rw [hm] at hx; cases hx; simp
          · exact List.mem_cons_of_mem _ (h3 j hj x hx)
      · cases h

theorem goL_goG {ms : List Mv} {may : Mv → Bool} : ∀ (L : List Mv) {a b : Int}, (∀ m ∈ L, m ∈ ms) → goL may a L = some b → ∃ l, goG ms may a l = some b ∧ ∀ m ∈ L, ∃ i ∈ l, ms[i]? = some m
  | [], a, b, _, h => ⟨[], h, fun m hm => by cases hm⟩
  | m :: L, a, b, hL, h => by
    simp only [goL] at h
    split at h
    · rename_i hc
      obtain ⟨l, h1, h2⟩ := goL_goG L (fun x hx => hL x (by simp [hx])) h
      obtain ⟨i, hi, him⟩ := List.getElem_of_mem (hL m (by simp))
      have hi2 : ms[i]? = some m := by rw [List.getElem?_eq_getElem hi, him]
      refine ⟨i :: l, ?_, fun x hx => ?_⟩
      · simp only [goG, hi2]; rw [if_pos hc]; exact h1
      · rcases List.mem_cons.1 hx with rfl | hx
        · exact ⟨i, by simp, hi2⟩
        · obtain ⟨j, hj, h3⟩ := h2 x hx
          exact ⟨j, by simp [hj], h3⟩
    · cases h

/-- A lasso, as lists of moves. -/
def LassoM (ms : List Mv) (p q : Mv → Bool) : Prop := ∃ path circ : List Mv, (∀ m ∈ path, m ∈ ms) ∧ (∀ m ∈ circ, m ∈ ms) ∧ ∃ x, goL (fun _ => true) 0 path = some x ∧ goL p x circ = some x ∧ ∃ m ∈ circ, q m = true

theorem lassoM_iff {ms : List Mv} {p q : Mv → Bool} : LassoM ms p q ↔ ∃ path circ, IsLasso ms p q path circ := by
  constructor
  · rintro ⟨P, C, hP, hC, x, h1, h2, m, hm, hq⟩
    obtain ⟨u, hu, _⟩ := goL_goG P hP h1
    obtain ⟨v, hv, hv2⟩ := goL_goG C hC h2
    obtain ⟨i, hi, him⟩ := hv2 m hm
    exact ⟨u, v, ⟨⟨x, hu, hv⟩, i, hi, m, him, hq⟩⟩
  · rintro ⟨u, v, ⟨x, hu, hv⟩, i, hi, m, hm, hq⟩
    obtain ⟨P, h1, h2, _⟩ := goG_goL u hu
    obtain ⟨C, h3, h4, h5⟩ := goG_goL v hv
    exact ⟨P, C, h1, h3, x, h2, h4, m, h5 i hi m hm, hq⟩

theorem holds_lassoM {ms : List Mv} {N : Nat} (h1 : 1 ≤ N) (h8 : N ≤ 8) (hN : InN N ms) {c t : Int} : holdsB ms N c t = true ↔ ¬ LassoM ms (wi c t) (mu c t) := by
  rw [holds_lasso h1 h8 hN, lassoM_iff]
  constructor
  · rintro h ⟨a, b, k⟩; exact h a b k
  · intro h a b k; exact h ⟨a, b, k⟩

theorem LassoM.mono {ms ms' : List Mv} {p p' q q' : Mv → Bool} (h : LassoM ms p q) (hs : ∀ m ∈ ms, m ∈ ms') (hp : ∀ m ∈ ms, p m = true → p' m = true) (hq : ∀ m ∈ ms, p m = true → q m = true → q' m = true) : LassoM ms' p' q' := by
  obtain ⟨P, C, hP, hC, x, h1, h2, m, hm, hqm⟩ := h
  exact ⟨P, C, fun m hm => hs m (hP m hm), fun m hm => hs m (hC m hm), x, h1, goL_mono C (fun m hm => hp m (hC m hm)) h2, m, hm, hq m (hC m hm) (goL_all C h2 m hm) hqm⟩

theorem holds_mono {ms ms' : List Mv} {N N' : Nat} (h1 : 1 ≤ N) (h8 : N ≤ 8) (hN : InN N ms) (h1' : 1 ≤ N') (h8' : N' ≤ 8) (hN' : InN N' ms') {c t c' t' : Int} (h : holdsB ms' N' c' t' = true) (hs : ∀ m ∈ ms, m ∈ ms')
    (hp : ∀ m ∈ ms, wi c t m = true → wi c' t' m = true) (hq : ∀ m ∈ ms, wi c t m = true → mu c t m = true → mu c' t' m = true) : holdsB ms N c t = true := by
  rw [holds_lassoM h1 h8 hN]
  intro hl
  exact (holds_lassoM h1' h8' hN').1 h (hl.mono hs hp hq)

section
variable {ms : List Mv} {N : Nat} (h1 : 1 ≤ N) (h8 : N ≤ 8) (hN : InN N ms)
include h1 h8 hN

theorem waits_alone {t : Int} (h : holdsB ms N 1 t = true) : holdsB ms N 2 t = true :=
  holds_mono h1 h8 hN h1 h8 hN h (fun _ h => h) (fun m _ h => by simp [wi] at h ⊢; simp [h]) (fun m _ h _ => by simp [wi, mu] at h ⊢; simp [h])

theorem locks_alone {t : Int} (h : holdsB ms N 0 0 = true) : holdsB ms N 2 t = true :=
  holds_mono h1 h8 hN h1 h8 hN h (fun _ h => h) (fun m _ h => by simp [wi] at h ⊢; simp [h]) (fun m _ h _ => by simp [mu])

theorem everybody_locks (hT : ∀ m ∈ ms, th m = 0 ∨ th m = 1 ∨ th m = 2) (h : ∀ t : Int, t = 0 ∨ t = 1 ∨ t = 2 → holdsB ms N 1 t = true) : holdsB ms N 0 0 = true := by
  rw [holds_lassoM h1 h8 hN]
  rintro ⟨P, C, hP, hC, x, h3, h4, m, hm, hq⟩
  refine (holds_lassoM h1 h8 hN).1 (h (th m) (hT m (hC m hm))) ⟨P, C, hP, hC, x, h3, goL_mono C (fun m hm h => ?_) h4, m, hm, ?_⟩
  · simp [wi] at h ⊢; simp [h]
  · simp [mu]
end

/-- With one thread alone. -/
theorem only_same {ms : List Mv} {N : Nat} (h1 : 1 ≤ N) (h8 : N ≤ 8) (hN : InN N ms) {t : Int} (ho : ∀ m ∈ ms, th m = t) : holdsB ms N 0 0 = holdsB ms N 2 t := by
  rw [Bool.eq_iff_iff]
  constructor
  · exact locks_alone h1 h8 hN
  · intro h
    exact holds_mono h1 h8 hN h1 h8 hN h (fun _ h => h) (fun m hm h => by have := ho m hm; simp [wi] at h ⊢; simp [h, this]) (fun m _ h _ => by simp [mu])

/-! ### Other names -/

def swT (a b t : Int) : Int := if t = a then b else if t = b then a else t
def ren (a b : Int) (m : Mv) : Mv := (fr m, swT a b (th m), tg m, dn m)

theorem swT_swT (a b t : Int) : swT a b (swT a b t) = t := by
  unfold swT
  repeat' split
  all_goals omega

theorem ren_ren (a b : Int) (m : Mv) : ren a b (ren a b m) = m := by
  have h : swT a b (swT a b (th m)) = th m := swT_swT a b (th m)
  show (fr m, swT a b (swT a b (th m)), tg m, dn m) = m
  rw [h]

theorem goL_ren {a b : Int} {may : Mv → Bool} : ∀ (l : List Mv) (x : Int), goL may x (l.map (ren a b)) = goL (fun m => may (ren a b m)) x l
  | [], _ => rfl
  | m :: l, x => by
    simp only [List.map_cons, goL]
    rw [goL_ren l]
    rfl

theorem lassoM_ren {ms : List Mv} {a b : Int} {p q : Mv → Bool} (h : LassoM ms (fun m => p (ren a b m)) (fun m => q (ren a b m))) : LassoM (ms.map (ren a b)) p q := by
  obtain ⟨P, C, hP, hC, x, h1, h2, m, hm, hq⟩ := h
  refine ⟨P.map (ren a b), C.map (ren a b), fun m hm => ?_, fun m hm => ?_, x, ?_, ?_, ren a b m, List.mem_map_of_mem hm, hq⟩
  · obtain ⟨y, hy, rfl⟩ := List.mem_map.1 hm; exact List.mem_map_of_mem (hP y hy)
  · obtain ⟨y, hy, rfl⟩ := List.mem_map.1 hm; exact List.mem_map_of_mem (hC y hy)
  · rw [goL_ren]; exact h1
  · rw [goL_ren]; exact h2

theorem swT_beq (a b t u : Int) : (swT a b u == swT a b t) = (u == t) := by
  rw [Bool.eq_iff_iff, beq_iff_eq, beq_iff_eq]
  constructor
  · intro h
    have := congrArg (swT a b) h
    rwa [swT_swT, swT_swT] at this
  · rintro rfl; rfl

theorem wi_ren (a b c t : Int) (m : Mv) : wi c (swT a b t) (ren a b m) = wi c t m := by
  unfold wi
  simp only [ren, th, dn]
  rw [swT_beq]
theorem mu_ren (a b c t : Int) (m : Mv) : mu c (swT a b t) (ren a b m) = mu c t m := by
  unfold mu
  simp only [ren, th]
  rw [swT_beq]

theorem wi_zero (t u : Int) : wi 0 t = wi 0 u := rfl
theorem mu_zero (t u : Int) : mu 0 t = mu 0 u := rfl

theorem inN_ren {ms : List Mv} {N : Nat} (hN : InN N ms) (a b : Int) : InN N (ms.map (ren a b)) := by
  intro m hm
  obtain ⟨y, hy, rfl⟩ := List.mem_map.1 hm
  exact hN y hy

theorem map_ren_ren (ms : List Mv) (a b : Int) : (ms.map (ren a b)).map (ren a b) = ms := by
  rw [List.map_map]
  have : ren a b ∘ ren a b = id := funext fun m => ren_ren a b m
  rw [this, List.map_id]

theorem holds_ren {ms : List Mv} {N : Nat} (h1 : 1 ≤ N) (h8 : N ≤ 8) (hN : InN N ms) (a b c t : Int) : holdsB (ms.map (ren a b)) N c (swT a b t) = holdsB ms N c t := by
  have key : ∀ (ms : List Mv) (t : Int), InN N ms → LassoM ms (wi c t) (mu c t) → LassoM (ms.map (ren a b)) (wi c (swT a b t)) (mu c (swT a b t)) := fun ms t _ h => lassoM_ren (by
    have e1 : (fun m => wi c (swT a b t) (ren a b m)) = wi c t := funext fun m => wi_ren a b c t m
    have e2 : (fun m => mu c (swT a b t) (ren a b m)) = mu c t := funext fun m => mu_ren a b c t m
    rw [e1, e2]; exact h)
  rw [Bool.eq_iff_iff, holds_lassoM h1 h8 (inN_ren hN a b), holds_lassoM h1 h8 hN]
  refine not_congr ⟨fun h => ?_, key ms t hN⟩
  have := key _ _ (inN_ren hN a b) h
  rwa [map_ren_ren, swT_swT] at this

theorem holds_ren0 {ms : List Mv} {N : Nat} (h1 : 1 ≤ N) (h8 : N ≤ 8) (hN : InN N ms) (a b t : Int) : holdsB (ms.map (ren a b)) N 0 t = holdsB ms N 0 t := by
  have h := holds_ren h1 h8 hN a b 0 t
  rw [← h]
  rfl

/-! ### Ranks prove -/

/-- Whether ranks prove. -/
def provesB (ms : List Mv) (c t : Int) (r : List Int) : Bool := ms.all (fun m => !(acM ms c t m && decide (nth r (fr m).toNat < nth r (tg m).toNat + (wt c t m : Int))))

theorem provesB_iff {ms : List Mv} {c t : Int} {r : List Int} : provesB ms c t r = true ↔ ∀ m ∈ ms, acM ms c t m = true → nth r (tg m).toNat + (wt c t m : Int) ≤ nth r (fr m).toNat := by
  unfold provesB
  rw [List.all_eq_true]
  constructor
  · intro h m hm ha
    have := h m hm
    rw [ha] at this
    simp at this
    exact this
  · intro h m hm
    cases ha : acM ms c t m with
    | false => rfl
    | true => have := h m hm ha; simp; exact this

/-- Along a path ranks fall by what it weighs. -/
theorem weigh {ms : List Mv} {ac : Mv → Bool} {w : Mv → Nat} {r : List Int} (hm : ∀ m ∈ ms, ac m = true → nth r (tg m).toNat + (w m : Int) ≤ nth r (fr m).toNat) : ∀ (l : List Nat) (p q : Int), goG ms ac p l = some q → nth r q.toNat + (wsum ms w l : Int) ≤ nth r p.toNat := by
  intro l
  induction l with
  | nil =>
    intro p q h
    simp only [goG, Option.some.injEq] at h
    subst h
    simp [wsum]
  | cons i l ih =>
    intro p q h
    simp only [goG] at h
    cases hm' : ms[i]? with
    | none => rw [hm'] at h; cases h
    | some m =>
      rw [hm'] at h
      simp only at h
      split at h
      · rename_i hc
        have h1 := ih _ _ h
        have h2 := hm m (List.mem_of_getElem? hm') hc.2
        rw [hc.1] at h2
        simp only [wsum, hm']
        omega
      · cases h

section
variable {ms : List Mv} {N : Nat} {c t : Int} (h1 : 1 ≤ N) (h8 : N ≤ 8) (hN : InN N ms)
include h1 hN

theorem holds_of_proves {r : List Int} (h : provesB ms c t r = true) : holdsB ms N c t = true :=
  (holdsB_iff h1 hN).2 (no_lasso_of_stays (provesB_iff.1 h))

omit h1 hN in
theorem own_proves (h : holdsB ms N c t = true) : provesB ms c t (ranksM ms N c t) = true := by
  unfold holdsB at h
  rw [Bool.not_eq_true'] at h
  exact provesB_iff.2 (raise_same h).2

omit h1 in
theorem own_least {r : List Int} (hr : provesB ms c t r = true) (h0 : ∀ p, 0 ≤ nth r p) {p : Nat} (hp : p < N) : nth (ranksM ms N c t) p ≤ nth r p := by
  obtain ⟨l, q, h3, h4⟩ := held_rounds (ac := acM ms c t) (w := wt c t) hN (N - 1) p (by rw [rounds_length]; exact hp)
  unfold ranksM
  rw [h4]
  have := weigh (provesB_iff.1 hr) l p q h3
  have h5 := h0 q.toNat
  simp only [Int.toNat_natCast] at this
  omega

omit h1 in
theorem own_nonneg (p : Nat) : 0 ≤ nth (ranksM ms N c t) p := by
  by_cases hp : p < N
  · obtain ⟨l, q, h3, h4⟩ := held_rounds (ac := acM ms c t) (w := wt c t) hN (N - 1) p (by rw [rounds_length]; exact hp)
    unfold ranksM
    rw [h4]; omega
  · unfold nth ranksM
    simp [List.getD, List.getElem?_eq_none (show (rounds (acM ms c t) (wt c t) ms N (N - 1)).length ≤ p by rw [rounds_length]; omega)]

omit h1 hN in
theorem wsum_le {w : Mv → Nat} (hw : ∀ m, w m ≤ 1) : ∀ l : List Nat, wsum ms w l ≤ l.length
  | [] => by simp [wsum]
  | i :: l => by
    have := wsum_le hw l
    simp only [wsum, List.length_cons]
    cases ms[i]? with
    | none => simp only; omega
    | some m => have := hw m; simp only; omega

include h1 in
theorem own_small (h : holdsB ms N c t = true) (p : Nat) : nth (ranksM ms N c t) p < (N : Int) := by
  by_cases hp : p < N
  · obtain ⟨l, q, h3, h4⟩ := held_rounds (ac := acM ms c t) (w := wt c t) hN (N - 1) p (by rw [rounds_length]; exact hp)
    obtain ⟨l', s1, s2, s3⟩ := strip hN ((holdsB_iff h1 hN).1 h) _ l p q rfl ⟨by omega, by omega⟩ h3
    have := wsum_le (ms := ms) (w := wt c t) (fun m => by unfold wt; split <;> omega) l'
    unfold ranksM
    rw [h4]; omega
  · unfold nth ranksM
    simp [List.getD, List.getElem?_eq_none (show (rounds (acM ms c t) (wt c t) ms N (N - 1)).length ≤ p by rw [rounds_length]; omega)]
    omega

omit h1 in
theorem own_off {p : Nat} (hp : reachB ms (p : Int) = false) : nth (ranksM ms N c t) p = 0 := by
  by_cases hpn : p < N
  · obtain ⟨l, q, h3, h4⟩ := held_rounds (ac := acM ms c t) (w := wt c t) hN (N - 1) p (by rw [rounds_length]; exact hpn)
    unfold ranksM
    rw [h4]
    rcases l with _ | ⟨i, l⟩
    · rfl
    · exfalso
      simp only [goG] at h3
      cases hm : ms[i]? with
      | none => rw [hm] at h3; cases h3
      | some m =>
        rw [hm] at h3
        simp only at h3
        split at h3
        · rename_i hc
          have h5 := hc.2
          unfold acM at h5
          rw [Bool.and_eq_true, hc.1, hp] at h5
          cases h5.2
        · cases h3
  · unfold nth ranksM
    simp [List.getD, List.getElem?_eq_none (show (rounds (acM ms c t) (wt c t) ms N (N - 1)).length ≤ p by rw [rounds_length]; omega)]

include h8 in
/-- A path from a place that is reached weighs at most the place's rank. -/
theorem path_rank (h : holdsB ms N c t = true) {l : List Nat} {p q : Int} (hp : reachB ms p = true) (hl : goG ms (wi c t) p l = some q) : (wsum ms (wt c t) l : Int) ≤ nth (ranksM ms N c t) p.toNat := by
  have h3 := goG_ac h1 h8 hN l hp hl
  have := weigh (provesB_iff.1 (own_proves h)) l p q h3
  have h5 := own_nonneg (c := c) (t := t) hN q.toNat
  omega
end
end Go.Lin.Pg
