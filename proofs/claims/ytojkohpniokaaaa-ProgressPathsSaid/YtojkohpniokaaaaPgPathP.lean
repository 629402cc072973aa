/- Plain laws: paths as lists of ints; lassos as lists of moves. No program in sight. -/
import Derived.Test.YtojkohpniokaaaaPgP
import Derived.Test.YtojkohpniokaaaaPgLegsP
namespace Go.Lin.Pg

/-- The move of a number, if there is one. -/
def mvI (ms : List Mv) (i : Int) : Option Mv := if 0 ≤ i then ms[i.toNat]? else none

/-- Where a path of numbers leads from a place; below 0 is where it begins. -/
def pathI (ms : List Mv) : Int → List Int → Option Int
  | p, [] => some p
  | p, i :: l => match mvI ms i with
    | some m => if 0 ≤ p ∧ fr m ≠ p then none else pathI ms (tg m) l
    | none => none

theorem pathI_append {ms : List Mv} : ∀ (u v : List Int) (p : Int), pathI ms p (u ++ v) = (pathI ms p u).bind (fun q => pathI ms q v)
  | [], v, p => rfl
  | i :: u, v, p => by
    simp only [List.cons_append, pathI]
    cases mvI ms i with
    | none => rfl
    | some m =>
      simp only
      split
      · rfl
      · exact pathI_append u v _

theorem pathI_take {ms : List Mv} {l : List Int} {p : Int} {j : Nat} (hj : j < l.length) : pathI ms p (l.take (j + 1)) = (pathI ms p (l.take j)).bind (fun q => pathI ms q [nth l j]) := by
  rw [take_succ_nth hj, pathI_append]

theorem pathI_none {ms : List Mv} {l : List Int} {p : Int} (j : Nat) (h : pathI ms p (l.take j) = none) : pathI ms p l = none := by
  rw [← List.take_append_drop j l, pathI_append, h]; rfl

theorem goG_pathI {ms : List Mv} {may : Mv → Bool} : ∀ (l : List Nat) {p q : Int}, goG ms may p l = some q → pathI ms p (pInts l) = some q
  | [], p, q, h => h
  | i :: l, p, q, h => by
    simp only [goG] at h
    show pathI ms p ((i : Int) :: pInts l) = some q
    simp only [pathI, mvI]
    rw [if_pos (by omega), Int.toNat_natCast]
    cases hm : ms[i]? with
    | none => rw [hm] at h; cases h
    | some m =>
      rw [hm] at h
      simp only at h ⊢
      split at h
      · rename_i hc
        rw [if_neg (fun hx => hx.2 hc.1)]
        exact goG_pathI l h
      · cases h

theorem pathI_goG {ms : List Mv} : ∀ (l : List Int) {p q : Int}, 0 ≤ p → (∀ m ∈ ms, 0 ≤ tg m) → pathI ms p l = some q → ∃ u, l = pInts u ∧ goG ms (fun _ => true) p u = some q
  | [], p, q, _, _, h => ⟨[], rfl, h⟩
  | i :: l, p, q, hp, hms, h => by
    simp only [pathI, mvI] at h
    by_cases hi : 0 ≤ i
    · rw [if_pos hi] at h
      cases hm : ms[i.toNat]? with
      | none => rw [hm] at h; cases h
      | some m =>
        rw [hm] at h
        simp only at h
        split at h
        · cases h
        · rename_i hc
          obtain ⟨u, rfl, hu⟩ := pathI_goG l (hms m (List.mem_of_getElem? hm)) hms h
          refine ⟨i.toNat :: u, ?_, ?_⟩
          · show _ = ((i.toNat : Nat) : Int) :: pInts u
            rw [show ((i.toNat : Nat) : Int) = i by omega]
          · simp only [goG, hm]
            rw [if_pos ⟨Classical.byContradiction fun hx => hc ⟨hp, hx⟩, trivial⟩]
            exact hu
    · rw [if_neg hi] at h; cases h

/-- Whether the k-th number is a move, from where the one ahead of it leads. -/
def linkB (ms : List Mv) (l : List Int) (k : Nat) : Bool :=
  match mvI ms (nth l k) with
  | some m => k == 0 || (match mvI ms (nth l (k - 1)) with | some m' => tg m' == fr m | none => false)
  | none => false

def linksB (ms : List Mv) (l : List Int) : Bool := (List.range l.length).all (linkB ms l)
def isPathB (ms : List Mv) (l : List Int) : Bool := linksB ms l && decide (l.length ≤ 1000)

theorem linkB_cons {ms : List Mv} {i : Int} {l : List Int} (k : Nat) : linkB ms (i :: l) (k + 1) = (linkB ms l k && (decide (0 < k) || (match mvI ms i, mvI ms (nth l 0) with | some m', some m => tg m' == fr m | _, _ => false))) := by
  unfold linkB
  have e1 : nth (i :: l) (k + 1) = nth l k := rfl
  rw [e1]
  rcases k with _ | k
  · have e2 : nth (i :: l) (0 + 1 - 1) = i := rfl
    rw [e2]
    cases mvI ms (nth l 0) <;> cases mvI ms i <;> simp
  · have e2 : nth (i :: l) (k + 1 + 1 - 1) = nth l k := rfl
    rw [e2]
    cases mvI ms (nth l (k + 1)) <;> simp

theorem links_cons {ms : List Mv} {i : Int} {l : List Int} : linksB ms (i :: l) = ((mvI ms i).isSome && (linksB ms l && (l.isEmpty || (match mvI ms i, mvI ms (nth l 0) with | some m', some m => tg m' == fr m | _, _ => false)))) := by
  have h0 : linkB ms (i :: l) 0 = (mvI ms i).isSome := by
    unfold linkB
    rw [show nth (i :: l) 0 = i from rfl]
    cases mvI ms i <;> simp
  unfold linksB
  rw [List.length_cons, List.range_succ_eq_map, List.all_cons, h0, List.all_map]
  congr 1
  rw [Bool.eq_iff_iff]
  simp only [List.all_eq_true, List.mem_range, Function.comp, Bool.and_eq_true]
  constructor
  · intro h
    refine ⟨fun k hk => ?_, ?_⟩
    · have := h k hk
      rw [show Nat.succ k = k + 1 from rfl, linkB_cons, Bool.and_eq_true] at this
      exact this.1
    · rcases l with _ | ⟨j, l⟩
      · rfl
      · have := h 0 (by simp)
        rw [show Nat.succ 0 = 0 + 1 from rfl, linkB_cons, Bool.and_eq_true] at this
        simpa using this.2
  · rintro ⟨h1, h2⟩ k hk
    rw [show Nat.succ k = k + 1 from rfl, linkB_cons, Bool.and_eq_true]
    refine ⟨h1 k hk, ?_⟩
    rcases k with _ | k
    · rcases l with _ | ⟨j, l⟩
      · cases hk
      · simpa using h2
    · simp

/-- Where the last move leads. -/
def endI (ms : List Mv) (p : Int) (l : List Int) : Int :=
  if l = [] then p else match mvI ms (nth l (l.length - 1)) with | some m => tg m | none => 0

def beginsB (ms : List Mv) (p : Int) (l : List Int) : Bool :=
  l.isEmpty || (match mvI ms (nth l 0) with | some m => !(decide (0 ≤ p)) || fr m == p | none => false)

theorem endI_cons {ms : List Mv} {p : Int} {i : Int} {l : List Int} {m : Mv} (h : mvI ms i = some m) : endI ms p (i :: l) = endI ms (tg m) l := by
  unfold endI
  rw [if_neg (by simp)]
  rcases l with _ | ⟨j, l⟩
  · rw [if_pos rfl]
    show (match mvI ms i with | some m => tg m | none => 0) = _
    rw [h]
  · rw [if_neg (by simp)]
    rfl

theorem pathI_eq {ms : List Mv} (hms : ∀ m ∈ ms, 0 ≤ tg m) : ∀ (l : List Int) (p : Int), pathI ms p l = if (linksB ms l && beginsB ms p l) = true then some (endI ms p l) else none
  | [], p => by simp [pathI, linksB, beginsB, endI]
  | i :: l, p => by
    have ih := pathI_eq hms l
    simp only [pathI]
    rw [links_cons]
    unfold beginsB
    rw [show nth (i :: l) 0 = i from rfl]
    cases hm : mvI ms i with
    | none => simp
    | some m =>
      have hm0 : 0 ≤ tg m := by
        unfold mvI at hm
        split at hm
        · exact hms m (List.mem_of_getElem? hm)
        · cases hm
      simp only [Option.isSome_some, Bool.true_and, List.isEmpty_cons, Bool.false_or]
      rw [ih, endI_cons hm]
      by_cases hc : 0 ≤ p ∧ fr m ≠ p
      · rw [if_pos hc, if_neg]
        simp only [Bool.and_eq_true, Bool.or_eq_true, Bool.not_eq_true', decide_eq_false_iff_not, beq_iff_eq]
        rintro ⟨_, h | h⟩
        · exact h hc.1
        · exact hc.2 h
      · rw [if_neg hc]
        have hb : (!(decide (0 ≤ p)) || fr m == p) = true := by
          simp only [Bool.or_eq_true, Bool.not_eq_true', decide_eq_false_iff_not, beq_iff_eq]
          by_cases h0 : 0 ≤ p
          · exact .inr (Classical.byContradiction fun h => hc ⟨h0, h⟩)
          · exact .inl h0
        rw [hb, Bool.and_true]
        congr 2
        unfold beginsB
        rcases l with _ | ⟨j, l⟩
        · simp
        · simp only [List.isEmpty_cons, Bool.false_or]
          cases mvI ms (nth (j :: l) 0) with
          | none => rfl
          | some m2 =>
            simp only [decide_eq_true hm0, Bool.not_true, Bool.false_or]
            rw [Bool.beq_comm]

theorem pathI_some {ms : List Mv} (hms : ∀ m ∈ ms, 0 ≤ tg m) (l : List Int) : (pathI ms (-1) l).isSome = linksB ms l := by
  rw [pathI_eq hms]
  have hb : linksB ms l = true → beginsB ms (-1) l = true := fun h => by
    rcases l with _ | ⟨i, l⟩
    · rfl
    · rw [links_cons, Bool.and_eq_true] at h
      unfold beginsB
      rw [show nth (i :: l) 0 = i from rfl]
      cases hm : mvI ms i with
      | none => rw [hm] at h; cases h.1
      | some m => simp
  cases hl : linksB ms l with
  | false => simp
  | true => rw [hb hl]; simp

/-- Whether numbers are all those of moves that may be. -/
def allI (ms : List Mv) (p : Mv → Bool) (l : List Int) : Bool := l.all (fun i => match mvI ms i with | some m => p m | none => false)
def anyI (ms : List Mv) (p : Mv → Bool) (l : List Int) : Bool := l.any (fun i => match mvI ms i with | some m => p m | none => false)

/-- Whether a path and a circle refute. -/
def refutesB (ms : List Mv) (c t : Int) (path circ : List Int) : Bool :=
  match pathI ms 0 path with
  | none => false
  | some x => decide (path.length ≤ 1000) && (match pathI ms x circ with
    | none => false
    | some y => decide (circ.length ≤ 1000) && (y == x) && (allI ms (wi c t) circ && anyI ms (mu c t) circ))

theorem goG_all {ms : List Mv} {p : Mv → Bool} : ∀ (l : List Nat) {a b : Int}, goG ms (fun _ => true) a l = some b → allI ms p (pInts l) = true → goG ms p a l = some b
  | [], _, _, h, _ => h
  | i :: l, a, b, h, ha => by
    simp only [goG] at h ⊢
    have ha' : ((match mvI ms (i : Int) with | some m => p m | none => false) && allI ms p (pInts l)) = true := ha
    rw [Bool.and_eq_true] at ha'
    obtain ⟨h1, h2⟩ := ha'
    have he : mvI ms (i : Int) = ms[i]? := by unfold mvI; rw [if_pos (by omega), Int.toNat_natCast]
    rw [he] at h1
    cases hm : ms[i]? with
    | none => rw [hm] at h; cases h
    | some m =>
      rw [hm] at h h1
      simp only at h h1 ⊢
      split at h
      · rename_i hc
        rw [if_pos ⟨hc.1, h1⟩]
        exact goG_all l h h2
      · cases h

theorem goG_allI {ms : List Mv} {p : Mv → Bool} : ∀ (l : List Nat) {a b : Int}, goG ms p a l = some b → allI ms p (pInts l) = true
  | [], _, _, _ => rfl
  | i :: l, a, b, h => by
    simp only [goG] at h
    show ((match mvI ms (i : Int) with | some m => p m | none => false) && allI ms p (pInts l)) = true
    have he : mvI ms (i : Int) = ms[i]? := by unfold mvI; rw [if_pos (by omega), Int.toNat_natCast]
    rw [he]
    cases hm : ms[i]? with
    | none => rw [hm] at h; cases h
    | some m =>
      rw [hm] at h
      simp only at h ⊢
      split at h
      · rename_i hc
        rw [hc.2, goG_allI l h]; rfl
      · cases h

theorem anyI_iff {ms : List Mv} {p : Mv → Bool} {l : List Nat} : anyI ms p (pInts l) = true ↔ ∃ i ∈ l, ∃ m, ms[i]? = some m ∧ p m = true := by
  unfold anyI pInts
  rw [List.any_eq_true]
  constructor
  · rintro ⟨x, hx, h⟩
    obtain ⟨i, hi, rfl⟩ := List.mem_map.1 hx
    have he : mvI ms (Int.ofNat i) = ms[i]? := by unfold mvI; rw [if_pos (by simp)]; rfl
    rw [he] at h
    cases hm : ms[i]? with
    | none => rw [hm] at h; cases h
    | some m => rw [hm] at h; exact ⟨i, hi, m, hm, h⟩
  · rintro ⟨i, hi, m, hm, h⟩
    have he : mvI ms (i : Int) = ms[i]? := by unfold mvI; rw [if_pos (by omega), Int.toNat_natCast]
    exact ⟨(i : Int), List.mem_map_of_mem hi, by simp only [he, hm]; exact h⟩

/-- A lasso refutes. -/
theorem refutes_of_lasso {ms : List Mv} {c t : Int} {path circ : List Nat} (h : IsLasso ms (wi c t) (mu c t) path circ) (h1 : path.length ≤ 1000) (h2 : circ.length ≤ 1000) : refutesB ms c t (pInts path) (pInts circ) = true := by
  obtain ⟨⟨x, h3, h4⟩, h5⟩ := h
  unfold refutesB
  rw [goG_pathI path h3]
  simp only
  rw [goG_pathI circ h4]
  simp only [beq_self_eq_true, Bool.and_true]
  rw [goG_allI circ h4, anyI_iff.2 h5]
  simp [pInts, h1, h2]

/-- What refutes is a lasso. -/
theorem lasso_of_refutes {ms : List Mv} {N : Nat} (h1 : 1 ≤ N) (hN : InN N ms) {c t : Int} {path circ : List Int} (h : refutesB ms c t path circ = true) : ∃ u v, path = pInts u ∧ circ = pInts v ∧ IsLasso ms (wi c t) (mu c t) u v := by
  have hms : ∀ m ∈ ms, 0 ≤ tg m := fun m hm => (hN m hm).2.1
  unfold refutesB at h
  cases hp : pathI ms 0 path with
  | none => rw [hp] at h; cases h
  | some x =>
    rw [hp] at h
    simp only [Bool.and_eq_true] at h
    obtain ⟨_, h⟩ := h
    cases hq : pathI ms x circ with
    | none => rw [hq] at h; cases h
    | some y =>
      rw [hq] at h
      simp only [Bool.and_eq_true, beq_iff_eq] at h
      obtain ⟨⟨_, rfl⟩, h3, h4⟩ := h
      obtain ⟨u, rfl, hu⟩ := pathI_goG path (Int.le_refl 0) hms hp
      obtain ⟨v, rfl, hv⟩ := pathI_goG circ (goG_in hN u ⟨by omega, by omega⟩ hu).1 hms hq
      exact ⟨u, v, rfl, rfl, ⟨_, hu, goG_all v hv h3⟩, anyI_iff.1 h4⟩
end Go.Lin.Pg
