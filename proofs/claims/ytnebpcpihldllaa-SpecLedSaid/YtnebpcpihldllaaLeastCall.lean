/- Plain: what the least machine says: it is alike, least already, and specifications are alike exactly if their least machines are equal. Plain: the first shortest word to a state is shorter than there are states, and what a run of it says. Plain: the first word that tells two machines apart has fewer calls than both have states; what the laws of the least machine need to know. Walks: Least of the program: its answer is known. -/
import Derived.Test.YtnebpcpihldllaaFirsts
import Derived.Test.YtnebpcpihldllaaWReached
import Derived.Test.YtnebpcpihldllaaWReached2
import Derived.Test.YtnebpcpihldllaaTurns
import Derived.Test.YtnebpcpihldllaaWUnlike
import Derived.Test.YtnebpcpihldllaaWLeast
namespace Go.Lin

theorem LeastW.of {M K : Mach} {L : List (List Nat)} (hE : ∀ u v, OkW M.k u → OkW M.k v → (EqW M u v ↔ EqW K u v)) (hk : M.k = K.k) (h : LeastW M L) : LeastW K L where
  ok w hw := hk ▸ h.ok w hw
  least w hw v hv he := h.least w hw v (hk ▸ hv) ((hE v w (hk ▸ hv) (h.ok w hw)).2 he)
  sorted := h.sorted
  apart := List.Pairwise.imp_of_mem (fun {u v} hu hv h1 h2 => h1 ((hE u v (h.ok u hu) (h.ok v hv)).2 h2)) h.apart
  all v hv := by
    obtain ⟨w, hw, he⟩ := h.all v (hk ▸ hv)
    exact ⟨w, hw, (hE v w (hk ▸ hv) (h.ok w hw)).1 he⟩

theorem notells_after {M K : Mach} {a b : Nat} (h : NoTells M K a b) {u : List Nat} (hu : OkW M.k u) : NoTells M K (stM M a u) (stM K b u) := fun x hx => by
  have := h (u ++ x) (hu.append' hx)
  rw [anM_append, anM_append] at this
  exact (List.append_inj this (by rw [length_anM, length_anM])).2

theorem alike_words {M K : Mach} (hk : M.k = K.k) (h : NoTells M K 0 0) (u v : List Nat) (hu : OkW M.k u) (hv : OkW M.k v) : EqW M u v ↔ EqW K u v := by
  have h1 := notells_after h hu
  have h2 := notells_after h hv
  constructor
  · intro he x hx
    rw [← hk] at hx
    exact (h1 x hx).symm.trans ((he x hx).trans (h2 x hx))
  · intro he x hx
    exact (h1 x hx).trans ((he x (hk ▸ hx)).trans (h2 x hx).symm)

theorem rep_zero {M : Mach} {L : List (List Nat)} (h : LeastW M L) : repW M L 0 = 0 := by
  obtain ⟨L', hL'⟩ := h.nil_first
  rw [hL']
  rfl

section
variable {s t : RSpec} {sB tB : Nat → Nat → Bool} {cl cl' : Nat → Nat} {L L' : List (List Nat)}

/-- Alike specifications have one least machine. -/
theorem least_of_alike (hS : Sames (machOf s) sB cl) (hT : Sames (machOf t) tB cl') (h : LeastW (machOf s) L) (h' : LeastW (machOf t) L')
    (hk : s.ops = t.ops) (ha : NoTells (machOf s) (machOf t) 0 0) : leastS s cl L = leastS t cl' L' := by
  have hkk : (machOf s).k = (machOf t).k := by simp only [machOf]; rw [hk]
  have hE := alike_words hkk ha
  obtain rfl : L = L' := h.unique2 hE hkk h'
  unfold leastS
  rw [← hkk]
  have n1 : tabL L.length (machOf s).k (fun i o => ((posW (machOf s) cl L ((machOf s).nx (repW (machOf s) L i) o) : Nat) : Int)) = tabL L.length (machOf s).k (fun i o => ((posW (machOf t) cl' L ((machOf t).nx (repW (machOf t) L i) o) : Nat) : Int)) := by
    refine tabL_congr (fun i hi o ho => ?_)
    obtain ⟨e1, hok⟩ := rep_step h hi ho
    obtain ⟨e2, hok'⟩ := rep_step h' hi (hkk ▸ ho)
    obtain ⟨p1, p2⟩ := h'.pos hT hok'
    rw [e1, e2]
    have := h.pos_eq hS hok p1 ((hS.iff _ _).2 ((hE _ _ (h.ok _ (nthW_mem p1)) hok).2 ((hT.iff _ _).1 p2)))
    rw [this]
  have n2 : tabL L.length (machOf s).k (fun i o => (machOf s).sy (repW (machOf s) L i) o) = tabL L.length (machOf s).k (fun i o => (machOf t).sy (repW (machOf t) L i) o) := by
    refine tabL_congr (fun i hi o ho => ?_)
    have h1 := notells_after ha (h.ok _ (nthW_mem hi)) [o] (fun x hx => by simp at hx; subst hx; exact ho)
    simpa [anM, repW] using h1
  rw [n1, n2, hk]

/-- The least machine is alike. -/
theorem least_alike (hv : validM s = true) (hS : Sames (machOf s) sB cl) (h : LeastW (machOf s) L) : NoTells (machOf s) (machOf (leastS s cl L)) 0 0 := fun v hvo => by
  have := (least_answers hv hS h v 0 (least_count hv h).1 hvo).1
  rw [rep_zero h] at this
  exact this.symm

theorem least_k (hv : validM s = true) (hS : Sames (machOf s) sB cl) (h : LeastW (machOf s) L) : (machOf (leastS s cl L)).k = (machOf s).k := (least_facts hv hS h).2.2.1

/-- It is least already. -/
theorem least_again (hv : validM s = true) (hS : Sames (machOf s) sB cl) (h : LeastW (machOf s) L) (hT : Sames (machOf (leastS s cl L)) tB cl') (h' : LeastW (machOf (leastS s cl L)) L') : leastS (leastS s cl L) cl' L' = leastS s cl L :=
  (least_of_alike hS hT h h' rfl (least_alike hv hS h)).symm

theorem least_words (hv : validM s = true) (hS : Sames (machOf s) sB cl) (h : LeastW (machOf s) L) : LeastW (machOf (leastS s cl L)) L :=
  h.of (alike_words (least_k hv hS h).symm (least_alike hv hS h)) (least_k hv hS h).symm

/-- Specifications are alike exactly if their least machines are equal. -/
theorem alike_iff (hv : validM s = true) (ht : validM t = true) (hS : Sames (machOf s) sB cl) (hT : Sames (machOf t) tB cl') (h : LeastW (machOf s) L) (h' : LeastW (machOf t) L') :
    (s.ops = t.ops ∧ NoTells (machOf s) (machOf t) 0 0) ↔ leastS s cl L = leastS t cl' L' := by
  constructor
  · rintro ⟨h1, h2⟩
    exact least_of_alike hS hT h h' h1 h2
  · intro he
    have ho : s.ops = t.ops := by have := congrArg RSpec.ops he; exact this
    have hkk : (machOf s).k = (machOf t).k := by simp only [machOf]; rw [ho]
    refine ⟨ho, fun v hvo => ?_⟩
    have h1 := least_alike hv hS h v hvo
    have h2 := least_alike ht hT h' v (hkk ▸ hvo)
    rw [h1, he, h2]

theorem rep_of_least (hv : validM s = true) (hS : Sames (machOf s) sB cl) (h : LeastW (machOf s) L) {i : Nat} (hi : i < L.length) : stM (machOf (leastS s cl L)) 0 (nthW L i) = i := by
  obtain ⟨_, h2, h3⟩ := least_answers hv hS h (nthW L i) 0 (least_count hv h).1 (h.ok _ (nthW_mem hi))
  rw [rep_zero h] at h3
  by_cases e : stM (machOf (leastS s cl L)) 0 (nthW L i) = i
  · exact e
  · exact absurd ((hS.iff _ _).1 h3) (h.rep_ne h2 hi e)

/-- All its states are reached. -/
theorem least_reached (hv : validM s = true) (hS : Sames (machOf s) sB cl) (h : LeastW (machOf s) L) : reachL (machOf (leastS s cl L)) = List.range (machOf (leastS s cl L)).n := by
  have hf := least_facts hv hS h
  have hW := wf_machOf hf.1
  refine sorted_unique (reachL_sorted _) List.pairwise_lt_range (fun x => ?_)
  rw [mem_reachL hW, List.mem_range]
  constructor
  · rintro ⟨v, hvo, rfl⟩
    exact stM_lt hW hW.n1 hvo
  · intro hx
    rw [hf.2.1] at hx
    exact ⟨nthW L x, by rw [hf.2.2.1]; exact h.ok _ (nthW_mem hx), rep_of_least hv hS h hx⟩

/-- No two of its states are the same. -/
theorem least_classes (hv : validM s = true) (hS : Sames (machOf s) sB cl) (h : LeastW (machOf s) L) (hT : Sames (machOf (leastS s cl L)) tB cl') {i : Nat} (hi : i < L.length) : cl' i = i := by
  have hle := hT.le i
  by_cases e : cl' i = i
  · exact e
  · have h1 := (hT.same _ _).1 (hT.cls i)
    have hk := least_k hv hS h
    refine absurd (fun v hvo => ?_) (h.rep_ne hi (show cl' i < L.length by omega) (fun e2 => e e2.symm))
    have h2 := h1 v (by rw [hk]; exact hvo)
    rw [(least_answers hv hS h v i hi hvo).1, (least_answers hv hS h v (cl' i) (by omega) hvo).1] at h2
    exact h2
end
end Go.Lin
namespace Go.Lin

theorem toN_ofNl (ws : List Nat) : toN (ofN ws) = ws := by
  simp only [toN, ofN, List.map_map]
  conv => rhs; rw [← List.map_id ws]
  exact List.map_congr_left (fun x _ => by simp)

theorem stM_take_drop (M : Mach) (s : Nat) (ws : List Nat) (i : Nat) : stM M (stM M s (ws.take i)) (ws.drop i) = stM M s ws := by
  rw [← stM_append, List.take_append_drop]

theorem OkW.drop {k : Nat} {ws : List Nat} (h : OkW k ws) (j : Nat) : OkW k (ws.drop j) := fun x hx => h x (List.mem_of_mem_drop hx)

theorem OkW.append {k : Nat} {ws vs : List Nat} (h : OkW k ws) (h' : OkW k vs) : OkW k (ws ++ vs) := fun x hx => (List.mem_append.1 hx).elim (h x) (h' x)

theorem isWay_short {M : Mach} (hM : M.WF) {a : Nat} {w : List Nat} (h : IsWay M a w) : w.length < M.n := by
  have hn := nodup_lt_length M.n ((List.range (w.length + 1)).map fun i => stM M 0 (w.take i)) ?_ ?_
  · simp at hn; omega
  · rw [List.nodup_iff_pairwise_ne, List.pairwise_map, List.pairwise_iff_getElem]
    intro i j hi hj hij he
    simp only [List.length_range] at hi hj
    simp only [List.getElem_range] at he
    have := h.least (w.take i ++ w.drop j) ((h.ok.take i).append (h.ok.drop j)) (by rw [stM_append, he, stM_take_drop, h.leads])
    have := sle_len this
    simp at this
    omega
  · intro x hx
    obtain ⟨i, _, rfl⟩ := List.mem_map.1 hx
    exact stM_lt hM hM.n1 (h.ok.take i)

theorem isWordM_ofN {s : RSpec} (hv : validM s = true) {w : List Nat} (h : OkW (machOf s).k w) (hl : w.length ≤ 20) : isWordM s.ops (ofN w) = true := by
  obtain ⟨⟨s1, s8, o1, o4⟩, _⟩ := valid_parts hv
  rw [isWordM_true (fun i hi => ?_)]
  · rw [length_ofN]; simp; omega
  · rw [nth_ofN]
    rw [length_ofN] at hi
    have := h.nth hi
    simp only [machOf] at this
    unfold inM
    simp
    omega

/-- What a run of the way says. -/
theorem way_runs {s : RSpec} (hv : validM s = true) {a : Nat} {w : List Nat} (h : IsWay (machOf s) a w) :
    runE s 0 (ofN w) = 0 ∧ runTo s 0 (ofN w) = (a : Int) ∧ (w.length : Int) < s.st := by
  obtain ⟨⟨s1, s8, o1, o4⟩, _⟩ := valid_parts hv
  have hs := isWay_short (wf_machOf hv) h
  simp only [machOf] at hs
  have hw := isWordM_ofN hv h.ok (by omega)
  have hE : runE s 0 (ofN w) = 0 := by
    unfold runE
    rw [hv, hw, show inM s.st 0 = true by unfold inM; simp; omega]
    rfl
  refine ⟨hE, ?_, by omega⟩
  unfold runTo
  rw [if_pos hE, toN_ofNl]
  have := h.leads
  simp only [Int.toNat_zero]
  rw [this]

/-- The first i of some numbers hold a number. -/
def inL (xs : List Nat) (a : Nat) (i : Nat) : Bool := (xs.take i).any (· == a)

theorem inL_zero (xs : List Nat) (a : Nat) : inL xs a 0 = false := rfl

theorem inL_succ {xs : List Nat} {a i : Nat} (h : i < xs.length) : inL xs a (i + 1) = (inL xs a i || ((a : Int) == ((nthN xs i : Nat) : Int))) := by
  unfold inL
  rw [take_succ_nthN h, List.any_append]
  congr 1
  simp
  rw [Bool.eq_iff_iff]
  simp
  omega

theorem inL_all {M : Mach} (hM : M.WF) (a : Nat) : inL (reachL M) a (reachL M).length = true ↔ Reaches M a := by
  unfold inL
  rw [List.take_of_length_le (Nat.le_refl _), List.any_eq_true, ← mem_reachL hM]
  constructor
  · rintro ⟨x, hx, he⟩
    have : x = a := by simpa using he
    exact this ▸ hx
  · intro h
    exact ⟨a, h, by simp⟩
end Go.Lin
namespace Go.Lin

def NxOk (M : Mach) : Prop := ∀ i, i < M.n → ∀ j, j < M.k → M.nx i j < M.n

theorem stM_lt2 {M : Mach} (hM : NxOk M) {ws : List Nat} : ∀ {s : Nat}, s < M.n → OkW M.k ws → stM M s ws < M.n := by
  induction ws with
  | nil => intro s hs _; exact hs
  | cons o ws ih =>
    intro s hs hw
    exact ih (hM s hs o (hw o (by simp))) (fun x hx => hw x (by simp [hx]))

theorem moore_lists2 {M : Mach} (hM : NxOk M) {a b : Nat} {ws : List Nat} (ha : a < M.n) (hb : b < M.n) (h : IsFirst M M a b ws) :
    ∀ j, j ≤ ws.length → ∃ l : List Nat, l.length = j + 1 ∧ (∀ x ∈ l, x < M.n) ∧ l.Pairwise (fun x y => ¬ Upto M j x y) := by
  intro j
  induction j with
  | zero => intro _; exact ⟨[a], rfl, fun x hx => by simp at hx; subst hx; exact ha, by simp⟩
  | succ j ih =>
    intro hj
    obtain ⟨l, hl, hlt, hp⟩ := ih (by omega)
    have hokp : OkW M.k (ws.take (ws.length - 1 - j)) := h.ok.take _
    obtain ⟨p, hpe⟩ : ∃ p, stM M a (ws.take (ws.length - 1 - j)) = p := ⟨_, rfl⟩
    obtain ⟨q, hqe⟩ : ∃ q, stM M b (ws.take (ws.length - 1 - j)) = q := ⟨_, rfl⟩
    have hplt : p < M.n := by rw [← hpe]; exact stM_lt2 hM ha hokp
    have hqlt : q < M.n := by rw [← hqe]; exact stM_lt2 hM hb hokp
    have hlen : (ws.take (ws.length - 1 - j)).length = ws.length - 1 - j := by rw [List.length_take]; omega
    have hsame : anM M a (ws.take (ws.length - 1 - j)) = anM M b (ws.take (ws.length - 1 - j)) := h.short hokp (by rw [hlen]; omega)
    have hpq : Upto M j p q := by
      intro v hv hvl
      have h1 : anM M a (ws.take (ws.length - 1 - j) ++ v) = anM M b (ws.take (ws.length - 1 - j) ++ v) := by
        refine h.short (fun x hx => ?_) (by rw [List.length_append, hlen]; omega)
        rcases List.mem_append.1 hx with hx | hx
        · exact hokp x hx
        · exact hv x hx
      rw [anM_append, anM_append, hsame, hpe, hqe] at h1
      exact List.append_cancel_left h1
    have hnot : ¬ Upto M (j + 1) p q := by
      intro hu
      refine h.tells ?_
      have hd : anM M p (ws.drop (ws.length - 1 - j)) = anM M q (ws.drop (ws.length - 1 - j)) := by
        refine hu _ (fun x hx => h.ok x (List.mem_of_mem_drop hx)) ?_
        rw [List.length_drop]; omega
      rw [← List.take_append_drop (ws.length - 1 - j) ws, anM_append, anM_append, hsame, hpe, hqe, hd]
    have hmono : ∀ x y, Upto M (j + 1) x y → Upto M j x y := fun x y hu v hv hvl => hu v hv (by omega)
    have hsymm : ∀ i x y, Upto M i x y → Upto M i y x := fun i x y hu v hv hvl => (hu v hv hvl).symm
    have htrans : ∀ i x y z, Upto M i x y → Upto M i y z → Upto M i x z := fun i x y z h1 h2 v hv hvl => (h1 v hv hvl).trans (h2 v hv hvl)
    have hnew : ∃ y, y < M.n ∧ ∀ z ∈ l, ¬ Upto M (j + 1) y z := by
      by_cases hx : ∃ x ∈ l, Upto M (j + 1) p x
      · obtain ⟨x, hxl, hxu⟩ := hx
        refine ⟨q, hqlt, fun z hz hu => ?_⟩
        have hxz : Upto M j x z := htrans j x q z (htrans j x p q (hsymm j p x (hmono _ _ hxu)) hpq) (hmono _ _ hu)
        have heq : x = z := by
          by_cases he : x = z
          · exact he
          · obtain ⟨i1, hi1, rfl⟩ := List.getElem_of_mem hxl
            obtain ⟨i2, hi2, rfl⟩ := List.getElem_of_mem hz
            rcases Nat.lt_trichotomy i1 i2 with h1 | h1 | h1
            · exact absurd hxz (List.pairwise_iff_getElem.1 hp i1 i2 hi1 hi2 h1)
            · subst h1; rfl
            · exact absurd (hsymm j _ _ hxz) (List.pairwise_iff_getElem.1 hp i2 i1 hi2 hi1 h1)
        subst heq
        exact hnot (htrans _ p x q hxu (hsymm _ q x hu))
      · exact ⟨p, hplt, fun z hz hu => hx ⟨z, hz, hu⟩⟩
    obtain ⟨y, hy, hyl⟩ := hnew
    refine ⟨y :: l, by simp [hl], fun x hx => ?_, ?_⟩
    · rcases List.mem_cons.1 hx with rfl | hx
      · exact hy
      · exact hlt x hx
    · rw [List.pairwise_cons]
      exact ⟨hyl, hp.imp (fun h1 h2 => h1 (hmono _ _ h2))⟩

theorem moore2 {M : Mach} (hM : NxOk M) {a b : Nat} {ws : List Nat} (ha : a < M.n) (hb : b < M.n) (h : IsFirst M M a b ws) : ws.length + 1 ≤ M.n := by
  obtain ⟨l, hl, hlt, hp⟩ := moore_lists2 hM ha hb h ws.length (Nat.le_refl _)
  have hnd : l.Nodup := by
    rw [List.nodup_iff_pairwise_ne]
    refine hp.imp (fun {x y} h1 he => h1 ?_)
    subst he
    exact fun v _ _ => rfl
  have := nodup_lt_length M.n l hnd hlt
  omega


/-- Two machines beside each other, none of which leads into the other one. -/
def unionM (M K : Mach) : Mach where
  n := M.n + K.n
  k := M.k
  nx i j := if i < M.n then M.nx i j else M.n + K.nx (i - M.n) j
  sy i j := if i < M.n then M.sy i j else K.sy (i - M.n) j

theorem unionM_ok {M K : Mach} (hM : M.WF) (hK : K.WF) (hk : M.k = K.k) : NxOk (unionM M K) := by
  intro i hi j hj
  simp only [unionM] at hi hj ⊢
  split
  · rename_i h; have := hM.nx i h j hj; omega
  · rename_i h; have := hK.nx (i - M.n) (by omega) j (by omega); omega

theorem unionM_left {M K : Mach} (hM : M.WF) (ws : List Nat) : ∀ a, a < M.n → OkW M.k ws → anM (unionM M K) a ws = anM M a ws := by
  induction ws with
  | nil => intro a _ _; rfl
  | cons o ws ih =>
    intro a ha hw
    have ho := hw o (by simp)
    show (unionM M K).sy a o :: anM (unionM M K) ((unionM M K).nx a o) ws = M.sy a o :: anM M (M.nx a o) ws
    simp only [unionM, if_pos ha]
    congr 1
    exact ih _ (hM.nx a ha o ho) (fun x hx => hw x (by simp [hx]))

theorem unionM_right {M K : Mach} (ws : List Nat) : ∀ b, anM (unionM M K) (M.n + b) ws = anM K b ws := by
  induction ws with
  | nil => intro b; rfl
  | cons o ws ih =>
    intro b
    show (unionM M K).sy (M.n + b) o :: anM (unionM M K) ((unionM M K).nx (M.n + b) o) ws = K.sy b o :: anM K (K.nx b o) ws
    have h : ¬ (M.n + b < M.n) := by omega
    simp only [unionM, if_neg h]
    rw [show M.n + b - M.n = b by omega]
    congr 1
    exact ih _

theorem first_short {M K : Mach} (hM : M.WF) (hK : K.WF) (hk : M.k = K.k) {a b : Nat} (ha : a < M.n) (hb : b < K.n) {ws : List Nat} (h : IsFirst M K a b ws) : ws.length ≤ 15 := by
  have hU : IsFirst (unionM M K) (unionM M K) a (M.n + b) ws := by
    refine ⟨h.ok, ?_, fun v hv ht => ?_⟩
    · rw [unionM_left hM ws a ha h.ok, unionM_right]; exact h.tells
    · refine h.least v hv ?_
      rw [unionM_left hM v a ha hv, unionM_right] at ht; exact ht
  have := moore2 (unionM_ok hM hK hk) (a := a) (b := M.n + b) (by simp only [unionM]; omega) (by simp only [unionM]; omega) hU
  simp only [unionM] at this
  have := hM.n8; have := hK.n8
  omega

/-- What a run of a valid specification from 0 says. -/
theorem run_zero {s : RSpec} (hv : validM s = true) {ws : List Int} (hw : isWordM s.ops ws = true) : runE s 0 ws = 0 ∧ runL s 0 ws = anM (machOf s) 0 (toN ws) := by
  obtain ⟨⟨s1, s8, o1, o4⟩, _⟩ := valid_parts hv
  have hE : runE s 0 ws = 0 := by
    unfold runE
    rw [hv, hw, show inM s.st 0 = true by unfold inM; simp; omega]
    rfl
  refine ⟨hE, ?_⟩
  unfold runL
  rw [if_pos hE]
  rfl

/-- How two valid specifications stand to each other. -/
inductive Stand (s t : RSpec) (P : List Int) (pe : Int) : Prop
  | ops (h : s.ops ≠ t.ops) (hP : P = []) (he : pe = 2)
  | alike (h : s.ops = t.ops) (hn : NoTells (machOf s) (machOf t) 0 0) (hP : P = []) (he : pe = 5)
  | word (h : s.ops = t.ops) (ws : List Nat) (hf : IsFirst (machOf s) (machOf t) 0 0 ws) (hl : ws.length ≤ 15) (hP : P = ofN ws) (he : pe = 0)

theorem stand_of {s t : RSpec} (hv : validM s = true) (ht : validM t = true) {P : List Int} {pe : Int} (h : PairOf s t P pe) : Stand s t P pe := by
  have hb : (validM s && validM t) = true := by rw [hv, ht]; rfl
  by_cases ho : s.ops = t.ops
  · have hk : (machOf s).k = (machOf t).k := by simp only [machOf]; rw [ho]
    rcases h.word hb ho with ⟨he, ws, hf, hP⟩ | ⟨he, hP, hn⟩
    · exact .word ho ws hf (first_short (wf_machOf hv) (wf_machOf ht) hk (wf_machOf hv).n1 (wf_machOf ht).n1 hf) hP he
    · exact .alike ho hn hP he
  · obtain ⟨hP, he⟩ := h.ops hb ho
    exact .ops ho hP he

theorem pair_alike {s t : RSpec} (hv : validM s = true) (ht : validM t = true) (ho : s.ops = t.ops) (hn : NoTells (machOf s) (machOf t) 0 0) : PairOf s t [] 5 where
  bad h := by rw [hv, ht] at h; cases h
  ops _ h := absurd ho h
  word _ _ := .inr ⟨rfl, rfl, hn⟩

theorem eqSpec_iff {s t : RSpec} : eqSpec s t = true ↔ s = t := by
  unfold eqSpec sameLL
  simp only [Bool.and_eq_true, decide_eq_true_eq]
  constructor
  · rintro ⟨⟨⟨h1, h2⟩, h3⟩, h4⟩
    cases s; cases t
    simp_all
  · rintro rfl
    exact ⟨⟨⟨rfl, rfl⟩, rfl⟩, rfl⟩
end Go.Lin
namespace Go.Proofs.Ytnebpcpihldllaa
open Go.RowKit Go.Lin

theorem calls_some {P : Program} {f : FuncId} {args : Array Value} {w : World} {R : Ending → World → Prop} (h : Calls P f args w R) : ∃ e w', R e w' := by
  obtain ⟨e, w', _, hR, _⟩ := h []
  exact ⟨e, w', hR⟩

theorem least_words_exist {s : RSpec} {sv : Value} {w : World} (hs : IsSpec w sv s) (hv : validM s = true) : ∃ L, LeastW (machOf s) L := by
  obtain ⟨sB, cl, hS⟩ := sames_exist (machOf s)
  obtain ⟨_, _, L, _, _, hL, _⟩ := calls_some (least_ok s sB cl hS sv w hs hv)
  exact ⟨L, hL⟩

theorem least_exact (s : RSpec) (sB : Nat → Nat → Bool) (cl : Nat → Nat) (hS : Sames (machOf s) sB cl) (L : List (List Nat)) (hL : LeastW (machOf s) L) (sv : Value) (w : World) (hs : IsSpec w sv s) (hv : validM s = true) :
    Calls Try.prog 42 #[sv] w fun e w' => ∃ u, e = .returned (.tuple #[u, .int .i64 0]) ∧ IsSpec w' u (leastS s cl L) ∧ Grew w w' :=
  (least_ok s sB cl hS sv w hs hv).mono (fun e w' ⟨L', u, he, hL', hu, hg⟩ => by
    obtain rfl := hL.unique hL'
    exact ⟨u, he, hu, hg⟩)
end Go.Proofs.Ytnebpcpihldllaa
