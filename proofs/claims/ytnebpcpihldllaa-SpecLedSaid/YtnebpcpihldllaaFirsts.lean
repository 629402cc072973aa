/- Plain: the least machine: the first words of the classes, in their order, and what is built of them. A map from int to int that the call itself makes, and which of its keys are there. Of no program. Plain: of the states that are reached, in the order of their words, the first ones of their classes. -/
import Derived.Test.YtnebpcpihldllaaWays
import Derived.Test.YtnebpcpihldllaaWClass
import Derived.Test.YtnebpcpihldllaaMoore
import Derived.Test.YtnebpcpihldllaaMaps
import Derived.Maps.OwnSet
import Derived.Maps.OwnIn
import Derived.Test.YtnebpcpihldllaaWWays
namespace Go.Lin

/-- Two words lead to states that are the same. -/
def EqW (M : Mach) (u v : List Nat) : Prop := NoTells M M (stM M 0 u) (stM M 0 v)

theorem NoTells.symm {M : Mach} {a b : Nat} (h : NoTells M M a b) : NoTells M M b a := fun v hv => (h v hv).symm
theorem NoTells.trans {M : Mach} {a b c : Nat} (h : NoTells M M a b) (k : NoTells M M b c) : NoTells M M a c := fun v hv => (h v hv).trans (k v hv)
theorem NoTells.refl (M : Mach) (a : Nat) : NoTells M M a a := fun _ _ => rfl

theorem Sames.iff {M : Mach} {sB : Nat → Nat → Bool} {cl : Nat → Nat} (h : Sames M sB cl) (a b : Nat) : cl a = cl b ↔ NoTells M M a b := by
  have := (h.facts a b).1
  rw [← h.same, ← this]
  simp

theorem Sames.idem {M : Mach} {sB : Nat → Nat → Bool} {cl : Nat → Nat} (h : Sames M sB cl) (a : Nat) : cl (cl a) = cl a := (h.facts a a).2

theorem Sames.zero {M : Mach} {sB : Nat → Nat → Bool} {cl : Nat → Nat} (h : Sames M sB cl) : cl 0 = 0 := by have := h.le 0; omega

theorem Sames.next {M : Mach} {sB : Nat → Nat → Bool} {cl : Nat → Nat} (h : Sames M sB cl) {a b o : Nat} (he : cl a = cl b) (ho : o < M.k) : cl (M.nx a o) = cl (M.nx b o) := by
  rw [h.iff] at he ⊢
  exact (he.next ho).2

theorem OkW.append' {k : Nat} {ws vs : List Nat} (h : OkW k ws) (h' : OkW k vs) : OkW k (ws ++ vs) := fun x hx => (List.mem_append.1 hx).elim (h x) (h' x)

/-- L holds the first word of each class, in their order. -/
structure LeastW (M : Mach) (L : List (List Nat)) : Prop where
  ok : ∀ w ∈ L, OkW M.k w
  least : ∀ w ∈ L, ∀ v, OkW M.k v → EqW M v w → sle w v
  sorted : L.Pairwise sle
  apart : L.Pairwise fun u v => ¬ EqW M u v
  all : ∀ v, OkW M.k v → ∃ w ∈ L, EqW M v w

/-- Two lists in strict order with the same members are the same. -/
theorem strict_unique {α : Type} {R : α → α → Prop} (hR : ∀ x y, R x y → R y x → False) {xs ys : List α} (hx : xs.Pairwise R) (hy : ys.Pairwise R) (h : ∀ x, x ∈ xs ↔ x ∈ ys) : xs = ys := by
  induction xs generalizing ys with
  | nil =>
    cases ys with
    | nil => rfl
    | cons y ys => exact absurd ((h y).2 (by simp)) (by simp)
  | cons x xs ih =>
    cases ys with
    | nil => exact absurd ((h x).1 (by simp)) (by simp)
    | cons y ys =>
      rw [List.pairwise_cons] at hx hy
      have hxy : x = y := by
        have h1 : x ∈ y :: ys := (h x).1 (by simp)
        have h2 : y ∈ x :: xs := (h y).2 (by simp)
        rcases List.mem_cons.1 h1 with e | h1
        · exact e
        · rcases List.mem_cons.1 h2 with e | h2
          · exact e.symm
          · exact (hR _ _ (hy.1 _ h1) (hx.1 _ h2)).elim
      subst hxy
      congr 1
      refine ih hx.2 hy.2 (fun z => ?_)
      have := h z
      simp only [List.mem_cons] at this
      constructor
      · intro hz
        rcases this.1 (.inr hz) with e | e
        · subst e; exact (hR _ _ (hx.1 _ hz) (hx.1 _ hz)).elim
        · exact e
      · intro hz
        rcases this.2 (.inr hz) with e | e
        · subst e; exact (hR _ _ (hy.1 _ hz) (hy.1 _ hz)).elim
        · exact e

theorem LeastW.strict {M : Mach} {L : List (List Nat)} (h : LeastW M L) : L.Pairwise fun u v => sle u v ∧ u ≠ v := by
  have := List.Pairwise.and h.sorted h.apart
  exact this.imp (fun ⟨h1, h2⟩ => ⟨h1, fun e => h2 (by rw [e]; exact NoTells.refl _ _)⟩)

theorem LeastW.sub {M K : Mach} (hE : ∀ u v, OkW M.k u → OkW M.k v → (EqW M u v ↔ EqW K u v)) (hk : M.k = K.k) {L L' : List (List Nat)} (h : LeastW M L) (h' : LeastW K L') {w : List Nat} (hw : w ∈ L) : w ∈ L' := by
  obtain ⟨w', hw', he⟩ := h'.all w (hk ▸ h.ok w hw)
  have ok' : OkW M.k w' := hk ▸ h'.ok w' hw'
  have he2 := (hE w w' (h.ok w hw) ok').2 he
  have h1 := h.least w hw w' ok' (NoTells.symm he2)
  have h2 := h'.least w' hw' w (hk ▸ h.ok w hw) he
  rw [sle_antisymm h1 h2]; exact hw'

/-- The words are told by which words lead to states that are the same. -/
theorem LeastW.unique2 {M K : Mach} (hE : ∀ u v, OkW M.k u → OkW M.k v → (EqW M u v ↔ EqW K u v)) (hk : M.k = K.k) {L L' : List (List Nat)} (h : LeastW M L) (h' : LeastW K L') : L = L' :=
  strict_unique (R := fun u v => sle u v ∧ u ≠ v) (fun _ _ h1 h2 => h1.2 (sle_antisymm h1.1 h2.1)) h.strict h'.strict (fun _ => ⟨fun hw => h.sub hE hk h' hw, fun hw => h'.sub (fun u v hu hv => (hE u v (hk ▸ hu) (hk ▸ hv)).symm) hk.symm h hw⟩)

theorem LeastW.unique {M : Mach} {L L' : List (List Nat)} (h : LeastW M L) (h' : LeastW M L') : L = L' := h.unique2 (fun _ _ _ _ => Iff.rfl) rfl h'

/-- The number of the class of a state. -/
def posW (M : Mach) (cl : Nat → Nat) (L : List (List Nat)) (a : Nat) : Nat := (L.map fun w => cl (stM M 0 w)).idxOf (cl a)

section
variable {M : Mach} {sB : Nat → Nat → Bool} {cl : Nat → Nat} {L : List (List Nat)}

theorem LeastW.nil_first (h : LeastW M L) : ∃ L', L = [] :: L' := by
  obtain ⟨w, hw, he⟩ := h.all [] (fun x hx => by simp at hx)
  have h1 := h.least w hw [] (fun x hx => by simp at hx) he
  have h2 : w = [] := by
    have := sle_len h1
    exact List.eq_nil_of_length_eq_zero (by simpa using this)
  subst h2
  rcases L with _ | ⟨u, L'⟩
  · cases hw
  · rcases List.mem_cons.1 hw with e | hw
    · exact ⟨L', by rw [← e]⟩
    · have hp := h.strict
      rw [List.pairwise_cons] at hp
      have h3 := hp.1 [] hw
      have h4 := sle_len h3.1
      exact absurd (List.eq_nil_of_length_eq_zero (by simpa using h4)) h3.2

/-- The i-th word. -/
def nthW (L : List (List Nat)) (i : Nat) : List Nat := L.getD i []
theorem nthW_lt {L : List (List Nat)} {i : Nat} (h : i < L.length) : nthW L i = L[i] := by
  simp [nthW, List.getD, List.getElem?_eq_getElem h]
theorem nthW_mem {L : List (List Nat)} {i : Nat} (h : i < L.length) : nthW L i ∈ L := by rw [nthW_lt h]; exact List.getElem_mem h

/-- The state of the i-th class. -/
def repW (M : Mach) (L : List (List Nat)) (i : Nat) : Nat := stM M 0 (nthW L i)

theorem LeastW.rep_ne (h : LeastW M L) {i j : Nat} (hi : i < L.length) (hj : j < L.length) (hne : i ≠ j) : ¬ NoTells M M (repW M L i) (repW M L j) := by
  unfold repW
  rw [nthW_lt hi, nthW_lt hj]
  rcases Nat.lt_or_gt_of_ne hne with hlt | hlt
  · exact List.pairwise_iff_getElem.1 h.apart i j hi hj hlt
  · exact fun he => List.pairwise_iff_getElem.1 h.apart j i hj hi hlt (NoTells.symm he)

theorem LeastW.pos (hS : Sames M sB cl) (h : LeastW M L) {v : List Nat} (hv : OkW M.k v) : posW M cl L (stM M 0 v) < L.length ∧ cl (repW M L (posW M cl L (stM M 0 v))) = cl (stM M 0 v) := by
  obtain ⟨w, hw, he⟩ := h.all v hv
  have hmem : cl (stM M 0 v) ∈ L.map fun w => cl (stM M 0 w) := List.mem_map.2 ⟨w, hw, ((hS.iff _ _).2 he).symm⟩
  have hlt := List.idxOf_lt_length_of_mem hmem
  have hg := List.getElem_idxOf hlt
  rw [List.length_map] at hlt
  refine ⟨hlt, ?_⟩
  unfold repW
  rw [List.getElem_map] at hg
  rw [nthW_lt (by unfold posW; exact hlt)]
  exact hg

theorem LeastW.pos_eq (hS : Sames M sB cl) (h : LeastW M L) {v : List Nat} (hv : OkW M.k v) {i : Nat} (hi : i < L.length) (he : cl (repW M L i) = cl (stM M 0 v)) : posW M cl L (stM M 0 v) = i := by
  obtain ⟨h1, h2⟩ := h.pos hS hv
  by_cases e : posW M cl L (stM M 0 v) = i
  · exact e
  · exact absurd ((hS.iff _ _).1 (h2.trans he.symm)) (h.rep_ne h1 hi e)

theorem rep_step (h : LeastW M L) {i o : Nat} (hi : i < L.length) (ho : o < M.k) : M.nx (repW M L i) o = stM M 0 (nthW L i ++ [o]) ∧ OkW M.k (nthW L i ++ [o]) := by
  refine ⟨(stM_snoc _ _ _ _).symm, fun x hx => ?_⟩
  rcases List.mem_append.1 hx with hx | hx
  · exact h.ok _ (nthW_mem hi) x hx
  · simp at hx; subst hx; exact ho
end

/-! ### Tables -/

/-- A table of n rows of k numbers each. -/
def tabL (n k : Nat) (f : Nat → Nat → Int) : List (List Int) := (List.range n).map fun i => (List.range k).map fun o => f i o

theorem length_tabL (n k : Nat) (f : Nat → Nat → Int) : (tabL n k f).length = n := by simp [tabL]
theorem nthL_tabL {n k : Nat} {f : Nat → Nat → Int} {i : Nat} (hi : i < n) : nthL (tabL n k f) i = (List.range k).map fun o => f i o := by
  rw [nthL_lt (by simpa [tabL] using hi)]; simp [tabL]
theorem nth_range_map {k : Nat} {f : Nat → Int} {j : Nat} (hj : j < k) : nth ((List.range k).map f) j = f j := by
  rw [nth_lt (by simpa using hj)]; simp

theorem tabL_congr {n k : Nat} {f g : Nat → Nat → Int} (h : ∀ i, i < n → ∀ o, o < k → f i o = g i o) : tabL n k f = tabL n k g := by
  unfold tabL
  refine List.map_congr_left (fun i hi => List.map_congr_left (fun o ho => ?_))
  exact h i (by simpa using hi) o (by simpa using ho)

theorem table_tab {n k : Nat} {f : Nat → Nat → Int} {st ops lim : Int} (h1 : st = (n : Int)) (h2 : ops = (k : Int)) (h : ∀ i, i < n → ∀ o, o < k → 0 ≤ f i o ∧ f i o < lim) : isTableM st ops (tabL n k f) lim = true := by
  subst h1 h2
  refine isTableM_true (by simp [tabL]) (fun i hi => ?_)
  have hi' : i < n := by simpa [tabL] using hi
  rw [nthL_tabL hi']
  refine rowOK_true (by simp) (fun j hj => ?_)
  have hj' : j < k := by simpa using hj
  rw [nth_range_map hj']
  exact h i hi' j hj'

theorem valid_tab {n k : Nat} {f g : Nat → Nat → Int} {st ops : Int} (e1 : st = (n : Int)) (e2 : ops = (k : Int)) (h1 : 1 ≤ n) (h2 : n ≤ 8) (h3 : 1 ≤ k) (h4 : k ≤ 4) (hf : ∀ i, i < n → ∀ o, o < k → 0 ≤ f i o ∧ f i o < n) (hg : ∀ i, i < n → ∀ o, o < k → 0 ≤ g i o ∧ g i o < 6) :
    validM ⟨st, ops, tabL n k f, tabL n k g⟩ = true := by
  unfold validM
  rw [Bool.and_eq_true, Bool.and_eq_true]
  refine ⟨⟨decide_eq_true (by simp only []; omega), ?_⟩, ?_⟩
  · exact table_tab e1 e2 (fun i hi o ho => by rw [e1]; exact hf i hi o ho)
  · exact table_tab e1 e2 hg

theorem mach_tab {n k : Nat} {f g : Nat → Nat → Int} {st ops : Int} (e1 : st = (n : Int)) (e2 : ops = (k : Int)) :
    (machOf ⟨st, ops, tabL n k f, tabL n k g⟩).n = n ∧ (machOf ⟨st, ops, tabL n k f, tabL n k g⟩).k = k ∧
      ∀ i, i < n → ∀ o, o < k → (machOf ⟨st, ops, tabL n k f, tabL n k g⟩).nx i o = (f i o).toNat ∧ (machOf ⟨st, ops, tabL n k f, tabL n k g⟩).sy i o = g i o := by
  subst e1 e2
  refine ⟨by simp [machOf], by simp [machOf], fun i hi o ho => ⟨?_, ?_⟩⟩
  · simp only [machOf]; rw [nthL_tabL hi, nth_range_map ho]
  · simp only [machOf]; rw [nthL_tabL hi, nth_range_map ho]

theorem says_range {s : RSpec} (hv : validM s = true) {i o : Nat} (hi : i < (machOf s).n) (ho : o < (machOf s).k) : 0 ≤ (machOf s).sy i o ∧ (machOf s).sy i o < 6 := by
  obtain ⟨⟨s1, s8, o1, o4⟩, _, ⟨h5, h6⟩⟩ := valid_parts hv
  simp only [machOf] at hi ho ⊢
  obtain ⟨h7, h8⟩ := h6 i (by omega)
  exact h8 o (by omega)

/-! ### The least machine -/

def leastS (s : RSpec) (cl : Nat → Nat) (L : List (List Nat)) : RSpec where
  st := L.length
  ops := s.ops
  next := tabL L.length (machOf s).k fun i o => ((posW (machOf s) cl L ((machOf s).nx (repW (machOf s) L i) o) : Nat) : Int)
  says := tabL L.length (machOf s).k fun i o => (machOf s).sy (repW (machOf s) L i) o

section
variable {s : RSpec} {sB : Nat → Nat → Bool} {cl : Nat → Nat} {L : List (List Nat)}

theorem ops_k (hv : validM s = true) : s.ops = ((machOf s).k : Int) := by
  obtain ⟨⟨s1, s8, o1, o4⟩, _⟩ := valid_parts hv
  simp only [machOf]; omega

theorem st_n (hv : validM s = true) : s.st = ((machOf s).n : Int) := by
  obtain ⟨⟨s1, s8, o1, o4⟩, _⟩ := valid_parts hv
  simp only [machOf]; omega

theorem rep_lt (hv : validM s = true) (h : LeastW (machOf s) L) {i : Nat} (hi : i < L.length) : repW (machOf s) L i < (machOf s).n :=
  stM_lt (wf_machOf hv) (wf_machOf hv).n1 (h.ok _ (nthW_mem hi))

theorem least_count (hv : validM s = true) (h : LeastW (machOf s) L) : 1 ≤ L.length ∧ L.length ≤ (machOf s).n := by
  obtain ⟨L', hL'⟩ := h.nil_first
  refine ⟨by rw [hL']; simp, ?_⟩
  have := nodup_lt_length (machOf s).n (L.map (stM (machOf s) 0)) ?_ ?_
  · simpa using this
  · rw [List.nodup_iff_pairwise_ne, List.pairwise_map]
    exact h.apart.imp (fun h1 he => h1 (by unfold EqW; rw [he]; exact NoTells.refl _ _))
  · intro x hx
    obtain ⟨w, hw, rfl⟩ := List.mem_map.1 hx
    exact stM_lt (wf_machOf hv) (wf_machOf hv).n1 (h.ok w hw)

theorem least_facts (hv : validM s = true) (hS : Sames (machOf s) sB cl) (h : LeastW (machOf s) L) :
    validM (leastS s cl L) = true ∧ (machOf (leastS s cl L)).n = L.length ∧ (machOf (leastS s cl L)).k = (machOf s).k ∧
      ∀ i, i < L.length → ∀ o, o < (machOf s).k → (machOf (leastS s cl L)).nx i o = posW (machOf s) cl L ((machOf s).nx (repW (machOf s) L i) o) ∧ (machOf (leastS s cl L)).sy i o = (machOf s).sy (repW (machOf s) L i) o := by
  have hM := wf_machOf hv
  obtain ⟨c1, c2⟩ := least_count hv h
  obtain ⟨m1, m2, m3⟩ := mach_tab (n := L.length) (k := (machOf s).k) (f := fun i o => ((posW (machOf s) cl L ((machOf s).nx (repW (machOf s) L i) o) : Nat) : Int)) (g := fun i o => (machOf s).sy (repW (machOf s) L i) o) (st := L.length) (ops := s.ops) rfl (ops_k hv)
  refine ⟨valid_tab rfl (ops_k hv) c1 (Nat.le_trans c2 hM.n8) hM.k1 hM.k4 (fun i hi o ho => ?_) (fun i hi o ho => says_range hv (rep_lt hv h hi) ho), m1, m2, fun i hi o ho => ?_⟩
  · obtain ⟨e, hok⟩ := rep_step h hi ho
    have := (h.pos hS hok).1
    rw [e]
    omega
  · have := m3 i hi o ho
    exact ⟨this.1.trans (by simp), this.2⟩

/-- The i-th state of the least machine answers as the first one of its class. -/
theorem least_answers (hv : validM s = true) (hS : Sames (machOf s) sB cl) (h : LeastW (machOf s) L) (v : List Nat) : ∀ i, i < L.length → OkW (machOf s).k v → anM (machOf (leastS s cl L)) i v = anM (machOf s) (repW (machOf s) L i) v ∧
    stM (machOf (leastS s cl L)) i v < L.length ∧ cl (repW (machOf s) L (stM (machOf (leastS s cl L)) i v)) = cl (stM (machOf s) (repW (machOf s) L i) v) := by
  obtain ⟨_, _, _, hf⟩ := least_facts hv hS h
  induction v with
  | nil => intro i hi _; exact ⟨rfl, hi, rfl⟩
  | cons o v ih =>
    intro i hi hw
    have ho := hw o (by simp)
    have hvok : OkW (machOf s).k v := fun x hx => hw x (by simp [hx])
    obtain ⟨f1, f2⟩ := hf i hi o ho
    obtain ⟨e, hok⟩ := rep_step h hi ho
    obtain ⟨p1, p2⟩ := h.pos hS hok
    rw [← e] at p1 p2
    obtain ⟨i1, i2, i3⟩ := ih _ p1 hvok
    have hnt := (hS.iff _ _).1 p2
    refine ⟨?_, ?_, ?_⟩
    · show (machOf (leastS s cl L)).sy i o :: anM (machOf (leastS s cl L)) ((machOf (leastS s cl L)).nx i o) v = (machOf s).sy (repW (machOf s) L i) o :: anM (machOf s) ((machOf s).nx (repW (machOf s) L i) o) v
      rw [f2, f1, i1, hnt v hvok]
    · show stM (machOf (leastS s cl L)) ((machOf (leastS s cl L)).nx i o) v < _
      rw [f1]; exact i2
    · show cl (repW (machOf s) L (stM (machOf (leastS s cl L)) ((machOf (leastS s cl L)).nx i o) v)) = cl (stM (machOf s) ((machOf s).nx (repW (machOf s) L i) o) v)
      rw [f1, i3]
      clear i1 i2 i3 f1 f2
      refine (hS.iff _ _).2 (fun x hx => ?_)
      have h3 := hnt (v ++ x) (hvok.append' hx)
      rw [anM_append, anM_append] at h3
      exact (List.append_inj h3 (by rw [length_anM, length_anM])).2
end
end Go.Lin
namespace Go.Lin
open Go Go.RowKit Go.Maps

/-- Block b is a map that says v at the key x if 'S x' is 'some v', and has no such key if it is 'none'. -/
def OMap {α : Type} (w : World) (P : Program) (kt et : TypeId) (b n : Nat) (enc : α → Value) (S : α → Option Nat) : Prop :=
  ∃ D : DataW Unit, w.ownsMap P kt (plainElem P et) b n D ∧ IsMap D ∧ ∀ x l, keyOf P kt (enc x) = some l → (S x = none → has D l = false) ∧ ∀ v, S x = some v → ∀ z, D.atKey l z = .lit (.int .i64 (v : Int))

section
variable {α : Type} {w : World} {P : Program} {kt et : TypeId} {b n : Nat} {enc : α → Value} {S : α → Option Nat}

theorem OMap.made (w : World) (P : Program) (kt et : TypeId) (enc : α → Value) : OMap (w.alloc (.map #[] 0)) P kt et w.heap.size 0 enc (fun _ => none) :=
  ⟨.map [], World.ownsMap_made w P kt _, isMap_empty, fun _ _ _ => ⟨fun _ => rfl, fun _ h => by cases h⟩⟩

theorem OMap.obj (h : OMap w P kt et b n enc S) : ∃ es c, w.heap[b]? = some (.map es c) := by
  obtain ⟨D, ⟨es, c, h1, _⟩, _⟩ := h
  exact ⟨es, c, h1⟩

theorem OMap.lt (h : OMap w P kt et b n enc S) : b < w.heap.size := by
  obtain ⟨D, h1, _⟩ := h
  exact h1.lt

theorem OMap.mono (h : OMap w P kt et b n enc S) {m : Nat} (hm : n ≤ m) : OMap w P kt et b m enc S := by
  obtain ⟨D, h1, h2⟩ := h
  exact ⟨D, h1.mono hm, h2⟩

theorem OMap.keeps {may : Nat → Obj → Prop} {w' : World} (h : OMap w P kt et b n enc S) (hk : Keeps may w w') (hm : ∀ es c, ¬ may b (.map es c)) : OMap w' P kt et b n enc S := by
  obtain ⟨D, ⟨es, c, h1, h2⟩, h3⟩ := h
  exact ⟨D, ⟨es, c, hk.obj b _ h1 (hm es c), h2⟩, h3⟩

theorem OMap.grew {w' : World} (h : OMap w P kt et b n enc S) (hk : Grew w w') : OMap w' P kt et b n enc S := by
  obtain ⟨D, ⟨es, c, h1, h2⟩, h3⟩ := h
  exact ⟨D, ⟨es, c, (hk.block b (lt_of_obj h1)).trans h1, h2⟩, h3⟩

theorem OMap.congr {S' : α → Option Nat} (h : OMap w P kt et b n enc S) (hS : ∀ x, S x = S' x) : OMap w P kt et b n enc S' := by
  obtain ⟨D, h1, h2, h3⟩ := h
  exact ⟨D, h1, h2, fun x l hl => by rw [← hS]; exact h3 x l hl⟩

theorem OMap.update (h : OMap w P kt et b n enc S) (K : Keyed P kt) {t : TypeId} (ht : P.underlying t = some (.map kt et)) (he : P.underlying et = some (.int .i64)) (hn : n < maxLen) {x : α} {kl : Lit} (hkey : keyOf P kt (enc x) = some kl)
    (hinj : ∀ y, enc y = enc x → y = x) {e : Nat} (hlt : e < 1000000) {S' : α → Option Nat} (h1 : S' x = some e) (h2 : ∀ y, y ≠ x → S' y = S y) :
    ∃ w', (Instr.mapUpdate t (.map (some b)) (enc x) (.int .i64 (e : Int))).run P w = .ok () w' ∧ OMap w' P kt et b (n + 1) enc S' ∧ w.grownBy w' (some b) := by
  obtain ⟨D, hown, hD, hS⟩ := h
  have hv : plainElem (H := Unit) P et (.int .i64 (e : Int)) = some (.lit (.int .i64 (e : Int)), []) := plainElem_int he (WalkArith.wf_i64 (by omega))
  obtain ⟨w', hrun, r1, r2⟩ := hown.update K ht hn hkey hv
  refine ⟨w', hrun, ⟨_, r1, hD.put kl _, fun y l hl => ?_⟩, r2⟩
  by_cases hy : l = kl
  · subst hy
    have hyx : y = x := hinj y (K.inj hl hkey)
    subst hyx
    refine ⟨fun h => by rw [h1] at h; (cases h), fun v hv z => ?_⟩
    rw [h1] at hv
    cases hv
    rw [atKey_put_same hD (K.key hkey)]
  · have hyx : y ≠ x := by
      rintro rfl
      rw [hl] at hkey
      exact hy (Option.some.inj hkey)
    rw [h2 y hyx]
    refine ⟨fun h => ?_, fun v hv z => ?_⟩
    · rw [has_put_other hy]; exact (hS y l hl).1 h
    · rw [atKey_put_other hy]; exact (hS y l hl).2 v hv z

theorem OMap.look_ok (h : OMap w P kt et b n enc S) (K : Keyed P kt) {t : TypeId} (ht : P.underlying t = some (.map kt et)) (he : P.underlying et = some (.int .i64)) (hz : (zeroValue et).run P w = .ok (.int .i64 0) w)
    {x : α} {kl : Lit} (hkey : keyOf P kt (enc x) = some kl) : (Instr.lookup t (.map (some b)) (enc x) true).run P w = .ok (.tuple #[.int .i64 (((S x).getD 0 : Nat) : Int), .bool (S x).isSome]) w := by
  obtain ⟨D, hown, hD, hS⟩ := h
  obtain ⟨v, ps, hrun, hv⟩ := hown.look_ok K ht hz (plainElem_int he (by decide)) hkey
  obtain ⟨h1, h2⟩ := hS x kl hkey
  obtain ⟨c, rfl, hc, _⟩ := plainElem_int_inv he hv
  replace hc := congrArg Prod.fst hc
  simp only [] at hc
  rw [hrun]
  cases hs : S x with
  | none =>
    have h3 := h1 hs
    rw [atKey_of_not_has h3] at hc
    cases hc
    rw [h3]; rfl
  | some e =>
    have h3 := h2 e hs
    rw [h3] at hc
    cases hc
    rw [has_true_of_atKey h3]; rfl

theorem OMap.look (h : OMap w P kt et b n enc S) (K : Keyed P kt) {t : TypeId} (ht : P.underlying t = some (.map kt et)) (he : P.underlying et = some (.int .i64)) (hz : (zeroValue et).run P w = .ok (.int .i64 0) w)
    {x : α} {kl : Lit} (hkey : keyOf P kt (enc x) = some kl) : (Instr.lookup t (.map (some b)) (enc x) false).run P w = .ok (.int .i64 (((S x).getD 0 : Nat) : Int)) w := by
  obtain ⟨D, hown, hD, hS⟩ := h
  obtain ⟨c, hrun, hc, _⟩ := hown.lookup_int K ht he hz hkey
  obtain ⟨h1, h2⟩ := hS x kl hkey
  rw [hrun]
  cases hs : S x with
  | none =>
    have h3 := h1 hs
    rw [atKey_of_not_has h3] at hc
    cases hc; rfl
  | some e =>
    have h3 := h2 e hs
    rw [h3] at hc
    cases hc; rfl
end
end Go.Lin
namespace Go.Lin

/-- The entries that are the first ones of their classes. -/
def firsts (cl : Nat → Nat) (xs : List WX) : List WX := xs.foldl (fun F x => if F.any (fun y => cl y.1.1 == cl x.1.1) then F else F ++ [x]) []

theorem firsts_nil (cl : Nat → Nat) : firsts cl [] = [] := rfl

theorem firsts_snoc (cl : Nat → Nat) (xs : List WX) (x : WX) : firsts cl (xs ++ [x]) = if (firsts cl xs).any (fun y => cl y.1.1 == cl x.1.1) then firsts cl xs else firsts cl xs ++ [x] := by
  unfold firsts
  rw [List.foldl_append]
  rfl

theorem snoc_cases {α : Type} {p : List α → Prop} (h0 : p []) (h1 : ∀ xs x, p xs → p (xs ++ [x])) (xs : List α) : p xs := by
  have : ∀ n (xs : List α), xs.length = n → p xs := by
    intro n
    induction n with
    | zero => intro xs h; rw [List.eq_nil_of_length_eq_zero h]; exact h0
    | succ n ih =>
      intro xs h
      have hne : xs ≠ [] := by intro e; rw [e] at h; simp at h
      rw [← List.dropLast_concat_getLast hne]
      exact h1 _ _ (ih _ (by rw [List.length_dropLast, h]; rfl))
  exact this _ xs rfl

theorem firsts_sublist (cl : Nat → Nat) (xs : List WX) : (firsts cl xs).Sublist xs := by
  induction xs using snoc_cases with
  | h0 => exact List.Sublist.slnil
  | h1 xs x ih =>
    rw [firsts_snoc]
    split
    · exact ih.trans (List.sublist_append_left _ _)
    · exact ih.append_right [x]

theorem firsts_apart (cl : Nat → Nat) (xs : List WX) : (firsts cl xs).Pairwise fun x y => cl x.1.1 ≠ cl y.1.1 := by
  induction xs using snoc_cases with
  | h0 => exact List.Pairwise.nil
  | h1 xs x ih =>
    rw [firsts_snoc]
    split
    · exact ih
    · rename_i h
      rw [List.pairwise_append]
      refine ⟨ih, by simp, fun y hy z hz => ?_⟩
      simp only [List.mem_singleton] at hz
      subst hz
      intro e
      exact h (List.any_eq_true.2 ⟨y, hy, by simp [e]⟩)

theorem firsts_all (cl : Nat → Nat) (xs : List WX) (hs : xs.Pairwise fun x y => sle x.1.2.2 y.1.2.2) : ∀ x ∈ xs, ∃ y ∈ firsts cl xs, cl y.1.1 = cl x.1.1 ∧ sle y.1.2.2 x.1.2.2 := by
  induction xs using snoc_cases with
  | h0 => intro x hx; cases hx
  | h1 xs x ih =>
    rw [List.pairwise_append] at hs
    have ih := ih hs.1
    intro z hz
    rw [firsts_snoc]
    rcases List.mem_append.1 hz with hz | hz
    · obtain ⟨y, hy, h1, h2⟩ := ih z hz
      refine ⟨y, ?_, h1, h2⟩
      split
      · exact hy
      · exact List.mem_append_left _ hy
    · simp only [List.mem_singleton] at hz
      subst hz
      split
      · rename_i h
        obtain ⟨y, hy, he⟩ := List.any_eq_true.1 h
        exact ⟨y, hy, by simpa using he, hs.2.2 y ((firsts_sublist cl xs).subset hy) z (by simp)⟩
      · exact ⟨z, by simp, rfl, sle_refl _⟩

/-- The words of the first ones. -/
def firstWords (cl : Nat → Nat) (xs : List WX) : List (List Nat) := (firsts cl xs).map fun y => y.1.2.2

theorem least_firsts {M : Mach} {sB : Nat → Nat → Bool} {cl : Nat → Nat} (hS : Sames M sB cl) {xs : List WX} (h : AllWays M xs) : LeastW M (firstWords cl xs) := by
  have way : ∀ y ∈ firsts cl xs, IsWay M y.1.1 y.1.2.2 := fun y hy => (h.ways y ((firsts_sublist cl xs).subset hy)).1
  have ap := firsts_apart cl xs
  have cover : ∀ v, OkW M.k v → ∃ y ∈ firsts cl xs, cl y.1.1 = cl (stM M 0 v) ∧ sle y.1.2.2 v := by
    intro v hv
    obtain ⟨x, hx, he⟩ := List.mem_map.1 (h.all v hv)
    obtain ⟨y, hy, h1, h2⟩ := firsts_all cl xs h.sorted x hx
    refine ⟨y, hy, by rw [h1, he], sle_trans h2 ?_⟩
    exact (h.ways x hx).1.least v hv he.symm
  refine ⟨?_, ?_, ?_, ?_, ?_⟩
  · intro w hw
    obtain ⟨y, hy, rfl⟩ := List.mem_map.1 hw
    exact (way y hy).ok
  · intro w hw v hv he
    obtain ⟨y, hy, rfl⟩ := List.mem_map.1 hw
    obtain ⟨z, hz, h1, h2⟩ := cover v hv
    have h3 := (hS.iff _ _).2 he
    rw [(way y hy).leads, ← h1] at h3
    have : z = y := by
      obtain ⟨i, hi, rfl⟩ := List.getElem_of_mem hz
      obtain ⟨j, hj, rfl⟩ := List.getElem_of_mem hy
      rcases Nat.lt_trichotomy i j with h4 | h4 | h4
      · exact absurd h3 (List.pairwise_iff_getElem.1 ap i j hi hj h4)
      · subst h4; rfl
      · exact absurd h3.symm (List.pairwise_iff_getElem.1 ap j i hj hi h4)
    rw [← this]; exact h2
  · unfold firstWords
    rw [List.pairwise_map]
    exact h.sorted.sublist (firsts_sublist cl xs)
  · unfold firstWords
    rw [List.pairwise_map]
    refine List.Pairwise.imp_of_mem (fun {a b} ha hb hne he => hne ?_) ap
    have := (hS.iff _ _).2 he
    rwa [(way a ha).leads, (way b hb).leads] at this
  · intro v hv
    obtain ⟨y, hy, h1, _⟩ := cover v hv
    refine ⟨_, List.mem_map_of_mem hy, (hS.iff _ _).1 ?_⟩
    rw [(way y hy).leads, h1]

/-- The classes that have come, in their order, and the number of each. -/
def clsOf (cl : Nat → Nat) (xs : List WX) : List Nat := (firsts cl xs).map fun y => cl y.1.1
def numO (cs : List Nat) (c : Nat) : Option Nat := if c ∈ cs then some (cs.idxOf c) else none

theorem numO_some {cs : List Nat} {c : Nat} (h : c ∈ cs) : numO cs c = some (cs.idxOf c) := if_pos h
theorem numO_none {cs : List Nat} {c : Nat} (h : c ∉ cs) : numO cs c = none := if_neg h

theorem numO_new {cs : List Nat} {c : Nat} (h : c ∉ cs) : numO (cs ++ [c]) c = some cs.length := by
  rw [numO_some (by simp), List.idxOf_append, if_neg h]
  simp

theorem numO_old {cs : List Nat} {c d : Nat} (h : d ≠ c) : numO (cs ++ [c]) d = numO cs d := by
  by_cases hd : d ∈ cs
  · rw [numO_some hd, numO_some (by simp [hd]), List.idxOf_append, if_pos hd]
  · rw [numO_none hd, numO_none (by simp [hd, h])]

theorem clsOf_old {cl : Nat → Nat} {xs : List WX} {x : WX} (h : cl x.1.1 ∈ clsOf cl xs) : firsts cl (xs ++ [x]) = firsts cl xs := by
  rw [firsts_snoc, if_pos]
  obtain ⟨y, hy, he⟩ := List.mem_map.1 h
  exact List.any_eq_true.2 ⟨y, hy, by simp [he]⟩

theorem clsOf_new {cl : Nat → Nat} {xs : List WX} {x : WX} (h : cl x.1.1 ∉ clsOf cl xs) : firsts cl (xs ++ [x]) = firsts cl xs ++ [x] := by
  rw [firsts_snoc, if_neg]
  intro ha
  obtain ⟨y, hy, he⟩ := List.any_eq_true.1 ha
  exact h (List.mem_map.2 ⟨y, hy, by simpa using he⟩)

/-- The cells of the first states. -/
def firstCells (F : List WX) : List Value := F.map fun y => .int .i64 (y.1.1 : Int)
end Go.Lin
