/- Walk of the reference: Way (53). -/
import Derived.Test.YtojkohpniokaaaaPgRef8
import Derived.Test.YtojkohpniokaaaaPgBfsP
import Derived.Deep.OwnRows
namespace Go.Proofs.Ytojkohpniokaaaa
open Go Go.RowKit Go.Lin Go.Lin.Pg

abbrev Lg := Leg × Value
/-- The way's slice that the table holds for a place. -/
def wvP (all : List Lg) (i : Nat) : Value := match all.find? (fun x => x.1.1 == (i : Int)) with
  | some x => x.2
  | none => .slice none 0 0
def seenP (all : List Lg) (i : Nat) : Bool := all.any (fun x => x.1.1 == (i : Int))

theorem seenP_map {all : List Lg} {i : Nat} : (all.map (·.1)).any (fun f => f.1 == (i : Int)) = seenP all i := by
  unfold seenP; rw [List.any_map]; rfl

theorem wvP_mem {all : List Lg} (hn : (all.map (fun x => x.1.1)).Nodup) {x : Lg} (hx : x ∈ all) {i : Nat} (hi : x.1.1 = (i : Int)) : wvP all i = x.2 := by
  induction all with
  | nil => cases hx
  | cons y all ih =>
    rw [List.map_cons, List.nodup_cons] at hn
    unfold wvP
    rcases List.mem_cons.1 hx with rfl | hx
    · simp [hi]
    · have hne : (y.1.1 == (i : Int)) = false := by
        rw [beq_eq_false_iff_ne]
        intro e
        exact hn.1 (by rw [e, ← hi]; exact List.mem_map_of_mem (f := fun z : Lg => z.1.1) hx)
      rw [List.find?_cons, hne]
      exact ih hn.2 hx

theorem wvP_none {all : List Lg} {i : Nat} (h : seenP all i = false) : wvP all i = .slice none 0 0 := by
  unfold wvP
  have : all.find? (fun x => x.1.1 == (i : Int)) = none := by
    rw [List.find?_eq_none]
    intro x hx he
    unfold seenP at h
    rw [List.any_eq_false] at h
    exact h x hx he
  rw [this]

theorem wvP_new {all : List Lg} {y : Lg} {q : Nat} (hq : y.1.1 = (q : Int)) (hn : seenP all q = false) (i : Nat) : wvP (all ++ [y]) i = if i = q then y.2 else wvP all i := by
  unfold wvP
  rw [List.find?_append]
  by_cases h : i = q
  · subst h
    rw [if_pos rfl]
    have : all.find? (fun x => x.1.1 == (i : Int)) = none := by
      rw [List.find?_eq_none]
      intro x hx he
      unfold seenP at hn
      rw [List.any_eq_false] at hn
      exact hn x hx he
    rw [this]
    simp [hq]
  · rw [if_neg h]
    have h2 : (y.1.1 == (i : Int)) = false := by rw [beq_eq_false_iff_ne, hq]; omega
    cases hf : all.find? (fun x => x.1.1 == (i : Int)) with
    | some x => simp
    | none => simp [h2]

theorem seenP_new {all : List Lg} {y : Lg} {q : Nat} (hq : y.1.1 = (q : Int)) (i : Nat) : seenP (all ++ [y]) i = if i = q then true else seenP all i := by
  unfold seenP
  rw [List.any_append]
  by_cases h : i = q
  · subst h; simp [hq]
  · rw [if_neg h]
    have h2 : (y.1.1 == (i : Int)) = false := by rw [beq_eq_false_iff_ne, hq]; omega
    simp [h2]

/-- What holds at the head of the loops. nb: the block of the line that grows. -/
structure PLine (ms : List Mv) (N : Nat) (W0 wr : World) (bT bW : Nat) (nb : Option Nat) (done L : List Lg) (H : Leg → Nat → Prop) : Prop where
  grew : Grew W0 wr
  lowT : W0.heap.size ≤ bT
  lowW : W0.heap.size ≤ bW
  inv : GInv ms (fun _ => true) 0 ((done ++ L).map (·.1)) H
  there : wr.rowIs bT 4 N (fun i => .bool (seenP (done ++ L) i))
  table : wr.rowIs bW 25 N (wvP (done ++ L))
  words : ∀ x ∈ done ++ L, WdOff (fun k o => nb ≠ some k ∧ IntCells k o) wr x.2 (pInts x.1.2)

/-- The places of a line, as cells. -/
def cellsP (L : List Lg) : List Value := L.map fun x => .int .i64 x.1.1

theorem cellsP_eq (L : List Lg) : cellsP L = (L.map (fun x => x.1.1)).map (.int .i64) := by simp [cellsP]

theorem rowIs_keeps {may : Nat → Obj → Prop} {w w' : World} {b : Nat} {t : TypeId} {n : Nat} {f : Nat → Value} (h : w.rowIs b t n f) (hk : Keeps may w w') (hm : ∀ c, ¬ may b (.cells c t (0, 0))) : w'.rowIs b t n f := by
  obtain ⟨c, hb, h2⟩ := h
  exact ⟨c, hk.obj _ _ hb (hm c), h2⟩

/-- The two tables' blocks. -/
def TabsP (bT bW : Nat) : Nat → Obj → Prop := fun k o => (k = bT ∧ ∃ c fr, o = .cells c 4 fr) ∨ (k = bW ∧ ∃ c fr, o = .cells c 25 fr)

theorem TabsP.not3 {bT bW k : Nat} {c : Array Value} {fr : Nat × Nat} (h : TabsP bT bW k (.cells c 3 fr)) : False := by
  rcases h with ⟨_, c', fr', h⟩ | ⟨_, c', fr', h⟩ <;> cases h

theorem pInts_snoc (l : List Nat) (i : Nat) : pInts (l ++ [i]) = pInts l ++ [(i : Int)] := by simp [pInts]
theorem pInts_len (l : List Nat) : (pInts l).length = l.length := by simp [pInts]

/-- A place is new: it goes to the end of the line. -/
theorem PLine.push {ms : List Mv} {N : Nat} {W0 wr w9 : World} {bT bW : Nat} {nb nb' : Option Nat} {done tail : List Lg} {h : Lg} {op q : Nat} {m : Mv} {v7 : Value}
    (hl : PLine ms N W0 wr bT bW nb done (h :: tail) (Tried (done.map (·.1)) h.1 op)) (hm : ms[op]? = some m) (hf : fr m = h.1.1) (hq : tg m = (q : Int)) (hseen : seenP (done ++ h :: tail) q = false)
    (hk : Keeps (fun k o => TabsP bT bW k o ∨ nb = some k) wr w9) (hnb0 : ∀ k, nb = some k → W0.heap.size ≤ k)
    (hT : w9.rowIs bT 4 N (fun i => if i = q then .bool true else .bool (seenP (done ++ h :: tail) i)))
    (hW : w9.rowIs bW 25 N (fun i => if i = q then v7 else wvP (done ++ h :: tail) i))
    (hnew : WdOff (fun k o => nb' ≠ some k ∧ IntCells k o) w9 v7 (pInts (h.1.2 ++ [op])))
    (hnb' : nb' = nb ∨ ∃ k, nb' = some k ∧ wr.heap.size ≤ k) :
    PLine ms N W0 w9 bT bW nb' done (h :: (tail ++ [((tg m, h.1.2 ++ [op]), v7)])) (Tried (done.map (·.1)) h.1 (op + 1)) := by
  have hall : done ++ h :: (tail ++ [((tg m, h.1.2 ++ [op]), v7)]) = (done ++ h :: tail) ++ [((tg m, h.1.2 ++ [op]), v7)] := by simp
  refine ⟨hl.grew.trans (hk.below hl.grew.size (fun k o hm => ?_)), hl.lowT, hl.lowW, ?_, ?_, ?_, ?_⟩
  · rcases hm with (⟨rfl, _⟩ | ⟨rfl, _⟩) | hm
    · exact hl.lowT
    · exact hl.lowW
    · exact hnb0 k hm
  · have hi := hl.inv
    rw [List.map_append, List.map_cons] at hi ⊢
    rw [List.map_append]
    refine bfs_new hi hm hf ?_
    rw [hq]
    have h2 := seenP_map (all := done ++ h :: tail) (i := q)
    rw [List.map_append, List.map_cons] at h2
    rw [h2, hseen]
  · rw [hall]
    refine hT.congr (fun i _ => ?_)
    rw [seenP_new (q := q) hq]
    by_cases e : i = q
    · rw [if_pos e, if_pos e]
    · rw [if_neg e, if_neg e]
  · rw [hall]
    refine hW.congr (fun i _ => ?_)
    rw [wvP_new (q := q) hq hseen]
  · rw [hall]
    intro x hx
    rcases List.mem_append.1 hx with hx | hx
    · refine (((hl.words x hx).re (S' := fun k o => (nb ≠ some k ∧ nb' ≠ some k) ∧ IntCells k o) (fun k o ho hs => ⟨⟨hs.1, ?_⟩, hs.2⟩)).keeps hk (fun k o hs hm => ?_)).re (fun k o _ hs => ⟨hs.1.2, hs.2⟩)
      · rcases hnb' with e | ⟨k', e, hk'⟩
        · rw [e]; exact hs.1
        · rw [e]; intro he; cases he; have := lt_of_obj ho; omega
      · obtain ⟨c, fr, ho⟩ := hs.2
        rcases hm with hm | hm
        · rw [ho] at hm; exact hm.not3
        · exact hs.1.1 hm
    · simp only [List.mem_singleton] at hx
      subst hx
      exact hnew

/-- A slice of numbers as the source of an append. -/
theorem src_reads {S : Nat → Obj → Prop} {w : World} {a : Option Addr} {n c : Nat} {f : Nat → Value} (h : Reads S w (.slice a n c) n f) (h1 : ∀ i, (f i).oneCell' = true) : Src Try.prog 1 25 (.slice a n c) n ((List.range n).map f) w := by
  obtain ⟨a', c', hv, _, hc⟩ := h
  simp only [Value.slice.injEq, true_and] at hv
  obtain ⟨rfl, rfl⟩ := hv
  rcases a with _ | ad
  · have h0 : n = 0 := by
      rcases Nat.eq_zero_or_pos n with h | h
      · exact h
      · obtain ⟨_, _, _, h2, _⟩ := hc 0 h; cases h2
    subst h0
    exact Src.ofNil _ Try.underlying25 c
  · refine Src.ofSlice _ Try.underlying25 ad n c _ (by simp) ?_ ?_
    · intro j u hj
      have hjn : j < n := by have := (List.getElem?_eq_some_iff.1 hj).1; simpa using this
      simp only [List.getElem?_map, List.getElem?_range hjn, Option.map_some, Option.some.injEq] at hj
      obtain ⟨b, off, o, h2, h3, _, h5⟩ := hc j hjn
      cases h2
      rw [Addr.add_lit, h5, hj]
    · intro u hu
      obtain ⟨i, _, rfl⟩ := List.mem_map.1 hu
      exact h1 i

theorem keeps_setAt {may : Nat → Obj → Prop} (W : World) (a : Addr) (v : Value) (hm : ∀ o, W.heap[a.block]? = some o → may a.block o) : Keeps may W (W.setCell a v) :=
  ⟨rfl, rfl, rfl, by simp [World.setCell], fun k x hk hn => by
    by_cases e : k = a.block
    · subst e; exact absurd (hm _ hk) hn
    · simp [World.setCell, Array.getElem?_modify, Ne.symm e, hk]⟩

theorem seg_empty (w : World) : Seg (w.alloc (.cells #[] 3)) w.heap.size 3 1 (.slice (some ⟨w.heap.size, 0, none⟩) 0 0) 0 [] :=
  ⟨by simp, .inr ⟨w.heap.size, 0, 0, #[], rfl, Nat.le_refl _, heap_alloc_new w _, Nat.le_refl _, by unfold maxLen; omega, by simp, by simp⟩⟩

end Go.Proofs.Ytojkohpniokaaaa
