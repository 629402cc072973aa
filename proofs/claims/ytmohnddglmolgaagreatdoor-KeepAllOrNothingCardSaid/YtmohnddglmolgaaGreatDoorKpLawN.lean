/- What holds in the loop of KeepAllOrNothing. -/
import Derived.Test.YtmohnddglmolgaaGreatDoorKpStays
import Derived.Deep.RegionHeld3
namespace Go.Lin.Kp
open Go Go.Lin

/-- A plan is made between two deeds. -/
theorem planned_fine {M : Mem} {b : Bk} {l c : List Int} {k : Int} (h : Fine M b l) (hk : 1 ≤ k ∧ k ≤ 1000) (hc : areEarly c = true) : (M.planned k c).1 = 0 ∧ Fine (M.planned k c).2 b l := by
  have ho := ok_planned h.ok k c
  have hm : mayPlan k c = true := by unfold mayPlan; rw [hc]; simp [hk.1, hk.2]
  unfold Mem.planned at ho ⊢
  rw [if_pos hm, if_pos h.on] at ho ⊢
  obtain ⟨K, hM, hr, h4⟩ := h.mem
  exact ⟨rfl, ho, h.on, h.bk, h.list, h.era, K, ⟨ho, h.on, hM.fresh, hM.kept, hM.notes⟩, hr, h4⟩

/-- Opening behind a failure. -/
theorem down_open {M0 M : Mem} {K : Nat → Int} {l : List Int} (hd : Down M0 M K) (hr : Rec K l) : ∃ b' M', tryOpen 3 M = (some b', M') ∧ Fine M' b' l := by
  obtain ⟨b', M', e, hf, _⟩ := try_cl hd.ok hd.start hr
  exact ⟨b', M', e, hf⟩

/-- Opening behind a failure, with a plan. -/
theorem down_plan {M0 M : Mem} {K : Nat → Int} {l c : List Int} {k : Int} (hd : Down M0 M K) (hr : Rec K l) (hk : 1 ≤ k ∧ k ≤ 1000) (hc : areEarly c = true) :
    Ok M.start ∧ (M.start.planned k c).1 = 0 ∧ Ok (M.start.planned k c).2 ∧ ∃ b' M', tryOpen 3 (M.start.planned k c).2 = (some b', M') ∧ Fine M' b' l := by
  have hs := hd.start
  have ho := ok_planned hs.ok k c
  have hm : mayPlan k c = true := by unfold mayPlan; rw [hc]; simp [hk.1, hk.2]
  have he : M.start.planned k c = (0, { M.start with plan := k.toNat, early := c }) := by
    unfold Mem.planned
    rw [if_pos hm, if_pos hs.on]
  rw [he] at ho ⊢
  refine ⟨hs.ok, rfl, ho, ?_⟩
  have h2 : ({ M.start with plan := k.toNat, early := c } : Mem).start = { M.start with plan := k.toNat, early := c } := by
    unfold Mem.start
    rw [if_pos]
    exact hs.on
  have hc2 : Cl { M.start with plan := k.toNat, early := c } K := ⟨ho, hs.on, hs.fresh, hs.kept, hs.notes⟩
  obtain ⟨b', M', e, hf, _⟩ := try_cl ho (by rw [h2]; exact hc2) hr
  exact ⟨b', M', e, hf⟩

theorem tryOpen_size (M : Mem) : (tryOpen 3 M).2.size ≤ M.size + 21 := size_tryOpen 3 M

end Go.Lin.Kp
namespace Go.Proofs.YtmohnddglmolgaaGreatDoor
open Go Go.RowKit Go.Lin Go.Lin.Kp

/-- A list that lies apart from a memory and a book. -/
abbrev Off (F G : Nat → Prop) (w : World) (v : Value) (l : List Int) : Prop := IsInts (fun k _ => ¬ F k ∧ ¬ G k) w v l

theorem off_keeps {F G F' G' : Nat → Prop} {w w' : World} {v : Value} {l : List Int} (h : Off F G w v l) (hk : Keeps (fun k _ => F k ∨ G k) w w') (hF : Wider w F F') (hG : Wider w G G') : Off F' G' w' v l := by
  obtain ⟨a, c, e, hm, hc⟩ := h
  refine ⟨a, c, e, hm, fun i hi => ?_⟩
  obtain ⟨b, off, o, e1, e2, e3, e4⟩ := hc i hi
  have hlt := lt_of_obj e2
  have e5 := hk.obj b o e2 (fun e => e.elim e3.1 e3.2)
  exact ⟨b, off, o, e1, e5, ⟨fun hf => (hF b hf).elim e3.1 (fun h => by omega), fun hg => (hG b hg).elim e3.2 (fun h => by omega)⟩, cell_of_obj e2 e5 e4⟩

theorem off_grew {F G : Nat → Prop} {w w' : World} {v : Value} {l : List Int} (h : Off F G w v l) (hg : Grew w w') : Off F G w' v l := Reads.grew h hg

theorem off_new {F G : Nat → Prop} {w w' : World} {v : Value} {l : List Int} {n : Nat} (h : Seg w' w.heap.size 3 1 v n (l.map (.int .i64))) (hF : ∀ k, F k → k < w.heap.size) (hG : ∀ k, G k → k < w.heap.size) : Off F G w' v l :=
  Reads.mono h.isInts fun k _ hs => ⟨fun e => by have := hF k e; have := hs.1; omega, fun e => by have := hG k e; have := hs.1; omega⟩

theorem off_list {F G : Nat → Prop} {w : World} {v : Value} {l : List Int} (h : IsInts (fun k _ => w.heap.size ≤ k) w v l) (hF : ∀ k, F k → k < w.heap.size) (hG : ∀ k, G k → k < w.heap.size) : Off F G w v l :=
  Reads.mono h fun k _ hs => ⟨fun e => by have := hF k e; omega, fun e => by have := hG k e; omega⟩

theorem LawQ.ltF {w wr : World} {bm bb : Nat} {M : Mem} {b : Bk} {F G : Nat → Prop} (h : LawQ w wr bm bb M b F G) : ∀ k, F k → k < wr.heap.size := h.mb.mem.ltF
theorem LawQ.ltG {w wr : World} {bm bb : Nat} {M : Mem} {b : Bk} {F G : Nat → Prop} (h : LawQ w wr bm bb M b F G) : ∀ k, G k → k < wr.heap.size := by obtain ⟨_, hb⟩ := h.mb.book; exact hb.lt

/-- The memory's blocks become more. -/
theorem LawQ.planned {w wr w' : World} {bm bb : Nat} {M M' : Mem} {b : Bk} {F G F' : Nat → Prop} (h : LawQ w wr bm bb M b F G) (hm : IsMem w' bm M' F') (hF : Wider wr F F') (hk : Keeps (InF F) wr w') : LawQ w w' bm bb M' b F' G :=
  ⟨grew_b h.grew (hk.below h.grew.size (fun k _ e => h.F k e)), ⟨hm, h.mb.book.keeps hk (fun k _ hG hF => h.mb.disj k hF hG), fun k hF' hG => (hF k hF').elim (fun e => h.mb.disj k e hG) (fun e => by have := h.ltG k hG; omega)⟩,
    fun k e => (hF k e).elim (h.F k) (fun e => Nat.le_trans h.grew.size e), h.G⟩

/-- Another book is opened, and takes the place of the first one. -/
theorem LawQ.newBook {w wr w' : World} {bm bb bb' : Nat} {M M' : Mem} {b b' : Bk} {F G G' : Nat → Prop} (h : LawQ w wr bm bb M b F G) (hm : IsMem w' bm M' F) (hk : Keeps (InF F) wr w') (hb : IsBook w' bb' bm b' G') (hG : ∀ k, G' k → wr.heap.size ≤ k) : LawQ w w' bm bb' M' b' F G' :=
  ⟨grew_b h.grew (hk.below h.grew.size (fun k _ e => h.F k e)), ⟨hm, hb, fun k hF hG' => by have := h.ltF k hF; have := hG k hG'; omega⟩, h.F, fun k e => Nat.le_trans h.grew.size (hG k e)⟩

/-- A block apart from a memory and a book. -/
structure Aside (F G : Nat → Prop) (w : World) (b : Nat) (o : Obj) : Prop where
  obj : w.heap[b]? = some o
  F : ¬ F b
  G : ¬ G b

theorem Aside.keeps {F G F' G' : Nat → Prop} {w w' : World} {b : Nat} {o : Obj} (h : Aside F G w b o) (hk : Keeps (fun k _ => F k ∨ G k) w w') (hF : Wider w F F') (hG : Wider w G G') : Aside F' G' w' b o :=
  ⟨hk.obj b o h.obj (fun e => e.elim h.F h.G), fun e => (hF b e).elim h.F (fun e => by have := lt_of_obj h.obj; omega), fun e => (hG b e).elim h.G (fun e => by have := lt_of_obj h.obj; omega)⟩
theorem Aside.grew {F G : Nat → Prop} {w w' : World} {b : Nat} {o : Obj} (h : Aside F G w b o) (hg : Grew w w') : Aside F G w' b o := ⟨(hg.block _ (lt_of_obj h.obj)).trans h.obj, h.F, h.G⟩

theorem keeps_inF {F G : Nat → Prop} {w w' : World} (h : Keeps (InF F) w w') : Keeps (fun k _ => F k ∨ G k) w w' := h.mono fun _ _ e => .inl e
theorem wider_refl {w : World} {F : Nat → Prop} : Wider w F F := fun _ h => .inl h

/-- A block apart is written. -/
theorem LawS.aside {w wr w' : World} {bm bb q : Nat} {M : Mem} {b : Bk} {F G : Nat → Prop} {l : List Int} (h : LawS w wr bm bb M b F G l) (hk : Keeps (fun k _ => k = q) wr w') (hF : ¬ F q) (hG : ¬ G q) (hq : w.heap.size ≤ q) : LawS w w' bm bb M b F G l :=
  ⟨grew_b h.grew (hk.below h.grew.size (fun k _ e => by rw [e]; exact hq)), ⟨h.mb.mem.keeps hk (fun k _ e e2 => hF (e2 ▸ e)), h.mb.book.keeps hk (fun k _ e e2 => hG (e2 ▸ e)), h.mb.disj⟩, h.F, h.G, h.fine⟩

/-- A block of five cells is written anew. -/
theorem store5 {w : World} {q : Nat} {c0 c1 c2 c3 c4 : Value} {t : TypeId} (h : w.heap[q]? = some (.cells #[c0, c1, c2, c3, c4] t (0, 0))) (a0 a1 a2 a3 a4 : Value) :
    ∃ W, ((((w.setCell ⟨q, 0, none⟩ a0).setCell ⟨q, 1, none⟩ a1).setCell ⟨q, 2, none⟩ a2).setCell ⟨q, 3, none⟩ a3).setCell ⟨q, 4, none⟩ a4 = W ∧ W.heap[q]? = some (.cells #[a0, a1, a2, a3, a4] t (0, 0)) ∧ Keeps (fun k _ => k = q) w W := by
  have hk : ∀ (i : Nat) (u : Value) (x : World), Keeps (fun k _ => k = q) x (x.setCell ⟨q, i, none⟩ u) := fun i u x => keeps_set1 u _ (fun _ => rfl)
  have h1 := heap_setCell_same w q 0 _ _ a0 h
  have h2 := heap_setCell_same _ q 1 _ _ a1 h1
  have h3 := heap_setCell_same _ q 2 _ _ a2 h2
  have h4 := heap_setCell_same _ q 3 _ _ a3 h3
  have h5 := heap_setCell_same _ q 4 _ _ a4 h4
  exact ⟨_, rfl, by simpa using h5, ((((hk _ _ _).trans (hk _ _ _)).trans (hk _ _ _)).trans (hk _ _ _)).trans (hk _ _ _)⟩

end Go.Proofs.YtmohnddglmolgaaGreatDoor
