/- A specification that a call builds, row by row. Of no program. -/
import Derived.Test.YtnebpcpihldllaaAppend
import Derived.Test.YtnebpcpihldllaaModel
namespace Go.Lin
open Go.RowKit

/-- Rows of ints that the call has laid. -/
def Rowed (w : World) (base : Nat) (v : Value) (rows : List (List Int)) : Prop :=
  ∃ Vs : List Value, Seg w base 34 1 v rows.length Vs ∧ ∀ k, k < rows.length → ∃ u, Vs[k]? = some u ∧ IsInts (IntObj 3) w u (nthL rows k)

theorem Rowed.nil (w : World) (base : Nat) : Rowed w base (.slice none 0 0) [] := ⟨[], Seg.nil _ _ _ _, fun k hk => absurd hk (by simp)⟩

theorem Rowed.keeps {w w' : World} {may : Nat → Obj → Prop} {base : Nat} {v : Value} {rows : List (List Int)} (h : Rowed w base v rows) (hk : Keeps may w w')
    (hm : ∀ k cur, v.ownBlock = some k → ¬ may k (.cells cur 34 (0, 0))) (hi : ∀ k c fr, ¬ may k (.cells c 3 fr)) : Rowed w' base v rows := by
  obtain ⟨Vs, h1, h2⟩ := h
  refine ⟨Vs, h1.keeps hk (fun k o hv ⟨cur, ho⟩ => by subst ho; exact hm k cur hv), fun k hl => ?_⟩
  obtain ⟨u, h3, h4⟩ := h2 k hl
  exact ⟨u, h3, h4.keeps hk (fun k o ⟨c, fr, ho⟩ => by subst ho; exact hi k c fr)⟩

theorem Rowed.grew {w w' : World} {base : Nat} {v : Value} {rows : List (List Int)} (h : Rowed w base v rows) (hg : Grew w w') : Rowed w' base v rows :=
  h.keeps (Grew.keeps (may := fun _ _ => False) hg) (fun _ _ _ h => h) (fun _ _ _ h => h)

theorem Rowed.isRows {w : World} {base : Nat} {v : Value} {rows : List (List Int)} (h : Rowed w base v rows) : IsRows Any w v rows := by
  obtain ⟨Vs, h1, h2⟩ := h
  refine ⟨fun i => Vs.getD i (.int .i64 0), (h1.reads _ (fun i hi => ?_)).any, fun i hi => ?_⟩
  · obtain ⟨u, h3, _⟩ := h2 i hi
    simp [List.getD, h3]
  · obtain ⟨u, h3, h4⟩ := h2 i hi
    have : (fun i => Vs.getD i (.int .i64 0)) i = u := by simp [List.getD, h3]
    rw [this]; exact h4.any

theorem nthL_snoc_lt {rows : List (List Int)} {row : List Int} {k : Nat} (h : k < rows.length) : nthL (rows ++ [row]) k = nthL rows k := by
  rw [nthL_lt (by simp; omega), nthL_lt h, List.getElem_append_left h]
theorem nthL_snoc_eq {rows : List (List Int)} {row : List Int} : nthL (rows ++ [row]) rows.length = row := by
  rw [nthL_lt (by simp)]; simp

theorem Rowed.shape {w : World} {base : Nat} {v : Value} {rows : List (List Int)} (h : Rowed w base v rows) : ∃ a cap, v = .slice a rows.length cap := by
  obtain ⟨Vs, h1, _⟩ := h
  obtain ⟨a, c, h, _⟩ := h1.shape
  exact ⟨a, c, h⟩

/-- One row more. -/
theorem Rowed.snoc {w w' : World} {base : Nat} {v' : Value} {rows : List (List Int)} {Vs : List Value} {row : List Int} {u : Value} {may : Nat → Obj → Prop}
    (h2 : ∀ k, k < rows.length → ∃ u, Vs[k]? = some u ∧ IsInts (IntObj 3) w u (nthL rows k)) (hl : Vs.length = rows.length)
    (hk : Keeps may w w') (hi : ∀ k c fr, ¬ may k (.cells c 3 fr)) (hs : Seg w' base 34 1 v' (rows.length + 1) (Vs ++ [u])) (hu : IsInts (IntObj 3) w u row) : Rowed w' base v' (rows ++ [row]) := by
  refine ⟨Vs ++ [u], by simpa using hs, fun k hk2 => ?_⟩
  simp at hk2
  rcases Nat.lt_or_ge k rows.length with h | h
  · obtain ⟨x, h3, h4⟩ := h2 k h
    refine ⟨x, by rw [List.getElem?_append_left (by omega)]; exact h3, ?_⟩
    rw [nthL_snoc_lt h]
    exact h4.keeps hk (fun k o ⟨c, fr, ho⟩ => by subst ho; exact hi k c fr)
  · obtain rfl : k = rows.length := by omega
    refine ⟨u, by rw [List.getElem?_append_right (by omega), hl]; simp, ?_⟩
    rw [nthL_snoc_eq]
    exact hu.keeps hk (fun k o ⟨c, fr, ho⟩ => by subst ho; exact hi k c fr)

/-- The struct at the end of W, and what it holds. -/
structure Built (W w : World) (st ops : Int) (nv sv : Value) (N Y : List (List Int)) : Prop where
  grew : Grew W w
  obj : w.heap[W.heap.size]? = some (.cells #[.int .i64 st, .int .i64 ops, nv, sv] 24 (0, 0))
  next : Rowed w (W.heap.size + 1) nv N
  says : Rowed w (W.heap.size + 1) sv Y
  ne : ∀ k, nv.ownBlock = some k → sv.ownBlock ≠ some k

theorem Built.cells {W w : World} {st ops : Int} {nv sv : Value} {N Y : List (List Int)} (h : Built W w st ops nv sv N Y) :
    w.cell? ⟨W.heap.size, 0, none⟩ = some (.int .i64 st) ∧ w.cell? ⟨W.heap.size, 1, none⟩ = some (.int .i64 ops) ∧ w.cell? ⟨W.heap.size, 2, none⟩ = some nv ∧ w.cell? ⟨W.heap.size, 3, none⟩ = some sv ∧
      (∀ j, w.frozen? ⟨W.heap.size, j, none⟩ = false) ∧ W.heap.size < w.heap.size := by
  refine ⟨?_, ?_, ?_, ?_, fun j => frozen_of_row _ _ _ _ _ h.obj, lt_of_obj h.obj⟩ <;> (rw [cell_of_row _ _ _ _ _ _ h.obj]; rfl)

theorem Built.grown {W w w' : World} {st ops : Int} {nv sv : Value} {N Y : List (List Int)} (h : Built W w st ops nv sv N Y) (hg : Grew w w') : Built W w' st ops nv sv N Y :=
  ⟨grew_trans h.grew hg, (hg.block _ (lt_of_obj h.obj)).trans h.obj, h.next.grew hg, h.says.grew hg, h.ne⟩

theorem Built.start {W : World} {st ops : Int} : Built W (W.alloc (.cells #[.int .i64 st, .int .i64 ops, .slice none 0 0, .slice none 0 0] 24)) st ops (.slice none 0 0) (.slice none 0 0) [] [] :=
  ⟨grew_alloc (grew_refl _) _, heap_alloc_new W _, Rowed.nil _ _, Rowed.nil _ _, fun k h => by simp [Value.ownBlock] at h⟩

/-- A cell of a struct of type 24 is written. -/
theorem keeps_set24 {w : World} {b j : Nat} {c : Array Value} (u : Value) (hb : w.heap[b]? = some (.cells c 24 (0, 0))) : Keeps (fun k o => k = b ∧ ∃ c, o = .cells c 24 (0, 0)) w (w.setCell ⟨b, j, none⟩ u) :=
  ⟨rfl, rfl, rfl, by simp, fun k o h hn => by
    by_cases hk : k = b
    · subst hk; rw [hb] at h; cases h; exact absurd ⟨rfl, _, rfl⟩ hn
    · rw [heap_setCell_other _ _ _ _ hk]; exact h⟩

/-- What an append to a table, in x, and the store behind it leave as it was. -/
theorem Built.after {W w x w' : World} {st ops : Int} {nv sv tv v' : Value} {N Y T : List (List Int)} {Vs : List Value} (j : Nat) (h : Built W w st ops nv sv N Y) (hx : Grew w x)
    (hVs : Seg w (W.heap.size + 1) 34 1 tv T.length Vs) (hgr : x.grownBy w' tv.ownBlock) :
    Keeps (fun k o => (tv.ownBlock = some k ∧ ∃ cur, o = .cells cur 34 (0, 0)) ∨ (k = W.heap.size ∧ ∃ c, o = .cells c 24 (0, 0))) x (w'.setCell ⟨W.heap.size, j, none⟩ v') ∧
      w'.heap[W.heap.size]? = some (.cells #[.int .i64 st, .int .i64 ops, nv, sv] 24 (0, 0)) ∧ Grew W (w'.setCell ⟨W.heap.size, j, none⟩ v') := by
  have hx' := h.grown hx
  have hVx := hVs.grew hx
  have hk1 : Keeps (fun k o => tv.ownBlock = some k ∧ ∃ cur, o = .cells cur 34 (0, 0)) x w' := (Keeps.refl _ x).grown hgr (fun k o e ho => by
    obtain ⟨_, _, cur, hc⟩ := hVx.own k e
    rw [hc] at ho; cases ho; exact ⟨e, cur, rfl⟩)
  have hobj : w'.heap[W.heap.size]? = some (.cells #[.int .i64 st, .int .i64 ops, nv, sv] 24 (0, 0)) := hk1.obj _ _ hx'.obj (fun ⟨e, cur, ho⟩ => by cases ho)
  have hk2 := keeps_set24 (j := j) v' hobj
  have hk := (hk1.mono (may' := fun k o => (tv.ownBlock = some k ∧ ∃ cur, o = .cells cur 34 (0, 0)) ∨ (k = W.heap.size ∧ ∃ c, o = .cells c 24 (0, 0))) (fun k o h => .inl h)).trans (hk2.mono (fun k o h => .inr h))
  refine ⟨hk, hobj, hx'.grew.trans (Keeps.below hk hx'.grew.size ?_)⟩
  rintro k o (⟨e, _⟩ | ⟨e, _⟩)
  · have := (hVx.own k e).1; omega
  · omega

/-- A row is appended to the first table, and laid into the struct. -/
theorem Built.next_snoc {W w x w' : World} {st ops : Int} {nv sv v' u : Value} {N Y : List (List Int)} {Vs : List Value} {row : List Int} (h : Built W w st ops nv sv N Y) (hx : Grew w x)
    (hVs : Seg w (W.heap.size + 1) 34 1 nv N.length Vs) (hV : ∀ k, k < N.length → ∃ u, Vs[k]? = some u ∧ IsInts (IntObj 3) w u (nthL N k))
    (hown : Seg w' (W.heap.size + 1) 34 1 v' (N.length + 1) (Vs ++ [u])) (hgr : x.grownBy w' nv.ownBlock) (hblk : v'.ownBlock = nv.ownBlock ∨ ∃ k, v'.ownBlock = some k ∧ w.heap.size ≤ k)
    (hu : IsInts (IntObj 3) x u row) : Built W (w'.setCell ⟨W.heap.size, 2, none⟩ v') st ops v' sv (N ++ [row]) Y := by
  obtain ⟨hk, hobj, hg⟩ := h.after (v' := v') 2 hx hVs hgr
  have hint : ∀ k c fr, ¬ ((nv.ownBlock = some k ∧ ∃ cur, Obj.cells c 3 fr = .cells cur 34 (0, 0)) ∨ (k = W.heap.size ∧ ∃ c', Obj.cells c 3 fr = .cells c' 24 (0, 0))) := by
    rintro k c fr (⟨_, cur, ho⟩ | ⟨_, c', ho⟩) <;> cases ho
  refine ⟨hg, by simpa using heap_setCell_same w' W.heap.size 2 _ 24 v' hobj, ?_, ?_, ?_⟩
  · refine Rowed.snoc (w := x) (fun k hk => ?_) (by have := hVs.1; omega) hk hint (hown.keeps (keeps_set24 (j := 2) v' hobj) ?_) hu
    · obtain ⟨y, h3, h4⟩ := hV k hk
      exact ⟨y, h3, h4.grew hx⟩
    · rintro k o hv _ ⟨e, _⟩
      have := (hown.own _ hv).1; omega
  · refine (h.says.grew hx).keeps hk ?_ hint
    rintro k cur hv (⟨e, _⟩ | ⟨_, c', ho⟩)
    · exact h.ne k e hv
    · cases ho
  · intro k hv hv2
    rcases hblk with e | ⟨k', e, hge⟩
    · exact h.ne k (e ▸ hv) hv2
    · rw [e] at hv; cases hv
      obtain ⟨Vs', hs', _⟩ := h.says
      have := (hs'.own _ hv2).2.1
      omega

/-- A row is appended to the second table, and laid into the struct. -/
theorem Built.says_snoc {W w x w' : World} {st ops : Int} {nv sv v' u : Value} {N Y : List (List Int)} {Vs : List Value} {row : List Int} (h : Built W w st ops nv sv N Y) (hx : Grew w x)
    (hVs : Seg w (W.heap.size + 1) 34 1 sv Y.length Vs) (hV : ∀ k, k < Y.length → ∃ u, Vs[k]? = some u ∧ IsInts (IntObj 3) w u (nthL Y k))
    (hown : Seg w' (W.heap.size + 1) 34 1 v' (Y.length + 1) (Vs ++ [u])) (hgr : x.grownBy w' sv.ownBlock) (hblk : v'.ownBlock = sv.ownBlock ∨ ∃ k, v'.ownBlock = some k ∧ w.heap.size ≤ k)
    (hu : IsInts (IntObj 3) x u row) : Built W (w'.setCell ⟨W.heap.size, 3, none⟩ v') st ops nv v' N (Y ++ [row]) := by
  obtain ⟨hk, hobj, hg⟩ := h.after (v' := v') 3 hx hVs hgr
  have hint : ∀ k c fr, ¬ ((sv.ownBlock = some k ∧ ∃ cur, Obj.cells c 3 fr = .cells cur 34 (0, 0)) ∨ (k = W.heap.size ∧ ∃ c', Obj.cells c 3 fr = .cells c' 24 (0, 0))) := by
    rintro k c fr (⟨_, cur, ho⟩ | ⟨_, c', ho⟩) <;> cases ho
  refine ⟨hg, by simpa using heap_setCell_same w' W.heap.size 3 _ 24 v' hobj, ?_, ?_, ?_⟩
  · refine (h.next.grew hx).keeps hk ?_ hint
    rintro k cur hv (⟨e, _⟩ | ⟨_, c', ho⟩)
    · exact h.ne k hv e
    · cases ho
  · refine Rowed.snoc (w := x) (fun k hk => ?_) (by have := hVs.1; omega) hk hint (hown.keeps (keeps_set24 (j := 3) v' hobj) ?_) hu
    · obtain ⟨y, h3, h4⟩ := hV k hk
      exact ⟨y, h3, h4.grew hx⟩
    · rintro k o hv _ ⟨e, _⟩
      have := (hown.own _ hv).1; omega
  · intro k hv hv2
    rcases hblk with e | ⟨k', e, hge⟩
    · exact h.ne k hv (e ▸ hv2)
    · rw [e] at hv2; cases hv2
      obtain ⟨Vs', hs', _⟩ := h.next
      have := (hs'.own _ hv).2.1
      omega

/-- What is returned. -/
theorem Built.isSpec {W w : World} {st ops : Int} {nv sv : Value} {N Y : List (List Int)} (h : Built W w st ops nv sv N Y) : IsSpec w (.agg #[.int .i64 st, .int .i64 ops, nv, sv]) ⟨st, ops, N, Y⟩ :=
  ⟨nv, sv, rfl, h.next.isRows, h.says.isRows⟩

/-- A struct of four cells is written over. -/
theorem set4 {w : World} {b : Nat} {c : Array Value} {t : TypeId} (hs : c.size = 4) (v0 v1 v2 v3 : Value) (h : w.heap[b]? = some (.cells c t (0, 0))) {w' : World}
    (hw : (((w.setCell ⟨b, 0, none⟩ v0).setCell ⟨b, 1, none⟩ v1).setCell ⟨b, 2, none⟩ v2).setCell ⟨b, 3, none⟩ v3 = w') :
    w'.heap[b]? = some (.cells #[v0, v1, v2, v3] t (0, 0)) ∧ w'.heap.size = w.heap.size := by
  subst hw
  refine ⟨?_, by simp⟩
  have h1 := heap_setCell_same w b 0 _ t v0 h
  have h2 := heap_setCell_same _ b 1 _ t v1 h1
  have h3 := heap_setCell_same _ b 2 _ t v2 h2
  have h4 := heap_setCell_same _ b 3 _ t v3 h3
  rw [h4]
  obtain ⟨l⟩ := c
  match l, hs with
  | [a, b, c, d], _ => simp

theorem cells4 {w : World} {b : Nat} {t : TypeId} {v0 v1 v2 v3 : Value} (h : w.heap[b]? = some (.cells #[v0, v1, v2, v3] t (0, 0))) :
    w.cell? ⟨b, 0, none⟩ = some v0 ∧ w.cell? ⟨b, 1, none⟩ = some v1 ∧ w.cell? ⟨b, 2, none⟩ = some v2 ∧ w.cell? ⟨b, 3, none⟩ = some v3 ∧ (∀ j, w.frozen? ⟨b, j, none⟩ = false) ∧ b < w.heap.size := by
  refine ⟨?_, ?_, ?_, ?_, fun j => frozen_of_row _ _ _ _ _ h, lt_of_obj h⟩ <;> (rw [cell_of_row _ _ _ _ _ _ h]; rfl)

theorem keeps_set4 {w : World} {b : Nat} {c : Array Value} (v0 v1 v2 v3 : Value) (h : w.heap[b]? = some (.cells c 24 (0, 0))) {w' : World}
    (hw : (((w.setCell ⟨b, 0, none⟩ v0).setCell ⟨b, 1, none⟩ v1).setCell ⟨b, 2, none⟩ v2).setCell ⟨b, 3, none⟩ v3 = w') :
    Keeps (fun k o => k = b ∧ ∃ c, o = .cells c 24 (0, 0)) w w' := by
  subst hw
  have h1 := heap_setCell_same w b 0 _ 24 v0 h
  have h2 := heap_setCell_same _ b 1 _ 24 v1 h1
  have h3 := heap_setCell_same _ b 2 _ 24 v2 h2
  exact (((keeps_set24 (j := 0) v0 h).trans (keeps_set24 (j := 1) v1 h1)).trans (keeps_set24 (j := 2) v2 h2)).trans (keeps_set24 (j := 3) v3 h3)

/-- What is returned, when another struct of that type has been written. -/
theorem Built.isSpec_keeps {W w w' : World} {b : Nat} {st ops : Int} {nv sv : Value} {N Y : List (List Int)} (h : Built W w st ops nv sv N Y) (hk : Keeps (fun k o => k = b ∧ ∃ c, o = .cells c 24 (0, 0)) w w') : IsSpec w' (.agg #[.int .i64 st, .int .i64 ops, nv, sv]) ⟨st, ops, N, Y⟩ :=
  ⟨nv, sv, rfl, (h.next.keeps hk (fun k cur _ ⟨_, c, ho⟩ => by cases ho) (fun k c fr ⟨_, c', ho⟩ => by cases ho)).isRows, (h.says.keeps hk (fun k cur _ ⟨_, c, ho⟩ => by cases ho) (fun k c fr ⟨_, c', ho⟩ => by cases ho)).isRows⟩

/-- An append at a step of a region that draws its order. -/
theorem step_append_seg {P : Program} {w : World} {ops : Array Oper} {o : Oper} {a : Act} {K : Act → World → Prop} {Q : Exit → Act → World → Prop} {E : Prop} (hgd : o.guard = none) (s x : Operand) (t tx : TypeId)
    (ho : o.op = .call { callee := .builtin .append, args := #[s, x], argTypes := #[t, tx] })
    (base : Nat) (e : TypeId) (i : TypeInfo) (z : Value) (size bytes : Nat) (ht : P.underlying t = some (.slice e)) (hi : P.info? e = some i) (hz : i.zero = some z)
    (hsize : i.size = size) (hby : i.bytes = bytes) (hzs : z.cells.size = size)
    (v : Value) (n : Nat) (xs : List Value) (hs : a.eval s = v) (hown : Seg w base e size v n xs) (y : Value) (hy : a.eval x = y) (m : Nat) (news : List Value) (hsrc : Src P size tx y m news w)
    (h63 : n + m ≤ maxLen) (hbytes : (n + m) * bytes ≤ 140737488355328) (hbase : base ≤ w.heap.size)
    (h : ∀ v' w', Seg w' base e size v' (n + m) (xs ++ news) → w.grownBy w' v.ownBlock → (v'.ownBlock = v.ownBlock ∨ v'.ownBlock = some w.heap.size) → K (a.put o.dst v') w') :
    if Region.wanted o (yielded ops a.tmps) = true then Oper.wp P o a w K Q else E := by
  have hw : Region.wanted o (yielded ops a.tmps) = true := by simp [Region.wanted, hgd]
  rw [if_pos hw]
  exact wp_append_seg s x t tx ho base e i z size bytes ht hi hz hsize hby hzs v n xs hs hown y hy m news hsrc h63 hbytes hbase h

/-- One element. -/
theorem step_append_one {P : Program} {w : World} {ops : Array Oper} {o : Oper} {a : Act} {K : Act → World → Prop} {Q : Exit → Act → World → Prop} {E : Prop} (hgd : o.guard = none) (s x : Operand) (t : TypeId)
    (ho : o.op = .call { callee := .builtin .append, args := #[s, x], argTypes := #[t, t] })
    (base : Nat) (e : TypeId) {z : Value} {bytes : Nat} (ht : P.underlying t = some (.slice e)) (hinfo : (P.info? e).map (fun i => (i.zero, i.size, i.bytes)) = some (some z, 1, bytes)) (hzs : z.cells.size = 1) (hb : bytes ≤ 64)
    (v : Value) (n : Nat) (xs : List Value) (hs : a.eval s = v) (hown : Seg w base e 1 v n xs) (b c : Nat) (u : Value) (hx : a.eval x = .slice (some ⟨b, 0, none⟩) 1 c) (hc : w.cell? ⟨b, 0, none⟩ = some u) (h1 : u.oneCell' = true)
    (hn : n < 1000000000) (hbase : base ≤ w.heap.size)
    (h : ∀ v' w', Seg w' base e 1 v' (n + 1) (xs ++ [u]) → w.grownBy w' v.ownBlock → (v'.ownBlock = v.ownBlock ∨ v'.ownBlock = some w.heap.size) → K (a.put o.dst v') w') :
    if Region.wanted o (yielded ops a.tmps) = true then Oper.wp P o a w K Q else E := by
  have hw : Region.wanted o (yielded ops a.tmps) = true := by simp [Region.wanted, hgd]
  rw [if_pos hw]
  obtain ⟨i, hi, hz0, hz1, hz2⟩ := info_parts hinfo
  refine wp_append_seg s x t t ho base e i z 1 bytes ht hi hz0 hz1 hz2 hzs v n xs hs hown _ hx 1 [u] (Src.ofSlice _ ht ⟨b, 0, none⟩ 1 c [u] rfl ?_ (by simpa using h1)) (by unfold maxLen; omega) ?_ hbase h
  · intro j w' hj
    have : j = 0 := by
      rcases j with _ | j
      · rfl
      · simp at hj
    subst this
    simp at hj
    subst hj
    rw [Addr.add_lit]; exact hc
  · calc (n + 1) * bytes ≤ 1000000000 * 64 := Nat.mul_le_mul (by omega) hb
      _ ≤ 140737488355328 := by decide
end Go.Lin
