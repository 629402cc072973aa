/- What holds in the loop of TopKeep: memory and book, the list that is known, and two lists of texts that grow. -/
import Derived.Test.YtmohnddglmolgaaGreatDoorKpLawA
import Derived.Test.YtmohnddglmolgaaGreatDoorKpTopP
import Derived.Test.YtmohnddglmolgaaGreatDoorAppend
namespace Go.Proofs.YtmohnddglmolgaaGreatDoor
open Go Go.RowKit Go.Lin Go.Lin.Kp

/-- A list of texts that grows in a block of its own, apart from memory and book. -/
def Txt (F G : Nat → Prop) (B : Nat) (w : World) (v : Value) (ls : List ByteArray) : Prop := Seg w B 9 1 v ls.length (ls.map Value.string) ∧ ∀ k, v.ownBlock = some k → ¬ F k ∧ ¬ G k

/-- A list of numbers in blocks of numbers, apart from memory and book. -/
abbrev Nums (F G : Nat → Prop) (w : World) (v : Value) (l : List Int) : Prop := IsInts (fun k o => (¬ F k ∧ ¬ G k) ∧ ∃ cur, o = .cells cur 3 (0, 0)) w v l

structure TopS (w wr : World) (bm bb : Nat) (M : Mem) (b : Bk) (F G : Nat → Prop) (nv lv wv : Value) (l : List Int) (ls ws : List ByteArray) : Prop where
  q : LawQ w wr bm bb M b F G
  now : Nums F G wr nv l
  lines : Txt F G w.heap.size wr lv ls
  want : Txt F G w.heap.size wr wv ws
  apart : ∀ k, lv.ownBlock = some k → wv.ownBlock ≠ some k

theorem Txt.grew {F G : Nat → Prop} {B : Nat} {w w' : World} {v : Value} {ls : List ByteArray} (h : Txt F G B w v ls) (hg : Grew w w') : Txt F G B w' v ls := ⟨h.1.grew hg, h.2⟩

theorem Txt.turn {F G F' G' : Nat → Prop} {B : Nat} {w w' : World} {v : Value} {ls : List ByteArray} (h : Txt F G B w v ls) (hk : Keeps (fun k _ => F k ∨ G k) w w') (hF : Wider w F F') (hG : Wider w G G') : Txt F' G' B w' v ls := by
  refine ⟨h.1.keeps hk (fun k _ e _ hm => hm.elim (h.2 k e).1 (h.2 k e).2), fun k e => ?_⟩
  have hlt := (h.1.own k e).2.1
  exact ⟨fun e2 => (hF k e2).elim (h.2 k e).1 (fun e3 => by omega), fun e2 => (hG k e2).elim (h.2 k e).2 (fun e3 => by omega)⟩

theorem Nums.turn {F G F' G' : Nat → Prop} {w w' : World} {v : Value} {l : List Int} (h : Nums F G w v l) (hk : Keeps (fun k _ => F k ∨ G k) w w') (hF : Wider w F F') (hG : Wider w G G') : Nums F' G' w' v l := by
  obtain ⟨a, c, e, hm, hc⟩ := h
  refine ⟨a, c, e, hm, fun i hi => ?_⟩
  obtain ⟨b, off, o, e1, e2, e3, e4⟩ := hc i hi
  have hlt := lt_of_obj e2
  have e5 := hk.obj b o e2 (fun e => e.elim e3.1.1 e3.1.2)
  exact ⟨b, off, o, e1, e5, ⟨⟨fun hf => (hF b hf).elim e3.1.1 (fun h => by omega), fun hg => (hG b hg).elim e3.1.2 (fun h => by omega)⟩, e3.2⟩, cell_of_obj e2 e5 e4⟩

/-- A list of numbers behind an append to a list of texts. -/
theorem Nums.texts {F G : Nat → Prop} {w w' : World} {v lv : Value} {l : List Int} {B n : Nat} {xs : List Value} (h : Nums F G w v l) (hs : Seg w B 9 1 lv n xs) (hg : w.grownBy w' lv.ownBlock) : Nums F G w' v l := by
  refine Reads.keeps h ((Keeps.refl (fun k o => lv.ownBlock = some k ∧ w.heap[k]? = some o) w).grown hg (fun k o e ho => ⟨e, ho⟩)) ?_
  rintro k o ⟨_, cur, rfl⟩ ⟨e, ho⟩
  obtain ⟨_, _, cur2, h2⟩ := hs.own k e
  rw [h2] at ho
  simp at ho

theorem nums_new {F G : Nat → Prop} {w w' : World} {v : Value} {l : List Int} {n : Nat} (h : Seg w' w.heap.size 3 1 v n (l.map (.int .i64))) (hF : ∀ k, F k → k < w.heap.size) (hG : ∀ k, G k → k < w.heap.size) : Nums F G w' v l :=
  Reads.mono h.isInts fun k _ hs => ⟨⟨fun e => by have := hF k e; have := hs.1; omega, fun e => by have := hG k e; have := hs.1; omega⟩, hs.2⟩

theorem TopS.grown {w wr w' : World} {bm bb : Nat} {M : Mem} {b : Bk} {F G : Nat → Prop} {nv lv wv : Value} {l : List Int} {ls ws : List ByteArray} (h : TopS w wr bm bb M b F G nv lv wv l ls ws) (hg : Grew wr w') : TopS w w' bm bb M b F G nv lv wv l ls ws :=
  ⟨h.q.grown hg, Reads.grew h.now hg, h.lines.grew hg, h.want.grew hg, h.apart⟩

theorem TopS.turn {w wr w' : World} {bm bb bb' : Nat} {M M' : Mem} {b b' : Bk} {F G F' G' : Nat → Prop} {nv lv wv : Value} {l : List Int} {ls ws : List ByteArray} (h : TopS w wr bm bb M b F G nv lv wv l ls ws) (hq : LawQ w w' bm bb' M' b' F' G')
    (hk : Keeps (fun k _ => F k ∨ G k) wr w') (hF : Wider wr F F') (hG : Wider wr G G') : TopS w w' bm bb' M' b' F' G' nv lv wv l ls ws :=
  ⟨hq, Nums.turn h.now hk hF hG, h.lines.turn hk hF hG, h.want.turn hk hF hG, h.apart⟩

theorem LawQ.texts {w wr w' : World} {bm bb : Nat} {M : Mem} {b : Bk} {F G : Nat → Prop} {lv : Value} {ls : List ByteArray} (h : LawQ w wr bm bb M b F G) (hs : Txt F G w.heap.size wr lv ls) (hg : wr.grownBy w' lv.ownBlock) : LawQ w w' bm bb M b F G := by
  have hk : Keeps (fun k _ => lv.ownBlock = some k) wr w' := (Keeps.refl _ wr).grown hg (fun k o e _ => e)
  exact ⟨grew_b h.grew (hk.below h.grew.size (fun k _ e => (hs.1.own k e).1)), ⟨h.mb.mem.keeps hk (fun k _ e e2 => (hs.2 k e2).1 e), h.mb.book.keeps hk (fun k _ e e2 => (hs.2 k e2).2 e), h.mb.disj⟩, h.F, h.G⟩

/-- What grows lies apart. -/
theorem Txt.grown {F G : Nat → Prop} {B : Nat} {w w' : World} {v v' : Value} {ls ls' : List ByteArray} (h : Txt F G B w v ls) (hs : Seg w' B 9 1 v' ls'.length (ls'.map Value.string)) (hb : v'.ownBlock = v.ownBlock ∨ v'.ownBlock = some w.heap.size) (hF : ∀ k, F k → k < w.heap.size) (hG : ∀ k, G k → k < w.heap.size) : Txt F G B w' v' ls' := by
  refine ⟨hs, fun k e => ?_⟩
  rcases hb with hb | hb
  · exact h.2 k (by rw [← hb]; exact e)
  · rw [hb, Option.some.injEq] at e
    subst e
    exact ⟨fun e => Nat.lt_irrefl _ (hF _ e), fun e => Nat.lt_irrefl _ (hG _ e)⟩

theorem Txt.other {F G : Nat → Prop} {B : Nat} {w w' : World} {v lv : Value} {ls : List ByteArray} (h : Txt F G B w v ls) (hg : w.grownBy w' lv.ownBlock) (ha : ∀ k, lv.ownBlock = some k → v.ownBlock ≠ some k) : Txt F G B w' v ls :=
  ⟨h.1.keeps ((Keeps.refl (fun k _ => lv.ownBlock = some k) w).grown hg (fun _ _ e _ => e)) (fun k _ e _ e2 => ha k e2 e), h.2⟩

theorem apart_grown {w : World} {v v' u : Value} (ha : ∀ k, v.ownBlock = some k → u.ownBlock ≠ some k) (hb : v'.ownBlock = v.ownBlock ∨ v'.ownBlock = some w.heap.size) (hu : ∀ k, u.ownBlock = some k → k < w.heap.size) : ∀ k, v'.ownBlock = some k → u.ownBlock ≠ some k := by
  intro k e e2
  rcases hb with hb | hb
  · exact ha k (by rw [← hb]; exact e) e2
  · rw [hb, Option.some.injEq] at e
    have := hu k e2
    omega

theorem TopS.line {w wa w' : World} {bm bb : Nat} {M : Mem} {b : Bk} {F G : Nat → Prop} {nv lv wv v' : Value} {l : List Int} {ls ls' ws : List ByteArray} (h : TopS w wa bm bb M b F G nv lv wv l ls ws)
    (hs : Seg w' w.heap.size 9 1 v' ls'.length (ls'.map Value.string)) (hg : wa.grownBy w' lv.ownBlock) (hb : v'.ownBlock = lv.ownBlock ∨ v'.ownBlock = some wa.heap.size) : TopS w w' bm bb M b F G nv v' wv l ls' ws :=
  ⟨h.q.texts h.lines hg, Nums.texts h.now h.lines.1 hg, h.lines.grown hs hb h.q.ltF h.q.ltG, h.want.other hg h.apart, apart_grown h.apart hb (fun k e => (h.want.1.own k e).2.1)⟩

theorem TopS.wants {w wa w' : World} {bm bb : Nat} {M : Mem} {b : Bk} {F G : Nat → Prop} {nv lv wv v' : Value} {l : List Int} {ls ws ws' : List ByteArray} (h : TopS w wa bm bb M b F G nv lv wv l ls ws)
    (hs : Seg w' w.heap.size 9 1 v' ws'.length (ws'.map Value.string)) (hg : wa.grownBy w' wv.ownBlock) (hb : v'.ownBlock = wv.ownBlock ∨ v'.ownBlock = some wa.heap.size) : TopS w w' bm bb M b F G nv lv v' l ls ws' :=
  ⟨h.q.texts h.want hg, Nums.texts h.now h.want.1 hg, h.lines.other hg (fun k e e2 => h.apart k e2 e), h.want.grown hs hb h.q.ltF h.q.ltG,
    fun k e e2 => apart_grown (fun k e e2 => h.apart k e2 e) hb (fun k e => (h.lines.1.own k e).2.1) k e2 e⟩

/-- Two texts at once. -/
theorem wpList_append_two {P : Program} {w : World} {ops : Array Oper} {rest : List Oper} {o : Oper} {a : Act} {Q : Exit → Act → World → Prop} (hgd : o.guard = none) (s x : Operand) (t : TypeId)
    (ho : o.op = .call { callee := .builtin .append, args := #[s, x], argTypes := #[t, t] })
    (base : Nat) (e : TypeId) {z : Value} {bytes : Nat} (ht : P.underlying t = some (.slice e)) (hinfo : (P.info? e).map (fun i => (i.zero, i.size, i.bytes)) = some (some z, 1, bytes)) (hzs : z.cells.size = 1) (hb : bytes ≤ 64)
    (v : Value) (n : Nat) (xs : List Value) (hs : a.eval s = v) (hown : Seg w base e 1 v n xs) (b c : Nat) (u1 u2 : Value) (hx : a.eval x = .slice (some ⟨b, 0, none⟩) 2 c) (hc1 : w.cell? ⟨b, 0, none⟩ = some u1) (hc2 : w.cell? ⟨b, 1, none⟩ = some u2) (h1 : u1.oneCell' = true) (h2 : u2.oneCell' = true)
    (hn : n < 1000000000) (hbase : base ≤ w.heap.size)
    (h : ∀ v' w', Seg w' base e 1 v' (n + 2) (xs ++ [u1, u2]) → w.grownBy w' v.ownBlock → (v'.ownBlock = v.ownBlock ∨ v'.ownBlock = some w.heap.size) → wpList P ops Q rest (a.put o.dst v') w') : wpList P ops Q (o :: rest) a w := by
  obtain ⟨i, hi, hz0, hz1, hz2⟩ := info_parts hinfo
  refine wpList_append_seg hgd s x t t ho base e i z 1 bytes ht hi hz0 hz1 hz2 hzs v n xs hs hown _ hx 2 [u1, u2] (Src.ofSlice _ ht ⟨b, 0, none⟩ 2 c [u1, u2] rfl ?_ (by simpa using ⟨h1, h2⟩)) (by unfold maxLen; omega) ?_ hbase h
  · intro j w' hj
    rcases j with _ | _ | j
    · simp at hj
      subst hj
      rw [Addr.add_lit]; exact hc1
    · simp at hj
      subst hj
      rw [Addr.add_lit]; exact hc2
    · simp at hj
  · calc (n + 2) * bytes ≤ 1000000001 * 64 := Nat.mul_le_mul (by omega) hb
      _ ≤ 140737488355328 := by decide

theorem ints_two (w : World) (x y : Int) : IsInts Any (w.alloc (.cells #[.int .i64 x, .int .i64 y] 3)) (.slice (some ⟨w.heap.size, 0, none⟩) 2 2) [x, y] := by
  refine ⟨_, _, rfl, by simp, fun i hi => ⟨w.heap.size, 0, _, rfl, heap_alloc_new w _, trivial, ?_⟩⟩
  have hi2 : i < 2 := hi
  rcases (show i = 0 ∨ i = 1 by omega) with rfl | rfl
  · simp [nth]
  · simp [nth]

theorem bytesOf_snoc (ls : List ByteArray) (x : ByteArray) : bytesOf (ls ++ [x]) = bytesOf ls ++ [x.data.toList] := by unfold bytesOf; simp

theorem txt_wds {F G : Nat → Prop} {B : Nat} {w : World} {v : Value} {ls : List ByteArray} (h : Txt F G B w v ls) : IsWds Any w v ls :=
  (h.1.reads (fun i => .string (ls.getD i ByteArray.empty)) (fun i hi => by rw [List.getElem?_map, List.getElem?_eq_getElem hi, List.getD_eq_getElem?_getD, List.getElem?_eq_getElem hi]; rfl)).any

theorem TopS.line1 {w wa w' : World} {bm bb : Nat} {M : Mem} {b : Bk} {F G : Nat → Prop} {nv lv wv v' : Value} {l : List Int} {ls ws : List ByteArray} {x : ByteArray} (h : TopS w wa bm bb M b F G nv lv wv l ls ws)
    (hs : Seg w' w.heap.size 9 1 v' (ls.length + 1) (ls.map Value.string ++ [Value.string x])) (hg : wa.grownBy w' lv.ownBlock) (hb : v'.ownBlock = lv.ownBlock ∨ v'.ownBlock = some wa.heap.size) : TopS w w' bm bb M b F G nv v' wv l (ls ++ [x]) ws :=
  h.line (by rw [List.length_append, List.map_append]; exact hs) hg hb

theorem TopS.want1 {w wa w' : World} {bm bb : Nat} {M : Mem} {b : Bk} {F G : Nat → Prop} {nv lv wv v' : Value} {l : List Int} {ls ws : List ByteArray} {x : ByteArray} (h : TopS w wa bm bb M b F G nv lv wv l ls ws)
    (hs : Seg w' w.heap.size 9 1 v' (ws.length + 1) (ws.map Value.string ++ [Value.string x])) (hg : wa.grownBy w' wv.ownBlock) (hb : v'.ownBlock = wv.ownBlock ∨ v'.ownBlock = some wa.heap.size) : TopS w w' bm bb M b F G nv lv v' l ls (ws ++ [x]) :=
  h.wants (by rw [List.length_append, List.map_append]; exact hs) hg hb

theorem TopS.want2 {w wa w' : World} {bm bb : Nat} {M : Mem} {b : Bk} {F G : Nat → Prop} {nv lv wv v' : Value} {l : List Int} {ls ws : List ByteArray} {x y : ByteArray} (h : TopS w wa bm bb M b F G nv lv wv l ls ws)
    (hs : Seg w' w.heap.size 9 1 v' (ws.length + 2) (ws.map Value.string ++ [Value.string x, Value.string y])) (hg : wa.grownBy w' wv.ownBlock) (hb : v'.ownBlock = wv.ownBlock ∨ v'.ownBlock = some wa.heap.size) : TopS w w' bm bb M b F G nv lv v' l ls (ws ++ [x, y]) :=
  h.wants (by rw [List.length_append, List.map_append]; exact hs) hg hb

theorem same_top (v v' : Value) (l m : List Int) (r : Bool) (hr : (l == m) = r) (w : World) (hv : IsInts Any w v l) (hv' : IsInts Any w v' m) : Calls Tryz.prog 24 #[v, v'] w fun e w' => e = .returned (.bool r) ∧ Grew w w' := by
  subst hr; exact same24_any v v' l m w hv hv'

theorem entries_top (bb bm : Nat) (b : Bk) (G : Nat → Prop) (l : List Int) (w : World) (h : IsBook w bb bm b G) (hl : b.list = l) (hs : l.length ≤ 1000000) :
    Calls Tryz.prog 19 #[ptr bb] w fun e w' => ∃ u, e = .returned u ∧ Seg w' w.heap.size 3 1 u l.length (l.map (.int .i64)) ∧ Grew w w' := by
  subst hl; exact entries19_any bb bm b G w h hs

theorem empty_seg (w : World) : Seg (w.alloc (.cells #[] 3)) w.heap.size 3 1 (.slice (some ⟨w.heap.size, 0, none⟩) 0 0) 0 [] :=
  ⟨by simp, .inr ⟨w.heap.size, 0, 0, #[], rfl, Nat.le_refl _, heap_alloc_new w _, Nat.le_refl _, by unfold maxLen; omega, by simp, by simp⟩⟩

end Go.Proofs.YtmohnddglmolgaaGreatDoor
