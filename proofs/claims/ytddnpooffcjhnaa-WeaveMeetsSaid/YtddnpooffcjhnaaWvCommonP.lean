/- Walk: common, of the program. -/
import Derived.Test.YtddnpooffcjhnaaWvGives
import Derived.Test.YtddnpooffcjhnaaRoundHeld2
namespace Go.Proofs.Ytddnpooffcjhnaa
open Go Go.RowKit Go.Lin Go.Lin.Wv Go.Maps
attribute [local go_sem] Oper.semAt_some

/-- The state of common: the cells of m, w, v, both and of 'more'; the marks. -/
structure CSt (w0 : World) (B cm cw cv cb c9 : Nat) (Ds : List Nat) (lw lv lb : Value) (more : Bool) (x y b : List Int) (W : World) : Prop where
  below : Below w0.heap.size w0 W
  om : W.heap[cm]? = some (.cells #[.pointer (some ⟨B, 0, none⟩)] 58 (0, 0))
  ow : W.heap[cw]? = some (.cells #[lw] 25 (0, 0))
  ov : W.heap[cv]? = some (.cells #[lv] 25 (0, 0))
  ob : W.heap[cb]? = some (.cells #[lb] 25 (0, 0))
  o9 : W.heap[c9]? = some (.cells #[.bool more] 4 (0, 0))
  seg : Seg W w0.heap.size 3 1 lb b.length (b.map (.int .i64))
  wx : WdOff (fun k o => (w0.heap.size ≤ k → IntCells k o) ∧ lb.ownBlock ≠ some k) W lw x
  wy : WdOff (fun k o => (w0.heap.size ≤ k → IntCells k o) ∧ lb.ownBlock ≠ some k) W lv y
  marks : ∀ D ∈ Ds, w0.heap.size ≤ D ∧ W.heap[D]? = some (.deferred (some []))
  nodup : Ds.Nodup

section
variable {w0 : World} {B cm cw cv cb c9 : Nat} {Ds : List Nat} {lw lv lb : Value} {more : Bool} {x y b : List Int} {W W' : World}

theorem CSt.grew (h : CSt w0 B cm cw cv cb c9 Ds lw lv lb more x y b W) (hg : Grew W W') : CSt w0 B cm cw cv cb c9 Ds lw lv lb more x y b W' :=
  ⟨h.below.trans (hg.mono h.below.size), (hg.block _ (lt_of_obj h.om)).trans h.om, (hg.block _ (lt_of_obj h.ow)).trans h.ow, (hg.block _ (lt_of_obj h.ov)).trans h.ov, (hg.block _ (lt_of_obj h.ob)).trans h.ob, (hg.block _ (lt_of_obj h.o9)).trans h.o9,
    h.seg.grew hg, h.wx.grew hg, h.wy.grew hg, fun D hD => ⟨(h.marks D hD).1, (hg.block _ (lt_of_obj (h.marks D hD).2)).trans (h.marks D hD).2⟩, h.nodup⟩

theorem CSt.calls {n : Nat} (h : CSt w0 B cm cw cv cb c9 Ds lw lv lb more x y b W) (hb : w0.heap.size ≤ n) (hk : Keeps (fun k o => n ≤ k ∧ o.isCells = false) W W') (hD : ∀ D ∈ Ds, D < n) : CSt w0 B cm cw cv cb c9 Ds lw lv lb more x y b W' :=
  have hc : ∀ {k : Nat} {c : Array Value} {t : TypeId}, ¬ (n ≤ k ∧ (Obj.cells c t (0, 0)).isCells = false) := fun hm => by cases hm.2
  ⟨h.below.trans (hk.below h.below.size (fun k o hm => by omega)), hk.obj _ _ h.om hc, hk.obj _ _ h.ow hc, hk.obj _ _ h.ov hc, hk.obj _ _ h.ob hc, hk.obj _ _ h.o9 hc,
    h.seg.keeps hk (fun k o _ ⟨cur, ho⟩ hm => by rw [ho] at hm; cases hm.2), h.wx.keeps hk (fun k o ho hm => by obtain ⟨c, fr, ho2⟩ := ho.1 (by omega); rw [ho2] at hm; cases hm.2),
    h.wy.keeps hk (fun k o ho hm => by obtain ⟨c, fr, ho2⟩ := ho.1 (by omega); rw [ho2] at hm; cases hm.2), fun D hm => ⟨(h.marks D hm).1, hk.obj _ _ (h.marks D hm).2 (fun hn => by have := hD D hm; omega)⟩, h.nodup⟩

/-- One mark more. -/
theorem CSt.mark (h : CSt w0 B cm cw cv cb c9 Ds lw lv lb more x y b W) {D : Nat} (hD : w0.heap.size ≤ D) (ho : W.heap[D]? = some (.deferred (some []))) (hn : D ∉ Ds) : CSt w0 B cm cw cv cb c9 (D :: Ds) lw lv lb more x y b W :=
  ⟨h.below, h.om, h.ow, h.ov, h.ob, h.o9, h.seg, h.wx, h.wy, fun D2 hD2 => by
    rcases List.mem_cons.1 hD2 with rfl | hD2
    · exact ⟨hD, ho⟩
    · exact h.marks D2 hD2, List.nodup_cons.2 ⟨hn, h.nodup⟩⟩

/-- 'more' is stored. -/
theorem CSt.setMore (h : CSt w0 B cm cw cv cb c9 Ds lw lv lb more x y b W) (h9 : c9 ≠ cm ∧ c9 ≠ cw ∧ c9 ≠ cv ∧ c9 ≠ cb) (hz : w0.heap.size ≤ c9) (m' : Bool) : CSt w0 B cm cw cv cb c9 Ds lw lv lb m' x y b (W.setCell ⟨c9, 0, none⟩ (.bool m')) ∧ Keeps (fun k o => k = c9 ∧ ∃ c, o = .cells c 4 (0, 0)) W (W.setCell ⟨c9, 0, none⟩ (.bool m')) := by
  have hk : Keeps (fun k o => k = c9 ∧ ∃ c, o = .cells c 4 (0, 0)) W (W.setCell ⟨c9, 0, none⟩ (.bool m')) := keeps_setCell _ _ _ (fun o ho => by rw [h.o9] at ho; cases ho; exact ⟨rfl, _, rfl⟩)
  refine ⟨⟨h.below.trans (hk.below h.below.size (fun k o hm => by omega)), hk.obj _ _ h.om (fun hm => h9.1 hm.1.symm), hk.obj _ _ h.ow (fun hm => h9.2.1 hm.1.symm), hk.obj _ _ h.ov (fun hm => h9.2.2.1 hm.1.symm), hk.obj _ _ h.ob (fun hm => h9.2.2.2 hm.1.symm), ?_,
    h.seg.keeps hk (fun k o _ ⟨cur, ho⟩ ⟨_, c, e⟩ => by rw [ho] at e; cases e), ?_, ?_, fun D hm => ⟨(h.marks D hm).1, hk.obj _ _ (h.marks D hm).2 (fun ⟨_, c, e⟩ => by cases e)⟩, h.nodup⟩, hk⟩
  · rw [heap_setCell_same _ _ _ _ _ _ h.o9]; rfl
  · exact h.wx.keeps hk (fun k o ho ⟨e, c, e2⟩ => by obtain ⟨c', fr, ho2⟩ := ho.1 (by omega); rw [ho2] at e2; cases e2)
  · exact h.wy.keeps hk (fun k o ho ⟨e, c, e2⟩ => by obtain ⟨c', fr, ho2⟩ := ho.1 (by omega); rw [ho2] at e2; cases e2)

/-- A new cell for 'more'. -/
theorem CSt.newMore (h : CSt w0 B cm cw cv cb c9 Ds lw lv lb more x y b W) : CSt w0 B cm cw cv cb W.heap.size Ds lw lv lb more x y b (W.alloc (.cells #[.bool more] 4)) :=
  have hg := grew_alloc (grew_refl W) (.cells #[.bool more] 4)
  have h' := h.grew hg
  ⟨h'.below, h'.om, h'.ow, h'.ov, h'.ob, heap_alloc_new W _, h'.seg, h'.wx, h'.wy, h'.marks, h'.nodup⟩

/-- A letter is taken. w4: behind the append; w5: behind what is taken off v. -/
theorem CSt.step (h : CSt w0 B cm cw cv cb c9 Ds lw lv lb more x y b W) (hne : [cm, cw, cv, cb, c9].Nodup) (hge : ∀ k ∈ [cm, cw, cv, cb, c9], w0.heap.size ≤ k) {w4 w5 : World} {v4 xv yv : Value} {a : Int} {x' y' : List Int} {n₀ : Nat}
    (hown : Seg w4 w0.heap.size 3 1 v4 (b.length + 1) ((b ++ [a]).map (.int .i64))) (hk4 : Keeps (fun k o => lb.ownBlock = some k ∧ ∃ cur, o = .cells cur 3 (0, 0)) W w4) (hblk : ∀ k, v4.ownBlock = some k → lb.ownBlock = some k ∨ W.heap.size ≤ k)
    (hg5 : Grew w4 w5) (hleft : WdOff (fun k o => IntCells k o ∧ n₀ ≤ k) W xv x') (hn₀ : ∀ k, lb.ownBlock = some k → k < n₀) (hyv : Seg w5 w4.heap.size 3 1 yv y'.length (y'.map (.int .i64))) :
    CSt w0 B cm cw cv cb c9 Ds xv yv v4 true x' y' (b ++ [a]) ((((w5.setCell ⟨cb, 0, none⟩ v4).setCell ⟨cw, 0, none⟩ xv).setCell ⟨cv, 0, none⟩ yv).setCell ⟨c9, 0, none⟩ (.bool true)) ∧
      Keeps (fun k o => o.isCells = true ∧ w0.heap.size ≤ k) W ((((w5.setCell ⟨cb, 0, none⟩ v4).setCell ⟨cw, 0, none⟩ xv).setCell ⟨cv, 0, none⟩ yv).setCell ⟨c9, 0, none⟩ (.bool true)) := by
  simp only [List.nodup_cons, List.mem_cons, List.not_mem_nil, or_false, not_or, not_false_eq_true, List.nodup_nil, and_true] at hne
  obtain ⟨⟨m1, m2, m3, m4⟩, ⟨w1, w2, w3⟩, ⟨v1, v2⟩, b1⟩ := hne
  have gm := hge cm (by simp); have gw := hge cw (by simp); have gv := hge cv (by simp); have gb := hge cb (by simp); have g9 := hge c9 (by simp)
  have up : ∀ {k : Nat} {c : Array Value} {t : TypeId}, t ≠ 3 → W.heap[k]? = some (.cells c t (0, 0)) → w5.heap[k]? = some (.cells c t (0, 0)) := fun ht ho =>
    have := hk4.obj _ _ ho (fun ⟨_, cur, e⟩ => by cases e; exact ht rfl)
    (hg5.block _ (lt_of_obj this)).trans this
  have e1 := up (by decide) h.om; have e2 := up (by decide) h.ow; have e3 := up (by decide) h.ov; have e4 := up (by decide) h.ob; have e5 := up (by decide) h.o9
  let C : Nat → Obj → Prop := fun k o => (k = cw ∨ k = cv ∨ k = cb ∨ k = c9) ∧ ∃ c t, o = .cells c t (0, 0) ∧ t ≠ 3
  have k1 : Keeps C w5 (w5.setCell ⟨cb, 0, none⟩ v4) := keeps_setCell _ _ _ (fun o ho => by rw [e4] at ho; cases ho; exact ⟨by simp, _, _, rfl, by decide⟩)
  have f1 : (w5.setCell ⟨cb, 0, none⟩ v4).heap[cb]? = some (.cells #[v4] 25 (0, 0)) := by rw [heap_setCell_same _ _ _ _ _ _ e4]; rfl
  have f2 : (w5.setCell ⟨cb, 0, none⟩ v4).heap[cw]? = some (.cells #[lw] 25 (0, 0)) := by rw [heap_setCell_other _ _ _ _ (by exact w2)]; exact e2
  have f3 : (w5.setCell ⟨cb, 0, none⟩ v4).heap[cv]? = some (.cells #[lv] 25 (0, 0)) := by rw [heap_setCell_other _ _ _ _ (by exact v1)]; exact e3
  have f5 : (w5.setCell ⟨cb, 0, none⟩ v4).heap[c9]? = some (.cells #[.bool more] 4 (0, 0)) := by rw [heap_setCell_other _ _ _ _ (by exact Ne.symm b1)]; exact e5
  have fm : (w5.setCell ⟨cb, 0, none⟩ v4).heap[cm]? = some (.cells #[.pointer (some ⟨B, 0, none⟩)] 58 (0, 0)) := by rw [heap_setCell_other _ _ _ _ (by exact m3)]; exact e1
  generalize w5.setCell ⟨cb, 0, none⟩ v4 = X1 at k1 f1 f2 f3 f5 fm ⊢
  have k2 : Keeps C X1 (X1.setCell ⟨cw, 0, none⟩ xv) := keeps_setCell _ _ _ (fun o ho => by rw [f2] at ho; cases ho; exact ⟨by simp, _, _, rfl, by decide⟩)
  have p1 : (X1.setCell ⟨cw, 0, none⟩ xv).heap[cb]? = some (.cells #[v4] 25 (0, 0)) := by rw [heap_setCell_other _ _ _ _ (by exact Ne.symm w2)]; exact f1
  have p2 : (X1.setCell ⟨cw, 0, none⟩ xv).heap[cw]? = some (.cells #[xv] 25 (0, 0)) := by rw [heap_setCell_same _ _ _ _ _ _ f2]; rfl
  have p3 : (X1.setCell ⟨cw, 0, none⟩ xv).heap[cv]? = some (.cells #[lv] 25 (0, 0)) := by rw [heap_setCell_other _ _ _ _ (by exact Ne.symm w1)]; exact f3
  have p5 : (X1.setCell ⟨cw, 0, none⟩ xv).heap[c9]? = some (.cells #[.bool more] 4 (0, 0)) := by rw [heap_setCell_other _ _ _ _ (by exact Ne.symm w3)]; exact f5
  have pm : (X1.setCell ⟨cw, 0, none⟩ xv).heap[cm]? = some (.cells #[.pointer (some ⟨B, 0, none⟩)] 58 (0, 0)) := by rw [heap_setCell_other _ _ _ _ (by exact m1)]; exact fm
  generalize X1.setCell ⟨cw, 0, none⟩ xv = X2 at k2 p1 p2 p3 p5 pm ⊢
  have k3 : Keeps C X2 (X2.setCell ⟨cv, 0, none⟩ yv) := keeps_setCell _ _ _ (fun o ho => by rw [p3] at ho; cases ho; exact ⟨by simp, _, _, rfl, by decide⟩)
  have q1 : (X2.setCell ⟨cv, 0, none⟩ yv).heap[cb]? = some (.cells #[v4] 25 (0, 0)) := by rw [heap_setCell_other _ _ _ _ (by exact Ne.symm v1)]; exact p1
  have q2 : (X2.setCell ⟨cv, 0, none⟩ yv).heap[cw]? = some (.cells #[xv] 25 (0, 0)) := by rw [heap_setCell_other _ _ _ _ (by exact w1)]; exact p2
  have q3 : (X2.setCell ⟨cv, 0, none⟩ yv).heap[cv]? = some (.cells #[yv] 25 (0, 0)) := by rw [heap_setCell_same _ _ _ _ _ _ p3]; rfl
  have q5 : (X2.setCell ⟨cv, 0, none⟩ yv).heap[c9]? = some (.cells #[.bool more] 4 (0, 0)) := by rw [heap_setCell_other _ _ _ _ (by exact Ne.symm v2)]; exact p5
  have qm : (X2.setCell ⟨cv, 0, none⟩ yv).heap[cm]? = some (.cells #[.pointer (some ⟨B, 0, none⟩)] 58 (0, 0)) := by rw [heap_setCell_other _ _ _ _ (by exact m2)]; exact pm
  generalize X2.setCell ⟨cv, 0, none⟩ yv = X3 at k3 q1 q2 q3 q5 qm ⊢
  have k4 : Keeps C X3 (X3.setCell ⟨c9, 0, none⟩ (.bool true)) := keeps_setCell _ _ _ (fun o ho => by rw [q5] at ho; cases ho; exact ⟨by simp, _, _, rfl, by decide⟩)
  have r1 : (X3.setCell ⟨c9, 0, none⟩ (.bool true)).heap[cb]? = some (.cells #[v4] 25 (0, 0)) := by rw [heap_setCell_other _ _ _ _ (by exact b1)]; exact q1
  have r2 : (X3.setCell ⟨c9, 0, none⟩ (.bool true)).heap[cw]? = some (.cells #[xv] 25 (0, 0)) := by rw [heap_setCell_other _ _ _ _ (by exact w3)]; exact q2
  have r3 : (X3.setCell ⟨c9, 0, none⟩ (.bool true)).heap[cv]? = some (.cells #[yv] 25 (0, 0)) := by rw [heap_setCell_other _ _ _ _ (by exact v2)]; exact q3
  have r5 : (X3.setCell ⟨c9, 0, none⟩ (.bool true)).heap[c9]? = some (.cells #[.bool true] 4 (0, 0)) := by rw [heap_setCell_same _ _ _ _ _ _ q5]; rfl
  have rm : (X3.setCell ⟨c9, 0, none⟩ (.bool true)).heap[cm]? = some (.cells #[.pointer (some ⟨B, 0, none⟩)] 58 (0, 0)) := by rw [heap_setCell_other _ _ _ _ (by exact m4)]; exact qm
  generalize X3.setCell ⟨c9, 0, none⟩ (.bool true) = X4 at k4 r1 r2 r3 r5 rm ⊢
  have kc := ((k1.trans k2).trans k3).trans k4
  have hall : Keeps (fun k o => o.isCells = true ∧ w0.heap.size ≤ k) W X4 :=
    ((hk4.mono (fun k o hm => ⟨by obtain ⟨_, cur, rfl⟩ := hm; rfl, (h.seg.own k hm.1).1⟩)).trans hg5.keeps).trans (kc.mono (fun k o hm => ⟨by obtain ⟨_, c, t, rfl, _⟩ := hm; rfl, by rcases hm.1 with rfl | rfl | rfl | rfl <;> assumption⟩))
  have no3 : ∀ {k : Nat} {c : Array Value} {fr : Nat × Nat}, ¬ C k (.cells c 3 fr) := fun ⟨_, c', t, e, ht⟩ => by cases e; exact ht rfl
  refine ⟨⟨h.below.trans (hall.below h.below.size (fun k o hm => hm.2)), rm, r2, r3, r1, r5, ?_, ?_, ?_, fun D hD => ⟨(h.marks D hD).1, hall.obj _ _ (h.marks D hD).2 (fun hm => by cases hm.1)⟩, h.nodup⟩, hall⟩
  · rw [show (b ++ [a]).length = b.length + 1 by simp]
    exact (hown.grew hg5).keeps kc (fun k o _ ⟨cur, ho⟩ hm => by rw [ho] at hm; exact no3 hm)
  · refine WdOff.re (S := fun k o => (IntCells k o ∧ n₀ ≤ k) ∧ k < W.heap.size) ?_ (fun k o _ hk => ⟨fun _ => hk.1.1, fun e => ?_⟩)
    · refine WdOff.keeps ?_ kc (fun k o hk hm => by obtain ⟨⟨⟨c, fr, ho⟩, _⟩, _⟩ := hk; rw [ho] at hm; exact no3 hm)
      refine WdOff.grew ?_ hg5
      refine WdOff.keeps ?_ hk4 (fun k o hk hm => by have := hn₀ k hm.1; have := hk.1.2; omega)
      exact hleft.re (fun k o ho hk => ⟨hk, lt_of_obj ho⟩)
    · rcases hblk k e with h2 | h2
      · have := hn₀ k h2; have := hk.1.2; omega
      · have := hk.2; omega
  · have hy := wdOff_of_seg hyv
    refine WdOff.re (S := fun k o => IntCells k o ∧ w4.heap.size ≤ k) (hy.keeps kc (fun k o hk hm => by obtain ⟨⟨c, fr, ho⟩, _⟩ := hk; rw [ho] at hm; exact no3 hm)) (fun k o _ hk => ⟨fun _ => hk.1, fun e => ?_⟩)
    obtain ⟨_, hlt, _⟩ := hown.own k e
    have := hk.2; omega
end

end Go.Proofs.Ytddnpooffcjhnaa
