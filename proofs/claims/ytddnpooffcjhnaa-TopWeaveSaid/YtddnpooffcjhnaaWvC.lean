/- Walk: common, of the program. Walk: common, of the program. Walk of the reference: common. -/
import Derived.Test.YtddnpooffcjhnaaWvG
import Derived.Test.YtddnpooffcjhnaaRoundHeld2
namespace Go.Proofs.Ytddnpooffcjhnaa
open Go Go.RowKit Go.Lin Go.Lin.Wv Go.Maps
attribute [local go_sem] Oper.semAt_some

/-- The state of common: the cells of m, w, v, both and of 'more'; the marks. -/
structure CSt (w0 : World) (B cm cw cv cb c9 : Nat) (Ds : List Nat) (lw lv lb : Value) (more : Bool) (x y b : List Int) (W : World) : Prop where
  below : Below w0.heap.size w0 W
  om : W.heap[cm]? = some (.cells #[.pointer (some ⟨B, 0, none⟩)] 58 (0, 0))
  ow : W.heap[cw]? = some (.cells #[lw] 25 (0, 0))
  ov : W.heap[cv]? = some (.cells #[lv] 25 (0, 0))
  ob : W.heap[cb]? = some (.cells #[lb] 25 (0, 0))
  o9 : W.heap[c9]? = some (.cells #[.bool more] 4 (0, 0))
  seg : Seg W w0.heap.size 3 1 lb b.length (b.map (.int .i64))
  wx : WdOff (fun k o => (w0.heap.size ≤ k → IntCells k o) ∧ lb.ownBlock ≠ some k) W lw x
  wy : WdOff (fun k o => (w0.heap.size ≤ k → IntCells k o) ∧ lb.ownBlock ≠ some k) W lv y
  marks : ∀ D ∈ Ds, w0.heap.size ≤ D ∧ W.heap[D]? = some (.deferred (some []))
  nodup : Ds.Nodup

section
variable {w0 : World} {B cm cw cv cb c9 : Nat} {Ds : List Nat} {lw lv lb : Value} {more : Bool} {x y b : List Int} {W W' : World}

theorem CSt.grew (h : CSt w0 B cm cw cv cb c9 Ds lw lv lb more x y b W) (hg : Grew W W') : CSt w0 B cm cw cv cb c9 Ds lw lv lb more x y b W' :=
  ⟨h.below.trans (hg.mono h.below.size), (hg.block _ (lt_of_obj h.om)).trans h.om, (hg.block _ (lt_of_obj h.ow)).trans h.ow, (hg.block _ (lt_of_obj h.ov)).trans h.ov, (hg.block _ (lt_of_obj h.ob)).trans h.ob, (hg.block _ (lt_of_obj h.o9)).trans h.o9,
    h.seg.grew hg, h.wx.grew hg, h.wy.grew hg, fun D hD => ⟨(h.marks D hD).1, (hg.block _ (lt_of_obj (h.marks D hD).2)).trans (h.marks D hD).2⟩, h.nodup⟩

theorem CSt.calls {n : Nat} (h : CSt w0 B cm cw cv cb c9 Ds lw lv lb more x y b W) (hb : w0.heap.size ≤ n) (hk : Keeps (fun k o => n ≤ k ∧ o.isCells = false) W W') (hD : ∀ D ∈ Ds, D < n) : CSt w0 B cm cw cv cb c9 Ds lw lv lb more x y b W' :=
  have hc : ∀ {k : Nat} {c : Array Value} {t : TypeId}, ¬ (n ≤ k ∧ (Obj.cells c t (0, 0)).isCells = false) := fun hm => by cases hm.2
  ⟨h.below.trans (hk.below h.below.size (fun k o hm => by omega)), hk.obj _ _ h.om hc, hk.obj _ _ h.ow hc, hk.obj _ _ h.ov hc, hk.obj _ _ h.ob hc, hk.obj _ _ h.o9 hc,
    h.seg.keeps hk (fun k o _ ⟨cur, ho⟩ hm => by rw [ho] at hm; cases hm.2), h.wx.keeps hk (fun k o ho hm => by obtain ⟨c, fr, ho2⟩ := ho.1 (by omega); rw [ho2] at hm; cases hm.2),
    h.wy.keeps hk (fun k o ho hm => by obtain ⟨c, fr, ho2⟩ := ho.1 (by omega); rw [ho2] at hm; cases hm.2), fun D hm => ⟨(h.marks D hm).1, hk.obj _ _ (h.marks D hm).2 (fun hn => by have := hD D hm; omega)⟩, h.nodup⟩

/-- One mark more. -/
theorem CSt.mark (h : CSt w0 B cm cw cv cb c9 Ds lw lv lb more x y b W) {D : Nat} (hD : w0.heap.size ≤ D) (ho : W.heap[D]? = some (.deferred (some []))) (hn : D ∉ Ds) : CSt w0 B cm cw cv cb c9 (D :: Ds) lw lv lb more x y b W :=
  ⟨h.below, h.om, h.ow, h.ov, h.ob, h.o9, h.seg, h.wx, h.wy, fun D2 hD2 => by
    rcases List.mem_cons.1 hD2 with rfl | hD2
    · exact ⟨hD, ho⟩
    · exact h.marks D2 hD2, List.nodup_cons.2 ⟨hn, h.nodup⟩⟩

/-- 'more' is stored. -/
theorem CSt.setMore (h : CSt w0 B cm cw cv cb c9 Ds lw lv lb more x y b W) (h9 : c9 ≠ cm ∧ c9 ≠ cw ∧ c9 ≠ cv ∧ c9 ≠ cb) (hz : w0.heap.size ≤ c9) (m' : Bool) : CSt w0 B cm cw cv cb c9 Ds lw lv lb m' x y b (W.setCell ⟨c9, 0, none⟩ (.bool m')) ∧ Keeps (fun k o => k = c9 ∧ ∃ c, o = .cells c 4 (0, 0)) W (W.setCell ⟨c9, 0, none⟩ (.bool m')) := by
  have hk : Keeps (fun k o => k = c9 ∧ ∃ c, o = .cells c 4 (0, 0)) W (W.setCell ⟨c9, 0, none⟩ (.bool m')) := keeps_setCell _ _ _ (fun o ho => by rw [h.o9] at ho; cases ho; exact ⟨rfl, _, rfl⟩)
  refine ⟨⟨h.below.trans (hk.below h.below.size (fun k o hm => by omega)), hk.obj _ _ h.om (fun hm => h9.1 hm.1.symm), hk.obj _ _ h.ow (fun hm => h9.2.1 hm.1.symm), hk.obj _ _ h.ov (fun hm => h9.2.2.1 hm.1.symm), hk.obj _ _ h.ob (fun hm => h9.2.2.2 hm.1.symm), ?_,
    h.seg.keeps hk (fun k o _ ⟨cur, ho⟩ ⟨_, c, e⟩ => by rw [ho] at e; cases e), ?_, ?_, fun D hm => ⟨(h.marks D hm).1, hk.obj _ _ (h.marks D hm).2 (fun ⟨_, c, e⟩ => by cases e)⟩, h.nodup⟩, hk⟩
  · rw [heap_setCell_same _ _ _ _ _ _ h.o9]; rfl
  · exact h.wx.keeps hk (fun k o ho ⟨e, c, e2⟩ => by obtain ⟨c', fr, ho2⟩ := ho.1 (by omega); rw [ho2] at e2; cases e2)
  · exact h.wy.keeps hk (fun k o ho ⟨e, c, e2⟩ => by obtain ⟨c', fr, ho2⟩ := ho.1 (by omega); rw [ho2] at e2; cases e2)

/-- A new cell for 'more'. -/
theorem CSt.newMore (h : CSt w0 B cm cw cv cb c9 Ds lw lv lb more x y b W) : CSt w0 B cm cw cv cb W.heap.size Ds lw lv lb more x y b (W.alloc (.cells #[.bool more] 4)) :=
  have hg := grew_alloc (grew_refl W) (.cells #[.bool more] 4)
  have h' := h.grew hg
  ⟨h'.below, h'.om, h'.ow, h'.ov, h'.ob, heap_alloc_new W _, h'.seg, h'.wx, h'.wy, h'.marks, h'.nodup⟩

/-- A letter is taken. w4: behind the append; w5: behind what is taken off v. -/
theorem CSt.step (h : CSt w0 B cm cw cv cb c9 Ds lw lv lb more x y b W) (hne : [cm, cw, cv, cb, c9].Nodup) (hge : ∀ k ∈ [cm, cw, cv, cb, c9], w0.heap.size ≤ k) {w4 w5 : World} {v4 xv yv : Value} {a : Int} {x' y' : List Int} {n₀ : Nat}
    (hown : Seg w4 w0.heap.size 3 1 v4 (b.length + 1) ((b ++ [a]).map (.int .i64))) (hk4 : Keeps (fun k o => lb.ownBlock = some k ∧ ∃ cur, o = .cells cur 3 (0, 0)) W w4) (hblk : ∀ k, v4.ownBlock = some k → lb.ownBlock = some k ∨ W.heap.size ≤ k)
    (hg5 : Grew w4 w5) (hleft : WdOff (fun k o => IntCells k o ∧ n₀ ≤ k) W xv x') (hn₀ : ∀ k, lb.ownBlock = some k → k < n₀) (hyv : Seg w5 w4.heap.size 3 1 yv y'.length (y'.map (.int .i64))) :
    CSt w0 B cm cw cv cb c9 Ds xv yv v4 true x' y' (b ++ [a]) ((((w5.setCell ⟨cb, 0, none⟩ v4).setCell ⟨cw, 0, none⟩ xv).setCell ⟨cv, 0, none⟩ yv).setCell ⟨c9, 0, none⟩ (.bool true)) ∧
      Keeps (fun k o => o.isCells = true ∧ w0.heap.size ≤ k) W ((((w5.setCell ⟨cb, 0, none⟩ v4).setCell ⟨cw, 0, none⟩ xv).setCell ⟨cv, 0, none⟩ yv).setCell ⟨c9, 0, none⟩ (.bool true)) := by
  simp only [List.nodup_cons, List.mem_cons, List.not_mem_nil, or_false, not_or, not_false_eq_true, List.nodup_nil, and_true] at hne
  obtain ⟨⟨m1, m2, m3, m4⟩, ⟨w1, w2, w3⟩, ⟨v1, v2⟩, b1⟩ := hne
  have gm := hge cm (by simp); have gw := hge cw (by simp); have gv := hge cv (by simp); have gb := hge cb (by simp); have g9 := hge c9 (by simp)
  have up : ∀ {k : Nat} {c : Array Value} {t : TypeId}, t ≠ 3 → W.heap[k]? = some (.cells c t (0, 0)) → w5.heap[k]? = some (.cells c t (0, 0)) := fun ht ho =>
    have := hk4.obj _ _ ho (fun ⟨_, cur, e⟩ => by cases e; exact ht rfl)
    (hg5.block _ (lt_of_obj this)).trans this
  have e1 := up (by decide) h.om; have e2 := up (by decide) h.ow; have e3 := up (by decide) h.ov; have e4 := up (by decide) h.ob; have e5 := up (by decide) h.o9
  let C : Nat → Obj → Prop := fun k o => (k = cw ∨ k = cv ∨ k = cb ∨ k = c9) ∧ ∃ c t, o = .cells c t (0, 0) ∧ t ≠ 3
  have k1 : Keeps C w5 (w5.setCell ⟨cb, 0, none⟩ v4) := keeps_setCell _ _ _ (fun o ho => by rw [e4] at ho; cases ho; exact ⟨by simp, _, _, rfl, by decide⟩)
  have f1 : (w5.setCell ⟨cb, 0, none⟩ v4).heap[cb]? = some (.cells #[v4] 25 (0, 0)) := by rw [heap_setCell_same _ _ _ _ _ _ e4]; rfl
  have f2 : (w5.setCell ⟨cb, 0, none⟩ v4).heap[cw]? = some (.cells #[lw] 25 (0, 0)) := by rw [heap_setCell_other _ _ _ _ (by exact w2)]; exact e2
  have f3 : (w5.setCell ⟨cb, 0, none⟩ v4).heap[cv]? = some (.cells #[lv] 25 (0, 0)) := by rw [heap_setCell_other _ _ _ _ (by exact v1)]; exact e3
  have f5 : (w5.setCell ⟨cb, 0, none⟩ v4).heap[c9]? = some (.cells #[.bool more] 4 (0, 0)) := by rw [heap_setCell_other _ _ _ _ (by exact Ne.symm b1)]; exact e5
  have fm : (w5.setCell ⟨cb, 0, none⟩ v4).heap[cm]? = some (.cells #[.pointer (some ⟨B, 0, none⟩)] 58 (0, 0)) := by rw [heap_setCell_other _ _ _ _ (by exact m3)]; exact e1
  generalize w5.setCell ⟨cb, 0, none⟩ v4 = X1 at k1 f1 f2 f3 f5 fm ⊢
  have k2 : Keeps C X1 (X1.setCell ⟨cw, 0, none⟩ xv) := keeps_setCell _ _ _ (fun o ho => by rw [f2] at ho; cases ho; exact ⟨by simp, _, _, rfl, by decide⟩)
  have p1 : (X1.setCell ⟨cw, 0, none⟩ xv).heap[cb]? = some (.cells #[v4] 25 (0, 0)) := by rw [heap_setCell_other _ _ _ _ (by exact Ne.symm w2)]; exact f1
  have p2 : (X1.setCell ⟨cw, 0, none⟩ xv).heap[cw]? = some (.cells #[xv] 25 (0, 0)) := by rw [heap_setCell_same _ _ _ _ _ _ f2]; rfl
  have p3 : (X1.setCell ⟨cw, 0, none⟩ xv).heap[cv]? = some (.cells #[lv] 25 (0, 0)) := by rw [heap_setCell_other _ _ _ _ (by exact Ne.symm w1)]; exact f3
  have p5 : (X1.setCell ⟨cw, 0, none⟩ xv).heap[c9]? = some (.cells #[.bool more] 4 (0, 0)) := by rw [heap_setCell_other _ _ _ _ (by exact Ne.symm w3)]; exact f5
  have pm : (X1.setCell ⟨cw, 0, none⟩ xv).heap[cm]? = some (.cells #[.pointer (some ⟨B, 0, none⟩)] 58 (0, 0)) := by rw [heap_setCell_other _ _ _ _ (by exact m1)]; exact fm
  generalize X1.setCell ⟨cw, 0, none⟩ xv = X2 at k2 p1 p2 p3 p5 pm ⊢
  have k3 : Keeps C X2 (X2.setCell ⟨cv, 0, none⟩ yv) := keeps_setCell _ _ _ (fun o ho => by rw [p3] at ho; cases ho; exact ⟨by simp, _, _, rfl, by decide⟩)
  have q1 : (X2.setCell ⟨cv, 0, none⟩ yv).heap[cb]? = some (.cells #[v4] 25 (0, 0)) := by rw [heap_setCell_other _ _ _ _ (by exact Ne.symm v1)]; exact p1
  have q2 : (X2.setCell ⟨cv, 0, none⟩ yv).heap[cw]? = some (.cells #[xv] 25 (0, 0)) := by rw [heap_setCell_other _ _ _ _ (by exact w1)]; exact p2
  have q3 : (X2.setCell ⟨cv, 0, none⟩ yv).heap[cv]? = some (.cells #[yv] 25 (0, 0)) := by rw [heap_setCell_same _ _ _ _ _ _ p3]; rfl
  have q5 : (X2.setCell ⟨cv, 0, none⟩ yv).heap[c9]? = some (.cells #[.bool more] 4 (0, 0)) := by rw [heap_setCell_other _ _ _ _ (by exact Ne.symm v2)]; exact p5
  have qm : (X2.setCell ⟨cv, 0, none⟩ yv).heap[cm]? = some (.cells #[.pointer (some ⟨B, 0, none⟩)] 58 (0, 0)) := by rw [heap_setCell_other _ _ _ _ (by exact m2)]; exact pm
  generalize X2.setCell ⟨cv, 0, none⟩ yv = X3 at k3 q1 q2 q3 q5 qm ⊢
  have k4 : Keeps C X3 (X3.setCell ⟨c9, 0, none⟩ (.bool true)) := keeps_setCell _ _ _ (fun o ho => by rw [q5] at ho; cases ho; exact ⟨by simp, _, _, rfl, by decide⟩)
  have r1 : (X3.setCell ⟨c9, 0, none⟩ (.bool true)).heap[cb]? = some (.cells #[v4] 25 (0, 0)) := by rw [heap_setCell_other _ _ _ _ (by exact b1)]; exact q1
  have r2 : (X3.setCell ⟨c9, 0, none⟩ (.bool true)).heap[cw]? = some (.cells #[xv] 25 (0, 0)) := by rw [heap_setCell_other _ _ _ _ (by exact w3)]; exact q2
  have r3 : (X3.setCell ⟨c9, 0, none⟩ (.bool true)).heap[cv]? = some (.cells #[yv] 25 (0, 0)) := by rw [heap_setCell_other _ _ _ _ (by exact v2)]; exact q3
  have r5 : (X3.setCell ⟨c9, 0, none⟩ (.bool true)).heap[c9]? = some (.cells #[.bool true] 4 (0, 0)) := by rw [heap_setCell_same _ _ _ _ _ _ q5]; rfl
  have rm : (X3.setCell ⟨c9, 0, none⟩ (.bool true)).heap[cm]? = some (.cells #[.pointer (some ⟨B, 0, none⟩)] 58 (0, 0)) := by rw [heap_setCell_other _ _ _ _ (by exact m4)]; exact qm
  generalize X3.setCell ⟨c9, 0, none⟩ (.bool true) = X4 at k4 r1 r2 r3 r5 rm ⊢
  have kc := ((k1.trans k2).trans k3).trans k4
  have hall : Keeps (fun k o => o.isCells = true ∧ w0.heap.size ≤ k) W X4 :=
    ((hk4.mono (fun k o hm => ⟨by obtain ⟨_, cur, rfl⟩ := hm; rfl, (h.seg.own k hm.1).1⟩)).trans hg5.keeps).trans (kc.mono (fun k o hm => ⟨by obtain ⟨_, c, t, rfl, _⟩ := hm; rfl, by rcases hm.1 with rfl | rfl | rfl | rfl <;> assumption⟩))
  have no3 : ∀ {k : Nat} {c : Array Value} {fr : Nat × Nat}, ¬ C k (.cells c 3 fr) := fun ⟨_, c', t, e, ht⟩ => by cases e; exact ht rfl
  refine ⟨⟨h.below.trans (hall.below h.below.size (fun k o hm => hm.2)), rm, r2, r3, r1, r5, ?_, ?_, ?_, fun D hD => ⟨(h.marks D hD).1, hall.obj _ _ (h.marks D hD).2 (fun hm => by cases hm.1)⟩, h.nodup⟩, hall⟩
  · rw [show (b ++ [a]).length = b.length + 1 by simp]
    exact (hown.grew hg5).keeps kc (fun k o _ ⟨cur, ho⟩ hm => by rw [ho] at hm; exact no3 hm)
  · refine WdOff.re (S := fun k o => (IntCells k o ∧ n₀ ≤ k) ∧ k < W.heap.size) ?_ (fun k o _ hk => ⟨fun _ => hk.1.1, fun e => ?_⟩)
    · refine WdOff.keeps ?_ kc (fun k o hk hm => by obtain ⟨⟨⟨c, fr, ho⟩, _⟩, _⟩ := hk; rw [ho] at hm; exact no3 hm)
      refine WdOff.grew ?_ hg5
      refine WdOff.keeps ?_ hk4 (fun k o hk hm => by have := hn₀ k hm.1; have := hk.1.2; omega)
      exact hleft.re (fun k o ho hk => ⟨hk, lt_of_obj ho⟩)
    · rcases hblk k e with h2 | h2
      · have := hn₀ k h2; have := hk.1.2; omega
      · have := hk.2; omega
  · have hy := wdOff_of_seg hyv
    refine WdOff.re (S := fun k o => IntCells k o ∧ w4.heap.size ≤ k) (hy.keeps kc (fun k o hk hm => by obtain ⟨⟨c, fr, ho⟩, _⟩ := hk; rw [ho] at hm; exact no3 hm)) (fun k o _ hk => ⟨fun _ => hk.1, fun e => ?_⟩)
    obtain ⟨_, hlt, _⟩ := hown.own k e
    have := hk.2; omega
end

end Go.Proofs.Ytddnpooffcjhnaa
namespace Go.Proofs.Ytddnpooffcjhnaa
open Go Go.RowKit Go.Lin Go.Lin.Wv Go.Maps
attribute [local go_sem] Oper.semAt_some

theorem results_common {t1 t2 t3 : Tmp} {fn : Func} {tmps : Array Value} {p : Nat} {W : World} {a : Option Addr} {n m : Nat} {u x y : Value} (h : fn.results = #[.cell t1 25, .tmp t2, .tmp t3]) (h1 : tmps[t1]?.getD undef = .pointer (some ⟨p, 0, none⟩)) (h2 : tmps[t2]?.getD undef = x) (h3 : tmps[t3]?.getD undef = y)
    (c0 : W.cell? ⟨p, 0, none⟩ = some u) (hu : u = .slice a n m) : (results fn tmps).run Try.prog W = .ok (.tuple #[u, x, y]) W := by
  subst hu
  simp [results, h, h1, h2, h3, go_sem, c0, Try.isAgg25]

theorem find_first {p : Int → Bool} {l pre post : List Int} {a : Int} (h : l = pre ++ a :: post) (hpre : ∀ x ∈ pre, p x = false) (ha : p a = true) : l.find? p = some a := by
  rw [h, List.find?_append]
  have : pre.find? p = none := List.find?_eq_none.2 (fun x hx => by rw [hpre x hx]; simp)
  rw [this]
  simp [ha]

set_option maxHeartbeats 16000000 in
set_option maxRecDepth 100000 in
theorem common_any (D : Int → Int → Bool) (B N : Nat) (x0 y0 : List Int) (wv yv : Value) (w : World) (hN : N ≤ 6) (hx0 : ∀ z ∈ x0, 0 ≤ z ∧ z < (N : Int)) (hy0 : ∀ z ∈ y0, 0 ≤ z ∧ z < (N : Int)) (hlx : x0.length ≤ 100) (hly : y0.length ≤ 100) (hL : Loom w B D N) (hx : IsWd w wv x0) (hy : IsWd w yv y0) :
    Calls Try.prog 66 #[.pointer (some ⟨B, 0, none⟩), wv, yv] w fun e w' => ∃ u p q, e = .returned (.tuple #[u, p, q]) ∧ IsWd w' u (common D N x0 y0).1 ∧ IsWd w' p (common D N x0 y0).2.1 ∧ IsWd w' q (common D N x0 y0).2.2 ∧ Grew w w' := by
  obtain ⟨R, hR⟩ : ∃ R, common D N x0 y0 = R := ⟨_, rfl⟩
  rw [hR]
  have HW := hid hx0; have HY := hid hy0; have HL := hid hL
  have HR0 := hid (show R = ([] ++ (common D N x0 y0).1, (common D N x0 y0).2) from by rw [← hR]; rfl)
  have hxw := hx; have hyw := hy
  obtain ⟨xa, xc, rfl⟩ := isWd_slice hx
  obtain ⟨ya, yc, rfl⟩ := isWd_slice hy
  obtain ⟨W1, hW1, g1, k1, hz1⟩ := box1 w (.pointer (some ⟨B, 0, none⟩)) 58
  obtain ⟨W2, hW2, g2, k2, hz2⟩ := box1 W1 (.slice xa x0.length xc) 25
  obtain ⟨W3, hW3, g3, k3, hz3⟩ := box1 W2 (.slice ya y0.length yc) 25
  obtain ⟨W4, hW4, g4, k4, hz4⟩ := box1 W3 (.slice none 0 0) 25
  have o1 : W1.heap[w.heap.size]? = some (.cells #[.pointer (some ⟨B, 0, none⟩)] 58 (0, 0)) := by rw [← hW1]; exact heap_alloc_new w _
  have o2 : W2.heap[W1.heap.size]? = some (.cells #[.slice xa x0.length xc] 25 (0, 0)) := by rw [← hW2]; exact heap_alloc_new W1 _
  have o3 : W3.heap[W2.heap.size]? = some (.cells #[.slice ya y0.length yc] 25 (0, 0)) := by rw [← hW3]; exact heap_alloc_new W2 _
  have o4 : W4.heap[W3.heap.size]? = some (.cells #[.slice none 0 0] 25 (0, 0)) := by rw [← hW4]; exact heap_alloc_new W3 _
  have g14 := grew_trans g2 (grew_trans g3 g4)
  have g04 := grew_trans g1 g14
  obtain ⟨W5, hW5⟩ : ∃ W5, W4.alloc (.cells #[.bool true] 4) = W5 := ⟨_, rfl⟩
  have hst0 : CSt w B w.heap.size W1.heap.size W2.heap.size W3.heap.size W4.heap.size [] (.slice xa x0.length xc) (.slice ya y0.length yc) (.slice none 0 0) true x0 y0 [] W5 := by
    rw [← hW5]
    have hg := grew_alloc (grew_refl W4) (.cells #[.bool true] 4)
    have off : ∀ {v : Value} {xs : List Int}, IsWd w v xs → WdOff (fun k o => (w.heap.size ≤ k → IntCells k o) ∧ (Value.slice none 0 0).ownBlock ≠ some k) W4 v xs := fun h => by
      refine WdOff.grew ?_ g04
      exact h.off.re (fun k o ho _ => ⟨fun hk => by have := lt_of_obj ho; omega, by simp [Value.ownBlock]⟩)
    refine ⟨g04.trans (hg.mono g04.size), (hg.block _ (lt_of_obj ((g14.block _ hz1).trans o1))).trans ((g14.block _ hz1).trans o1), ?_, ?_, (hg.block _ hz4).trans o4, heap_alloc_new W4 _, Seg.nil _ _ _ _, (off hxw).grew hg, (off hyw).grew hg, fun D h => (by cases h), List.nodup_nil⟩
    · exact ((grew_trans g3 (grew_trans g4 hg)).block _ hz2).trans o2
    · exact ((grew_trans g4 hg).block _ hz3).trans o3
  have HST := hid hst0
  have hne : w.heap.size < W1.heap.size ∧ W1.heap.size < W2.heap.size ∧ W2.heap.size < W3.heap.size ∧ W3.heap.size < W4.heap.size := ⟨hz1, hz2, hz3, hz4⟩
  have HNE := hid hne
  obtain ⟨m, hm⟩ : ∃ m, x0.length = m := ⟨_, rfl⟩
  obtain ⟨n, hn⟩ : ∃ n, y0.length = n := ⟨_, rfl⟩
  have HMX := hid hm; have HMY := hid hn
  have hz5 : W4.heap.size < W5.heap.size := by rw [← hW5]; simp
  rw [hm] at hW2 ⊢; rw [hn] at hW3 ⊢
  clear hst0 hR hx0 hy0 hL hxw hyw o1 o2 o3 o4 g14 k1 k2 k3 k4 hx hy
  have hz04 := g04.size
  obtain ⟨cm, hcm⟩ : ∃ c, w.heap.size = c := ⟨_, rfl⟩
  obtain ⟨cw, hcw⟩ : ∃ c, W1.heap.size = c := ⟨_, rfl⟩
  obtain ⟨cv, hcv⟩ : ∃ c, W2.heap.size = c := ⟨_, rfl⟩
  obtain ⟨cb, hcb⟩ : ∃ c, W3.heap.size = c := ⟨_, rfl⟩
  obtain ⟨c90, hc9⟩ : ∃ c, W4.heap.size = c := ⟨_, rfl⟩
  refine (callsIn_wide (n := 9)).1 ?_
  refine callsIn_of_wp_marks Try.func66 rfl trivial ?_ rfl
  simp only [Try.ntmps66, List.size_toArray, List.length_cons, List.length_nil, Nat.reduceAdd, Nat.reduceSub, Array.replicate_succ, Array.replicate_zero, List.push_toArray, List.append_toArray, List.nil_append, List.cons_append]
  gi_wp2
  have HCM := hid hcm
  rw [hcm, hcw, hcv, hcb, hc9] at HST HNE
  rw [hc9] at hz5
  have hne := HNE.out
  clear hcm hcw hcv hcb hc9 hW1 hW2 hW3 hW4 hW5 g1 g2 g3 g4 g04 hz1 hz2 hz3 hz4 hz04
  refine wpIn_loop_ghost_k (fun k a' w' => ∃ u13 u14 u15 u16 u33 : Value, ∃ (c9 : Nat) (Ds : List Nat) (lw lv lb : Value) (more : Bool) (x y b : List Int), (k = x.length + (if more then 1 else 0) ∧ x.length ≤ 100 ∧ y.length ≤ 100 ∧ b.length + x.length = m ∧ cb < c9 ∧ Hid (∀ z ∈ x, 0 ≤ z ∧ z < (N : Int)) ∧ Hid (∀ z ∈ y, 0 ≤ z ∧ z < (N : Int)) ∧ Hid (R = (b ++ (common D N x y).1, (common D N x y).2)) ∧ Hid (more = false → common D N x y = ([], x, y)) ∧ Hid (CSt w B cm cw cv cb c9 Ds lw lv lb more x y b w')) ∧
    a' = { tmps := #[.pointer (some ⟨B, 0, none⟩), .slice xa m xc, .slice ya n yc, .pointer (some ⟨cm, 0, none⟩), .pointer (some ⟨cw, 0, none⟩), .pointer (some ⟨cv, 0, none⟩), .pointer (some ⟨cb, 0, none⟩), .slice none 0 0, .slice none 0 0, .pointer (some ⟨c9, 0, none⟩), undef, undef, undef, u13, u14, u15, u16, undef, undef, undef, undef, undef, undef, undef, undef, undef, undef, undef, undef, undef, undef, undef, undef, u33, undef, undef, undef], defers := Ds.map markOf }) (m + 1) ?start ?round
  case start => exact ⟨_, _, _, _, _, c90, [], _, _, _, true, x0, y0, [], ⟨by rw [HMX.out]; rfl, hlx, hly, by rw [HMX.out]; simp, hne.2.2.2, HW, HY, HR0, hid (fun h => by cases h), HST⟩, rfl⟩
  case round =>
    rintro gk a' wr ⟨u13, u14, u15, u16, u33, c9, Ds, lw, lv, lb, more, x, y, b, ⟨hk, hlx', hly', hsum, hc9, HWX, HWY, HRR, HMO, HS⟩, rfl⟩ J K hJ hK
    have HK := hid hk; clear hk
    obtain ⟨⟨la, lc, hlw, -⟩, -⟩ := HS.out.wx
    obtain ⟨⟨va, vc, hlv, -⟩, -⟩ := HS.out.wy
    obtain ⟨ba, bc, hlb, -⟩ := HS.out.seg.shape
    subst hlw hlv hlb
    have q9 : wr.cell? ⟨c9, 0, none⟩ = some (.bool more) := cell_of_row _ _ _ _ _ _ HS.out.o9
    have f9 := frozen_obj HS.out.o9 0
    have l9 := lt_of_obj HS.out.o9
    have qm : wr.cell? ⟨cm, 0, none⟩ = some (.pointer (some ⟨B, 0, none⟩)) := cell_of_row _ _ _ _ _ _ HS.out.om
    have qw : wr.cell? ⟨cw, 0, none⟩ = some (.slice la x.length lc) := cell_of_row _ _ _ _ _ _ HS.out.ow
    have qv : wr.cell? ⟨cv, 0, none⟩ = some (.slice va y.length vc) := cell_of_row _ _ _ _ _ _ HS.out.ov
    have qb : wr.cell? ⟨cb, 0, none⟩ = some (.slice ba b.length bc) := cell_of_row _ _ _ _ _ _ HS.out.ob
    have fb := frozen_obj HS.out.ob 0
    have hwl : w.heap.size ≤ c9 := by rw [HCM.out]; omega
    cases more with
    | true =>
      obtain ⟨hs1, hk1⟩ := HS.out.setMore ⟨by omega, by omega, by omega, by omega⟩ hwl false
      have HS1 := hid hs1
      have j9 : (wr.setCell ⟨c9, 0, none⟩ (.bool false)).cell? ⟨c9, 0, none⟩ = some (.bool false) := cell_of_row _ _ _ _ _ _ hs1.o9
      have jm : (wr.setCell ⟨c9, 0, none⟩ (.bool false)).cell? ⟨cm, 0, none⟩ = some (.pointer (some ⟨B, 0, none⟩)) := cell_of_row _ _ _ _ _ _ hs1.om
      have jw : (wr.setCell ⟨c9, 0, none⟩ (.bool false)).cell? ⟨cw, 0, none⟩ = some (.slice la x.length lc) := cell_of_row _ _ _ _ _ _ hs1.ow
      have HS90 := hid (starts90_any B la x.length lc (wr.setCell ⟨c9, 0, none⟩ (.bool false)))
      clear hs1 hk1
      gi_wp2_with (refine ⟨trivial, ?_⟩; gi_at_call 90; refine (callsIn_wide.2 HS90.out).mono ?_; rintro e w1 ⟨rfl, hx1, hb1, hb2⟩; have HX1 := hid hx1; have HB1 := hid hb1; have HB2 := hid hb2; clear hx1 hb1 hb2)
      have hsz : (wr.setCell ⟨c9, 0, none⟩ (.bool false)).heap.size = wr.heap.size := by simp
      have b1 : w1.cell? ⟨wr.heap.size, 0, none⟩ = some (.pointer (some ⟨B, 0, none⟩)) := by have h := HB1.out; rw [hsz] at h; exact h
      have b2 : w1.cell? ⟨wr.heap.size + 1, 0, none⟩ = some (.slice la x.length lc) := by have h := HB2.out; rw [hsz] at h; exact h
      have hS1 := HS1.out.grew HX1.out
      have HSW := hid hS1
      have HL1 := hid (HL.out.grew hS1.below)
      have hB1 := (HL.out.grew hS1.below).lt
      have hBw := HL.out.lt
      have HSEQ := hid (starts_stops D B N x wr.heap.size (wr.heap.size + 1) (.slice la x.length lc) w1 8 (by decide) hN HWX.out hlx' HL1.out b1 b2 (fun k _ => w1.heap.size ≤ k) (fun _ _ h => by omega) (fun _ h h2 => by have := lt_of_obj h; omega) (fun _ h h2 => by have := lt_of_obj h; omega)
        (hS1.wx.wd.off.re (fun k o ho _ h => by have := lt_of_obj ho; omega)))
      have HW1 := hid (show w.heap.size ≤ w1.heap.size by have := hS1.below.size; omega)
      have lcm := lt_of_obj hS1.om; have lcw := lt_of_obj hS1.ow; have lcv := lt_of_obj hS1.ov; have lcb := lt_of_obj hS1.ob; have lc9 := lt_of_obj hS1.o9
      have HOV := hid (show ∀ k, (Value.slice ba b.length bc).ownBlock = some k → k < w1.heap.size from fun k hk => (hS1.seg.own k hk).2.1)
      have HMK := hid (show ∀ D ∈ Ds, D < w1.heap.size from fun D hD => lt_of_obj (hS1.marks D hD).2)
      clear hS1 b1 b2 j9 jm jw hsz
      refine wpIn_rangeFunc_sep (P := Try.prog) rfl (by decide) (gf := 104) (fa := #[]) rfl trivial (enters_of Try.func104 (by kernel_rfl) rfl) HSEQ.out (grew_refl w1) (fun _ _ h => h) (fun _ => rfl)
        (fun pre T W => Grew w1 W ∧ (∀ k, T k → w1.heap.size ≤ k) ∧ ∀ p ∈ pre, free D y p.1 = none)
        (fun c _ W => c = .exit 2 ∧ w1.heap.size ≤ W.heap.size ∧ ∃ a, (starts D N x).find? (fun a => (free D y a).isSome) = some a ∧ ∃ lw' lv' lb', CSt w B cm cw cv cb c9 Ds lw' lv' lb' true (rem D x a) (rem D y a) (b ++ [a]) W)
        ?hI ?hIx ?hHas ⟨grew_refl _, fun k h => h.elim, fun p h => (by cases h)⟩
        (fun x' => { tmps := #[.pointer (some ⟨B, 0, none⟩), .slice xa m xc, .slice ya n yc, .pointer (some ⟨cm, 0, none⟩), .pointer (some ⟨cw, 0, none⟩), .pointer (some ⟨cv, 0, none⟩), .pointer (some ⟨cb, 0, none⟩), .slice none 0 0, .slice none 0 0, .pointer (some ⟨c9, 0, none⟩), .int .i64 x'.1, x'.2, undef, .bool true, .pointer (some ⟨B, 0, none⟩), .slice la x.length lc, .func (.func 104) #[] #[.pointer (some ⟨wr.heap.size, 0, none⟩), .pointer (some ⟨wr.heap.size + 1, 0, none⟩)], .int .i64 x'.1, x'.2, undef, undef, undef, undef, undef, undef, undef, undef, undef, undef, undef, undef, undef, undef, u33, undef, undef, undef], defers := [] })
        ?assign ?body ?done ?stop
      case hI =>
        rintro pre T W W' ⟨hg, hT, hf⟩ hk T' hT'
        refine ⟨hg.trans (hk.below hg.size (fun k o h => h.elim (hT k) (fun h => h.1))), fun k h => ?_, hf⟩
        rcases hT' k h with h | h
        · exact hT k h
        · have := hg.size; omega
      case hIx =>
        rintro c pre W W' ⟨rfl, hz, a, h1, lw', lv', lb', h2⟩ hk
        exact ⟨rfl, Nat.le_trans hz hk.size, a, h1, lw', lv', lb', h2.calls HW1.out hk HMK.out⟩
      case hHas =>
        rintro pre x' W W' hh hk
        exact hh.keeps hk (fun k c fr hm => by cases hm.2.2)
      case assign =>
        rintro l ⟨xa', xv⟩ W K hK
        dsimp only [encS]
        gi_wp2
        exact hK
      case body =>
        rintro l pre T ⟨a, xv⟩ W ⟨hg, hT0, hfr⟩ hh hT hlt
        have hmem := (mem_starts.1 hh.mem).1
        simp only at hmem
        obtain ⟨a', rfl⟩ : ∃ a' : Nat, a = a' := ⟨a.toNat, by omega⟩
        have hat := hh.at'
        have hleft := hh.left
        simp only at hat hleft
        have hSW := HSW.out.grew hg
        have HSX := hid hSW
        have cm0 : W.cell? ⟨cm, 0, none⟩ = some (.pointer (some ⟨B, 0, none⟩)) := cell_of_row _ _ _ _ _ _ hSW.om
        have cv0 : W.cell? ⟨cv, 0, none⟩ = some (.slice va y.length vc) := cell_of_row _ _ _ _ _ _ hSW.ov
        have hst := start_any B N a' _ y W hN (by omega) HWY.out (HL1.out.grew hg) hSW.wy.wd.ints
        obtain ⟨fy, hfy⟩ : ∃ fy, free D y (a' : Int) = fy := ⟨_, rfl⟩
        rw [hfy] at hst
        have HAT := hid hat; have HLF := hid hleft; have HFR := hid hfr; have HGW := hid hg; have HFY := hid hfy; have HT0 := hid hT0
        obtain ⟨⟨ra, rc, hxv, -⟩, -⟩ := id hleft
        subst hxv
        clear hSW hh hat hleft hfr hg hfy hT0
        cases fy with
        | none =>
          rw [show ix none = -1 from rfl] at hst
          have HST' := hid hst
          clear hst
          gi_wp2_with (refine ⟨trivial, ?_⟩; gi_at_call 99; refine (CallsIn.inRound l (callsIn_wide.2 HST'.out)).mono ?_; rintro e w2 ⟨rfl, hx2⟩; have HX2 := hid hx2; clear hx2)
          refine ⟨HX2.out.keeps, grew_trans HGW.out HX2.out, HT0.out, fun p hp => ?_⟩
          rcases List.mem_append.1 hp with hp | hp
          · exact HFR.out p hp
          · simp only [List.mem_singleton] at hp; subst hp; exact HFY.out
        | some j =>
          rw [show ix (some j) = (j : Int) from rfl] at hst
          have HST' := hid hst
          obtain ⟨hjl, -⟩ := free_lt HFY.out
          have hj0 : (0 : Int) ≤ (j : Int) := by omega
          have hmx : Try.prog.follows .mixedOrders = true := by kernel_rfl
          have lW1 := HGW.out.size
          clear hst
          gi_wp2_with (refine ⟨trivial, ?_⟩; gi_at_call 99; refine (CallsIn.inRound l (callsIn_wide.2 HST'.out)).mono ?_; rintro e w2 ⟨rfl, hx2⟩; have HX2 := hid hx2; clear hx2)
          have hS2 := HSX.out.grew HX2.out
          have d0 : w2.cell? ⟨cb, 0, none⟩ = some (.slice ba b.length bc) := cell_of_row _ _ _ _ _ _ hS2.ob
          have d1 : w2.cell? ⟨cv, 0, none⟩ = some (.slice va y.length vc) := cell_of_row _ _ _ _ _ _ hS2.ov
          have lw2 := HX2.out.size
          have HS2 := hid hS2
          clear hS2 cv0 cm0
          refine wpIn_region_gate (fun w' => w'.cell? ⟨cb, 0, none⟩ = some (.slice ba b.length bc) ∧ w'.cell? ⟨cv, 0, none⟩ = some (.slice va y.length vc)) 8 hmx ?_
          have hS0 : w2.drew.cell? ⟨cb, 0, none⟩ = some (.slice ba b.length bc) ∧ w2.drew.cell? ⟨cv, 0, none⟩ = some (.slice va y.length vc) := ⟨d0, d1⟩
          refine wpAnyG_take (i := 0) [3] rfl (by kernel_rfl) (by kernel_rfl) (by kernel_rfl) (by kernel_rfl) (by kernel_rfl) (by kernel_rfl) (fun _ _ _ h => h) (fun _ => rfl) (v := .slice ba b.length bc) (fun w' h => ?_) (fun _ => rfl) (by assumption) ?_
          · (obtain ⟨h1, h2⟩ := h; go_simp)
          simp only [Act.put, List.setIfInBounds_toArray, List.set_cons_zero, List.set_cons_succ]
          refine wpAnyG_take (i := 1) [3, 2] rfl (by kernel_rfl) (by kernel_rfl) (by kernel_rfl) (by kernel_rfl) (by kernel_rfl) (by kernel_rfl) (fun _ _ _ h => h) (fun _ => rfl) (v := .int .i64 (a' : Int)) (fun w' h => ?_) (fun _ => rfl) (by assumption) ?_
          · (go_simp)
          simp only [Act.put, List.setIfInBounds_toArray, List.set_cons_zero, List.set_cons_succ]
          refine wpAnyG_take (i := 5) [7] rfl (by kernel_rfl) (by kernel_rfl) (by kernel_rfl) (by kernel_rfl) (by kernel_rfl) (by kernel_rfl) (fun _ _ _ h => h) (fun _ => rfl) (v := .slice va y.length vc) (fun w' h => ?_) (fun _ => rfl) (by assumption) ?_
          · (obtain ⟨h1, h2⟩ := h; go_simp)
          simp only [Act.put, List.setIfInBounds_toArray, List.set_cons_zero, List.set_cons_succ]
          refine wpAnyG_take (i := 6) [7] rfl (by kernel_rfl) (by kernel_rfl) (by kernel_rfl) (by kernel_rfl) (by kernel_rfl) (by kernel_rfl) (fun _ _ _ h => h) (fun _ => rfl) (v := .int .i64 (j : Int)) (fun w' h => ?_) (fun _ => rfl) (by assumption) ?_
          · (go_simp)
          simp only [Act.put, List.setIfInBounds_toArray, List.set_cons_zero, List.set_cons_succ]
          refine wpAnyG_move (i := 4) rfl (by kernel_rfl) (by kernel_rfl) (by kernel_rfl) (by kernel_rfl) (by kernel_rfl) (fun _ _ _ h => h) (fun _ => rfl) (v := .slice ra (rem D x (a' : Int)).length rc) (fun w' => ?_) (fun _ => rfl) (by assumption) ?_
          · go_simp
          simp only [Act.put, List.setIfInBounds_toArray, List.set_cons_zero, List.set_cons_succ]
          refine wpAnyG_one (i := 2) rfl (by kernel_rfl) ?_
          gi_wp2
          have hgX : Grew w2 (w2.alloc (.cells #[.int .i64 (a' : Int)] 3)).drew := grew_drew (grew_alloc (grew_refl w2) _)
          have zb := lt_of_obj HS2.out.ob; have zv := lt_of_obj HS2.out.ov
          have x0' := (hgX.cell (p := ⟨cb, 0, none⟩) zb).trans d0
          have x1' := (hgX.cell (p := ⟨cv, 0, none⟩) zv).trans d1
          have HGX := hid hgX
          have hb9 : b.length < 1000000000 := by omega
          have hzX : w.heap.size ≤ (w2.alloc (.cells #[.int .i64 (a' : Int)] 3)).drew.heap.size := by have := HS2.out.below.size; have := hgX.size; omega
          refine ⟨fun _ => ⟨x0', x1'⟩, ?_⟩
          clear hgX
          refine wpAnyG_one (i := 3) rfl (by kernel_rfl) ?_
          gi_wp2_with (gi_at_builtin; refine wpListIn_append_one rfl _ _ 25 rfl w.heap.size 3 Try.underlying25 Try.info3 rfl (by decide) _ b.length _ rfl (HS2.out.seg.grew HGX.out) w2.heap.size 1 (.int .i64 (a' : Int)) rfl (show _ = _ from one_new w2 _ _) rfl hb9 hzX ?_; intro v4 w4 hown4 hgrow4 hblk4; have hk4 : Keeps (fun k o => (Value.slice ba b.length bc).ownBlock = some k ∧ ∃ cur, o = .cells cur 3 (0, 0)) w2 w4 := ((Keeps.refl _ w2).alloc _).drew.grown hgrow4 (fun k o e ho => by obtain ⟨_, _, cur, hcur⟩ := HS2.out.seg.own k e; have h2 : (w2.alloc (.cells #[.int .i64 (a' : Int)] 3)).drew.heap[k]? = some (.cells cur 3 (0, 0)) := (HGX.out.block k (lt_of_obj hcur)).trans hcur; rw [h2] at ho; cases ho; exact ⟨e, _, rfl⟩); have HK4 := hid hk4; have HOWN4 := hid hown4; have HBLK4 := hid hblk4; obtain ⟨a4, c4', rfl, _⟩ := hown4.shape; clear hown4 hgrow4 hblk4 hk4)
          have no3 : ∀ {k : Nat} {c : Array Value} {t : TypeId}, t ≠ 3 → ¬ ((Value.slice ba b.length bc).ownBlock = some k ∧ ∃ cur, (Obj.cells c t (0, 0)) = .cells cur 3 (0, 0)) := fun ht ⟨_, cur, e⟩ => by cases e; exact ht rfl
          have ob4 := HK4.out.obj _ _ HS2.out.ob (no3 (by decide)); have ov4 := HK4.out.obj _ _ HS2.out.ov (no3 (by decide)); have ow4 := HK4.out.obj _ _ HS2.out.ow (no3 (by decide)); have o94 := HK4.out.obj _ _ HS2.out.o9 (no3 (by decide))
          have y0' : w4.cell? ⟨cb, 0, none⟩ = some (.slice ba b.length bc) := cell_of_row _ _ _ _ _ _ ob4
          have y1' : w4.cell? ⟨cv, 0, none⟩ = some (.slice va y.length vc) := cell_of_row _ _ _ _ _ _ ov4
          have hwo := without_any _ y j w4 hjl hly' (HS2.out.wy.keeps HK4.out (fun k o h hm => h.2 hm.1)).wd
          have HWO := hid hwo
          refine ⟨fun _ => ⟨y0', y1'⟩, ?_⟩
          refine wpAnyG_one (i := 7) rfl (by kernel_rfl) ?_
          clear hwo
          gi_wp2_with (refine ⟨trivial, ?_⟩; gi_at_call 100; refine (CallsIn.inRound l (callsIn_wide.2 HWO.out)).mono ?_; rintro e w5 ⟨yv', rfl, hs5, hg5⟩; have HS5 := hid hs5; have HG5 := hid hg5; obtain ⟨a5, c5, rfl, _⟩ := hs5.shape; clear hs5 hg5)
          have ob5 := (HG5.out.block _ (lt_of_obj ob4)).trans ob4; have ov5 := (HG5.out.block _ (lt_of_obj ov4)).trans ov4; have ow5 := (HG5.out.block _ (lt_of_obj ow4)).trans ow4; have o95 := (HG5.out.block _ (lt_of_obj o94)).trans o94
          have z0 : w5.cell? ⟨cb, 0, none⟩ = some _ := cell_of_row _ _ _ _ _ _ ob5
          have z1 : w5.cell? ⟨cv, 0, none⟩ = some _ := cell_of_row _ _ _ _ _ _ ov5
          have z2 : w5.cell? ⟨cw, 0, none⟩ = some _ := cell_of_row _ _ _ _ _ _ ow5
          have z3 : w5.cell? ⟨c9, 0, none⟩ = some _ := cell_of_row _ _ _ _ _ _ o95
          have t0 := frozen_obj ob5 0; have t1 := frozen_obj ov5 0; have t2 := frozen_obj ow5 0; have t3 := frozen_obj o95 0
          refine ⟨fun _ => ⟨z0, z1⟩, ?_⟩
          have n1 : cw ≠ cb := by omega
          have n2 : cv ≠ cb := by omega
          have n3 : c9 ≠ cb := by omega
          have n4 : cv ≠ cw := by omega
          have n5 : c9 ≠ cw := by omega
          have n6 : c9 ≠ cv := by omega
          clear ob4 ov4 ow4 o94 ob5 ov5 ow5 o95
          refine wpAnyG_one (i := 8) rfl (by kernel_rfl) ?_
          gi_wp2
          refine ⟨gate_done (by kernel_rfl), ?_⟩
          refine wpAnyG_one (i := 9) rfl (by kernel_rfl) ?_
          gi_wp2
          refine ⟨gate_done (by kernel_rfl), ?_⟩
          refine wpAnyG_one (i := 10) rfl (by kernel_rfl) ?_
          gi_wp2
          refine ⟨gate_done (by kernel_rfl), ?_⟩
          refine wpAnyG_one (i := 11) rfl (by kernel_rfl) ?_
          gi_wp2
          refine ⟨gate_done (by kernel_rfl), ?_⟩
          refine wpAnyG_done (by kernel_rfl) ?_ _
          simp only [NoP]
          gi_wp2
          have hws : w.heap.size ≤ cm := by rw [HCM.out]; exact Nat.le_refl _
          obtain ⟨hst', hkp⟩ := CSt.step HS2.out (by simp only [List.nodup_cons, List.mem_cons, List.not_mem_nil, or_false, not_or, not_false_eq_true, List.nodup_nil, and_true]; omega) (fun k hk => by simp only [List.mem_cons, List.not_mem_nil, or_false] at hk; rcases hk with rfl | rfl | rfl | rfl | rfl <;> omega) (n₀ := w1.heap.size) (a := (a' : Int)) (by rw [List.map_append]; exact HOWN4.out) HK4.out (fun k hk => by
            rcases HBLK4.out with h | h
            · exact .inl (h.symm.trans hk)
            · have e := h.symm.trans hk; simp at e; exact .inr (by omega)) HG5.out (HLF.out.grew HX2.out) HOV.out HS5.out
          refine ⟨(HX2.out.keeps.trans hkp).mono (fun k o hm => .inr hm.1), rfl, ?_, ?_⟩
          · have := hkp.size; omega
          · refine ⟨(a' : Int), find_first HAT.out (fun p hp => ?_) (by rw [HFY.out]; rfl), _, _, _, by rw [show rem D y (a' : Int) = y.eraseIdx j from free_pos HFY.out]; exact hst'⟩
            obtain ⟨p', hp', rfl⟩ := List.mem_map.1 hp
            rw [HFR.out p' hp']; rfl
      case done =>
        rintro D' xs' T W hD hS' ⟨hg, hT0, hfr⟩ hK'
        have hc := common_none (D := D) (n := N) (w := x) (v := y) (List.find?_eq_none.2 (fun a ha => by
          rw [← hS'] at ha
          obtain ⟨p, hp, rfl⟩ := List.mem_map.1 ha
          rw [hfr p hp]; simp))
        have hSW := (HSW.out.grew hg).mark (Nat.le_trans HW1.out hD) hK' (fun h => by have := HMK.out _ h; omega)
        have HSX := hid hSW
        have q9 : W.cell? ⟨c9, 0, none⟩ = some (.bool false) := cell_of_row _ _ _ _ _ _ hSW.o9
        have l9' := lt_of_obj hSW.o9
        have HC := hid hc
        clear hSW hc hS' hfr hK' hg
        gi_wp2
        refine Handed.intro x.length ?_ ?_
        · rw [HK.out]; simp
        · first | gi_step | go_step
          exact ⟨_, _, _, _, _, W.heap.size, D' :: Ds, _, _, _, false, x, y, b, ⟨rfl, hlx', hly', hsum, by omega, HWX, HWY, HRR, hid (fun _ => HC.out), hid HSX.out.newMore⟩, rfl⟩
      case stop =>
        rintro D' c pre W hD ⟨rfl, hz, a, hfind, lw', lv', lb', h2⟩ hK'
        have hSW := h2.mark (Nat.le_trans HW1.out hD) hK' (fun h => by have := HMK.out _ h; omega)
        have HSX := hid hSW
        have q9 : W.cell? ⟨c9, 0, none⟩ = some (.bool true) := cell_of_row _ _ _ _ _ _ hSW.o9
        have l9' := lt_of_obj hSW.o9
        have hmem := List.mem_of_find?_eq_some hfind
        have hfx := (mem_starts.1 hmem).2
        have hfy : (free D y a).isSome = true := by simpa using List.find?_some hfind
        have hrx := rem_length hfx
        have hry := rem_length hfy
        have hcs := common_some hfind
        have HCS := hid hcs
        clear hSW h2 hK' hmem hfind hcs
        gi_wp2
        refine Handed.intro ((rem D x a).length + 1) ?_ ?_
        · rw [HK.out]; simp; omega
        · first | gi_step | go_step
          exact ⟨_, _, _, _, _, W.heap.size, D' :: Ds, _, _, _, true, rem D x a, rem D y a, b ++ [a], ⟨rfl, by omega, by omega, by rw [List.length_append, List.length_singleton]; omega, by omega, hid (fun z hz => HWX.out z (rem_sub hz)), hid (fun z hz => HWY.out z (rem_sub hz)), hid (by rw [HRR.out, HCS.out]; simp), hid (fun h => by cases h), hid HSX.out.newMore⟩, rfl⟩
    | false =>
      have hre : R = (b, x, y) := by rw [HRR.out, HMO.out rfl]; simp
      have HRE := hid hre
      have hmx : Try.prog.follows .mixedOrders = true := by kernel_rfl
      clear hre
      gi_wp2
      refine wpIn_region_gate (fun w' => w'.cell? ⟨cb, 0, none⟩ = some (.slice ba b.length bc) ∧ w'.cell? ⟨cw, 0, none⟩ = some (.slice la x.length lc) ∧ w'.cell? ⟨cv, 0, none⟩ = some (.slice va y.length vc)) 5 hmx ?_
      have hS0 : wr.drew.cell? ⟨cb, 0, none⟩ = some (.slice ba b.length bc) ∧ wr.drew.cell? ⟨cw, 0, none⟩ = some (.slice la x.length lc) ∧ wr.drew.cell? ⟨cv, 0, none⟩ = some (.slice va y.length vc) := ⟨qb, qw, qv⟩
      refine wpAnyG_take (i := 0) [] rfl (by kernel_rfl) (by kernel_rfl) (by kernel_rfl) (by kernel_rfl) (by kernel_rfl) (by kernel_rfl) (fun _ _ _ h => h) (fun _ => rfl) (v := .slice ba b.length bc) (fun w' h => ?_) (fun _ => rfl) (by assumption) ?_
      · (obtain ⟨h1, h2, h3⟩ := h; go_simp)
      simp only [Act.put, List.setIfInBounds_toArray, List.set_cons_zero, List.set_cons_succ]
      refine wpAnyG_take (i := 1) [] rfl (by kernel_rfl) (by kernel_rfl) (by kernel_rfl) (by kernel_rfl) (by kernel_rfl) (by kernel_rfl) (fun _ _ _ h => h) (fun _ => rfl) (v := .slice la x.length lc) (fun w' h => ?_) (fun _ => rfl) (by assumption) ?_
      · (obtain ⟨h1, h2, h3⟩ := h; go_simp)
      simp only [Act.put, List.setIfInBounds_toArray, List.set_cons_zero, List.set_cons_succ]
      refine wpAnyG_take (i := 2) [] rfl (by kernel_rfl) (by kernel_rfl) (by kernel_rfl) (by kernel_rfl) (by kernel_rfl) (by kernel_rfl) (fun _ _ _ h => h) (fun _ => rfl) (v := .slice va y.length vc) (fun w' h => ?_) (fun _ => rfl) (by assumption) ?_
      · (obtain ⟨h1, h2, h3⟩ := h; go_simp)
      simp only [Act.put, List.setIfInBounds_toArray, List.set_cons_zero, List.set_cons_succ]
      refine wpAnyG_one (i := 3) rfl (by kernel_rfl) ?_
      have qb' : wr.drew.cell? ⟨cb, 0, none⟩ = some (.slice ba b.length bc) := qb
      have fb' : wr.drew.frozen? ⟨cb, 0, none⟩ = false := fb
      have hob' : (wr.setCell ⟨cb, 0, none⟩ (.slice ba b.length bc)).heap[cb]? = some (.cells #[.slice ba b.length bc] 25 (0, 0)) := (heap_setCell_same _ _ _ _ _ _ HS.out.ob).trans rfl
      have how' : (wr.setCell ⟨cb, 0, none⟩ (.slice ba b.length bc)).heap[cw]? = some (.cells #[.slice la x.length lc] 25 (0, 0)) := (heap_setCell_other _ _ _ _ (show cw ≠ cb by omega)).trans HS.out.ow
      have hov' : (wr.setCell ⟨cb, 0, none⟩ (.slice ba b.length bc)).heap[cv]? = some (.cells #[.slice va y.length vc] 25 (0, 0)) := (heap_setCell_other _ _ _ _ (show cv ≠ cb by omega)).trans HS.out.ov
      have hS3 : (wr.setCell ⟨cb, 0, none⟩ (.slice ba b.length bc)).cell? ⟨cb, 0, none⟩ = some (.slice ba b.length bc) ∧ (wr.setCell ⟨cb, 0, none⟩ (.slice ba b.length bc)).cell? ⟨cw, 0, none⟩ = some (.slice la x.length lc) ∧ (wr.setCell ⟨cb, 0, none⟩ (.slice ba b.length bc)).cell? ⟨cv, 0, none⟩ = some (.slice va y.length vc) := ⟨cell_of_row _ _ _ _ _ _ hob', cell_of_row _ _ _ _ _ _ how', cell_of_row _ _ _ _ _ _ hov'⟩
      have HS3 := hid hS3
      clear hob' how' hov' hS3
      gi_wp2
      refine ⟨fun _ => HS3.out, ?_⟩
      refine wpAnyG_one (i := 4) rfl (by kernel_rfl) ?_
      gi_wp2
      refine ⟨fun _ => HS3.out, ?_⟩
      refine wpAnyG_one (i := 5) rfl (by kernel_rfl) ?_
      gi_wp2
      refine ⟨gate_done (by kernel_rfl), ?_⟩
      refine wpAnyG_done (by kernel_rfl) ?_ _
      simp only [NoP]
      gi_wp2
      have hk : Keeps (fun k o => k = cb ∧ ∃ c, o = .cells c 25 (0, 0)) wr (wr.setCell ⟨cb, 0, none⟩ (.slice ba b.length bc)).drew := (keeps_setCell _ _ _ (fun o ho => by rw [HS.out.ob] at ho; cases ho; exact ⟨rfl, _, rfl⟩)).drew
      have hob : (wr.setCell ⟨cb, 0, none⟩ (.slice ba b.length bc)).drew.heap[cb]? = some (.cells #[.slice ba b.length bc] 25 (0, 0)) := (heap_setCell_same _ _ _ _ _ _ HS.out.ob).trans rfl
      have hwcb : w.heap.size ≤ cb := by rw [HCM.out]; omega
      refine leaves_marks w.heap.size Ds _ (fun D hD => ⟨(HS.out.marks D hD).1, hk.obj _ _ (HS.out.marks D hD).2 (fun ⟨_, c, e⟩ => by cases e)⟩) HS.out.nodup (fun W9 hkk => ⟨_, results_common rfl rfl rfl rfl (cell_of_row _ _ _ _ _ _ (hkk.obj _ _ hob (fun h => by cases h.2))) rfl, _, _, _, rfl, ?_, ?_, ?_, ?_⟩)
      · rw [HRE.out]
        exact IsWd.of_seg ((HS.out.seg.keeps hk (fun k o _ ⟨cur, ho⟩ ⟨_, c, e⟩ => by rw [ho] at e; cases e)).keeps hkk (fun k o _ ⟨cur, ho⟩ hm => by rw [ho] at hm; cases hm.2))
      · rw [HRE.out]
        exact ((HS.out.wx.keeps hk (fun k o ho ⟨e, c, e2⟩ => by obtain ⟨c', fr, ho2⟩ := ho.1 (by omega); rw [ho2] at e2; cases e2)).keeps hkk (fun k o ho hm => by obtain ⟨c', fr, ho2⟩ := ho.1 hm.1; rw [ho2] at hm; cases hm.2)).wd
      · rw [HRE.out]
        exact ((HS.out.wy.keeps hk (fun k o ho ⟨e, c, e2⟩ => by obtain ⟨c', fr, ho2⟩ := ho.1 (by omega); rw [ho2] at e2; cases e2)).keeps hkk (fun k o ho hm => by obtain ⟨c', fr, ho2⟩ := ho.1 hm.1; rw [ho2] at hm; cases hm.2)).wd
      · exact (HS.out.below.trans (hk.below HS.out.below.size (fun k o hm => by omega))).trans (hkk.below (Nat.le_trans HS.out.below.size hk.size) (fun k o hm => hm.1))

end Go.Proofs.Ytddnpooffcjhnaa
namespace Go.Proofs.Ytddnpooffcjhnaa
open Go.RowKit Go.Lin Go.Lin.Wv

set_option maxHeartbeats 16000000 in
set_option maxRecDepth 20000 in
theorem rCommon_any (v : Value) (L : Lt) (N : Nat) (wv yv : Value) (x0 y0 : List Int) (w : World) (hN : L.n = (N : Int)) (hN6 : N ≤ 6) (hx0 : ∀ z ∈ x0, 0 ≤ z ∧ z < (N : Int)) (hlx : x0.length ≤ 1000) (hly : y0.length ≤ 1000) (hv : IsLt w v L) (hx : IsWd w wv x0) (hy : IsWd w yv y0) :
    Calls Try.prog 68 #[v, wv, yv] w fun e w' => ∃ u p q, e = .returned (.tuple #[u, p, q]) ∧ Seg w' w.heap.size 3 1 u (common (dep L) N x0 y0).1.length ((common (dep L) N x0 y0).1.map (.int .i64)) ∧ WdOff (fun k _ => u.ownBlock ≠ some k) w' p (common (dep L) N x0 y0).2.1 ∧ WdOff (fun k _ => u.ownBlock ≠ some k) w' q (common (dep L) N x0 y0).2.2 ∧ Grew w w' := by
  have HFR := hid (fun (lv : Value) (y : List Int) (a : Int) (W : World) (hy : Grew w W) (hr : IsInts Any W lv y) => free_any v L lv y a W (hv.grew hy) hr)
  obtain ⟨s, rfl, hps⟩ := hv
  rw [hN] at HFR ⊢
  obtain ⟨W0, hW0, g0, k0, k1, hz⟩ := box2 w (.int .i64 (N : Int)) s 24
  obtain ⟨R, hR⟩ : ∃ R, common (dep L) N x0 y0 = R := ⟨_, rfl⟩
  rw [hR]
  have HR0 := hid (show R = ([] ++ (common (dep L) N x0 y0).1, (common (dep L) N x0 y0).2) from by rw [← hR]; rfl)
  have off : ∀ {u : Value} {xs : List Int}, IsWd w u xs → WdOff (fun k _ => (Value.slice none 0 0).ownBlock ≠ some k) W0 u xs := fun h => (h.off.re (fun k o _ _ e => by simp [Value.ownBlock] at e)).grew g0
  have HX := hid (off hx); have HY := hid (off hy); have HW := hid hx0
  have hg := g0
  have hmx : Try.prog.follows .mixedOrders = true := by kernel_rfl
  obtain ⟨M, hM⟩ : ∃ M, x0.length * (N + 1) + N = M := ⟨_, rfl⟩
  have HMM := hid hM
  clear hR hps hx hy hx0 off hM
  go_enter Try.func68, Try.ntmps68
  go_wp2
  go_loopg [6, 7, 8, 9] M (fun k lb lx ly i wr => ∃ (a : Nat) (x y b : List Int), Hid (k = x.length * (N + 1) + (N - a)) ∧ i = .int .i64 (a : Int) ∧ a ≤ N ∧ b.length + x.length = x0.length ∧ x.length ≤ 1000 ∧ y.length ≤ 1000 ∧ Hid (∀ z ∈ x, 0 ≤ z ∧ z < (N : Int)) ∧ Hid (∀ a' : Nat, a' < a → ¬ ((free (dep L) x a').isSome = true ∧ (free (dep L) y a').isSome = true)) ∧ Hid (R = (b ++ (common (dep L) N x y).1, (common (dep L) N x y).2)) ∧
    Hid (Seg wr W0.heap.size 3 1 lb b.length (b.map (.int .i64))) ∧ Hid (WdOff (fun k _ => lb.ownBlock ≠ some k) wr lx x) ∧ Hid (WdOff (fun k _ => lb.ownBlock ≠ some k) wr ly y) ∧ Hid (Grew W0 wr))
  case atStart => exact ⟨0, x0, y0, [], hid (by rw [← HMM.out]; rfl), rfl, by omega, by simp, hlx, hly, HW, hid (fun a' h => by omega), HR0, hid (Seg.nil _ _ _ _), HX, HY, hid (grew_refl _)⟩
  case round =>
    obtain ⟨a, x, y, b, HK, rfl, ha, hsum, hlx', hly', HWX, HNO, HRR, HSG, HLX, HLY, HG⟩ := hrel
    rename World => wr
    obtain ⟨⟨la, lc, hlw, -⟩, -⟩ := HLX.out
    obtain ⟨⟨va, vc, hlv, -⟩, -⟩ := HLY.out
    obtain ⟨ba, bc, hlb, -⟩ := HSG.out.shape
    subst hlw hlv hlb
    have kw0 := (HG.out.cell (p := ⟨w.heap.size, 0, none⟩) hz).trans k0
    have kw1 := (HG.out.cell (p := ⟨w.heap.size, 1, none⟩) hz).trans k1
    have hzw := Nat.lt_of_lt_of_le hz HG.out.size
    by_cases hlt : a < N
    · obtain ⟨fx, hfx⟩ : ∃ q, free (dep L) x a = q := ⟨_, rfl⟩
      obtain ⟨fy, hfy⟩ : ∃ q, free (dep L) y a = q := ⟨_, rfl⟩
      have hA := hid (fun (y' : World) (hy' : Grew wr y') => HFR.out (.slice la x.length lc) x a y' (grew_trans (grew_trans g0 HG.out) hy') (HLX.out.grew hy').wd.ints)
      have hB := hid (fun (y' : World) (hy' : Grew wr y') => HFR.out (.slice va y.length vc) y a y' (grew_trans (grew_trans g0 HG.out) hy') (HLY.out.grew hy').wd.ints)
      rw [hfx] at hA; rw [hfy] at hB
      have HFX := hid hfx; have HFY := hid hfy
      clear hfx hfy
      rcases fx with _ | i
      · rcases fy with _ | j
        · rw [show ix none = -1 from rfl] at hA
          rw [show ix none = -1 from rfl] at hB
          have HNO2 := hid (show ∀ a' : Nat, a' < a + 1 → ¬ ((free (dep L) x a').isSome = true ∧ (free (dep L) y a').isSome = true) from fun a' h' => by
            rcases Nat.lt_or_ge a' a with h2 | h2
            · exact HNO.out a' h2
            · obtain rfl : a' = a := by omega
              rintro ⟨q1, q2⟩
              rw [HFX.out] at q1; cases q1)
          go_wp2
          go_region_law (first
            | (go_simp; go_at_call 98; (with_reducible refine (hA.out _ (grew_drew (grew_refl wr))).mono ?_); rintro e w2 ⟨rfl, hx2⟩; have G2 := hid (grew_trans (grew_drew (grew_refl wr)) hx2); have m0 := (G2.out.cell (p := ⟨w.heap.size, 0, none⟩) hzw).trans kw0; have m1 := (G2.out.cell (p := ⟨w.heap.size, 1, none⟩) hzw).trans kw1; have mz := Nat.lt_of_lt_of_le hzw G2.out.size; clear hx2)
            | (go_simp; go_at_call 98; (with_reducible refine (hB.out _ G2.out).mono ?_); rintro e w3 ⟨rfl, hx3⟩; have G3 := hid (grew_trans G2.out hx3); clear hx3))
          all_goals (
            go_wp2
            go_roundg (x.length * (N + 1) + (N - (a + 1)))
            case measure => have := HK.out; omega
            case rel => exact ⟨a + 1, x, y, b, hid rfl, by go_num, by omega, hsum, hlx', hly', HWX, HNO2, HRR, hid (HSG.out.grew G3.out), hid (HLX.out.grew G3.out), hid (HLY.out.grew G3.out), hid (grew_trans HG.out G3.out)⟩)
        · rw [show ix none = -1 from rfl] at hA
          rw [show ix (some j) = (j : Int) from rfl] at hB
          have HNO2 := hid (show ∀ a' : Nat, a' < a + 1 → ¬ ((free (dep L) x a').isSome = true ∧ (free (dep L) y a').isSome = true) from fun a' h' => by
            rcases Nat.lt_or_ge a' a with h2 | h2
            · exact HNO.out a' h2
            · obtain rfl : a' = a := by omega
              rintro ⟨q1, q2⟩
              rw [HFX.out] at q1; cases q1)
          go_wp2
          go_region_law (first
            | (go_simp; go_at_call 98; (with_reducible refine (hA.out _ (grew_drew (grew_refl wr))).mono ?_); rintro e w2 ⟨rfl, hx2⟩; have G2 := hid (grew_trans (grew_drew (grew_refl wr)) hx2); have m0 := (G2.out.cell (p := ⟨w.heap.size, 0, none⟩) hzw).trans kw0; have m1 := (G2.out.cell (p := ⟨w.heap.size, 1, none⟩) hzw).trans kw1; have mz := Nat.lt_of_lt_of_le hzw G2.out.size; clear hx2)
            | (go_simp; go_at_call 98; (with_reducible refine (hB.out _ G2.out).mono ?_); rintro e w3 ⟨rfl, hx3⟩; have G3 := hid (grew_trans G2.out hx3); clear hx3))
          all_goals (
            go_wp2
            go_roundg (x.length * (N + 1) + (N - (a + 1)))
            case measure => have := HK.out; omega
            case rel => exact ⟨a + 1, x, y, b, hid rfl, by go_num, by omega, hsum, hlx', hly', HWX, HNO2, HRR, hid (HSG.out.grew G3.out), hid (HLX.out.grew G3.out), hid (HLY.out.grew G3.out), hid (grew_trans HG.out G3.out)⟩)
      · rcases fy with _ | j
        · rw [show ix (some i) = (i : Int) from rfl] at hA
          rw [show ix none = -1 from rfl] at hB
          have HNO2 := hid (show ∀ a' : Nat, a' < a + 1 → ¬ ((free (dep L) x a').isSome = true ∧ (free (dep L) y a').isSome = true) from fun a' h' => by
            rcases Nat.lt_or_ge a' a with h2 | h2
            · exact HNO.out a' h2
            · obtain rfl : a' = a := by omega
              rintro ⟨q1, q2⟩
              rw [HFY.out] at q2; cases q2)
          go_wp2
          go_region_law (first
            | (go_simp; go_at_call 98; (with_reducible refine (hA.out _ (grew_drew (grew_refl wr))).mono ?_); rintro e w2 ⟨rfl, hx2⟩; have G2 := hid (grew_trans (grew_drew (grew_refl wr)) hx2); have m0 := (G2.out.cell (p := ⟨w.heap.size, 0, none⟩) hzw).trans kw0; have m1 := (G2.out.cell (p := ⟨w.heap.size, 1, none⟩) hzw).trans kw1; have mz := Nat.lt_of_lt_of_le hzw G2.out.size; clear hx2)
            | (go_simp; go_at_call 98; (with_reducible refine (hB.out _ G2.out).mono ?_); rintro e w3 ⟨rfl, hx3⟩; have G3 := hid (grew_trans G2.out hx3); clear hx3))
          all_goals (
            go_wp2
            go_roundg (x.length * (N + 1) + (N - (a + 1)))
            case measure => have := HK.out; omega
            case rel => exact ⟨a + 1, x, y, b, hid rfl, by go_num, by omega, hsum, hlx', hly', HWX, HNO2, HRR, hid (HSG.out.grew G3.out), hid (HLX.out.grew G3.out), hid (HLY.out.grew G3.out), hid (grew_trans HG.out G3.out)⟩)
        · rw [show ix (some i) = (i : Int) from rfl] at hA
          rw [show ix (some j) = (j : Int) from rfl] at hB
          obtain ⟨hil, -⟩ := free_lt HFX.out
          obtain ⟨hjl, -⟩ := free_lt HFY.out
          have hfind : (starts (dep L) N x).find? (fun a => (free (dep L) y a).isSome) = some (a : Int) := by
            refine find_first (starts_split hlt HFX.out) (fun z hz => ?_) (by rw [HFY.out]; rfl)
            obtain ⟨⟨z0, z1⟩, z2⟩ := mem_starts.1 hz
            obtain ⟨a', rfl⟩ : ∃ a' : Nat, z = a' := ⟨z.toNat, by omega⟩
            cases hq : (free (dep L) y (a' : Int)).isSome with
            | false => rfl
            | true => exact absurd ⟨z2, hq⟩ (HNO.out a' (by omega))
          have hcs := common_some hfind
          rw [free_pos HFX.out, free_pos HFY.out] at hcs
          have HCS := hid hcs; have HIL := hid hil; have HJL := hid hjl
          have hb9 : b.length < 1000000000 := by omega
          clear hcs hfind hil hjl
          go_wp2
          go_region_law (first
            | (go_simp; go_at_call 98; (with_reducible refine (hA.out _ (grew_drew (grew_refl wr))).mono ?_); rintro e w2 ⟨rfl, hx2⟩; have G2 := hid (grew_trans (grew_drew (grew_refl wr)) hx2); have m0 := (G2.out.cell (p := ⟨w.heap.size, 0, none⟩) hzw).trans kw0; have m1 := (G2.out.cell (p := ⟨w.heap.size, 1, none⟩) hzw).trans kw1; have mz := Nat.lt_of_lt_of_le hzw G2.out.size; clear hx2)
            | (go_simp; go_at_call 98; (with_reducible refine (hB.out _ G2.out).mono ?_); rintro e w3 ⟨rfl, hx3⟩; have G3 := hid (grew_trans G2.out hx3); clear hx3))
          all_goals (
            have HSG3 := hid (HSG.out.grew G3.out); have HLX3 := hid (HLX.out.grew G3.out); have HLY3 := hid (HLY.out.grew G3.out)
            have hz3 : W0.heap.size ≤ w3.heap.size := by have := HG.out.size; have := G3.out.size; omega
            go_wp2_with (first
              | (at_builtin; refine wpList_append_one rfl _ _ 25 rfl W0.heap.size 3 Try.underlying25 Try.info3 rfl (by decide) _ b.length _ rfl (HSG3.out.alloc _) _ _ _ rfl (one_new _ _ _) rfl hb9 ?_ ?_; (simp only [World.size_alloc]; omega); go_loud (
                  intro v9 w9 hown9 hgrow9 hblk9
                  have hk9 := ((Keeps.refl (fun k _ => (Value.slice ba b.length bc).ownBlock = some k) w3).alloc (.cells #[.int .i64 (a : Int)] 3)).trans (keeps_of_grown hgrow9)
                  have hb9' : Below W0.heap.size w3 w9 := hk9.below hz3 (fun k o e => (HSG3.out.own k e).1)
                  have hoff : ∀ k o, w3.heap[k]? = some o → (Value.slice ba b.length bc).ownBlock ≠ some k → v9.ownBlock ≠ some k ∧ (Value.slice ba b.length bc).ownBlock ≠ some k := fun k o ho h => ⟨fun e => by
                    rcases hblk9 with h9 | h9
                    · exact h (h9 ▸ e)
                    · rw [h9] at e; simp at e; have := lt_of_obj ho; omega, h⟩
                  have HX9 := hid ((HLX3.out.re (S' := fun k _ => v9.ownBlock ≠ some k ∧ (Value.slice ba b.length bc).ownBlock ≠ some k) hoff).keeps hk9 (fun k o h e => h.2 e))
                  have HY9 := hid ((HLY3.out.re (S' := fun k _ => v9.ownBlock ≠ some k ∧ (Value.slice ba b.length bc).ownBlock ≠ some k) hoff).keeps hk9 (fun k o h e => h.2 e))
                  have HOWN9 := hid hown9
                  have HG9 := hid (show Grew W0 w9 from (grew_trans HG.out G3.out).trans hb9')
                  clear hown9 hgrow9 hblk9 hk9 hb9' hoff))
              | (go_at_call 97; (with_reducible refine (rWithout_any _ x i _ HIL.out (Nat.le_trans hlx' (by omega)) HX9.out.wd).mono ?_); rintro e w10 ⟨v10, rfl, hs10, hx10⟩; have HS10 := hid hs10; have HX10 := hid hx10; clear hs10 hx10)
              | (go_at_call 97; (with_reducible refine (rWithout_any _ y j _ HJL.out (Nat.le_trans hly' (by omega)) (HY9.out.grew HX10.out).wd).mono ?_); rintro e w11 ⟨v11, rfl, hs11, hx11⟩; have HS11 := hid hs11; have HX11 := hid hx11; clear hs11 hx11))
            go_roundg ((x.eraseIdx i).length * (N + 1) + (N - 0))
            case measure =>
              have h1 := HK.out
              have h2 : (x.eraseIdx i).length = x.length - 1 := by rw [List.length_eraseIdx, if_pos HIL.out]
              have h3 : x.length * (N + 1) = (x.length - 1) * (N + 1) + (N + 1) := by
                have := HIL.out
                obtain ⟨q, hq⟩ : ∃ q, x.length = q + 1 := ⟨x.length - 1, by omega⟩
                rw [hq, Nat.add_sub_cancel, Nat.add_mul, Nat.one_mul]
              rw [h2]
              omega
            case rel =>
              have hlx2 : (x.eraseIdx i).length = x.length - 1 := by rw [List.length_eraseIdx, if_pos HIL.out]
              have hly2 : (y.eraseIdx j).length = y.length - 1 := by rw [List.length_eraseIdx, if_pos HJL.out]
              have hil2 := HIL.out
              refine ⟨0, x.eraseIdx i, y.eraseIdx j, b ++ [(a : Int)], hid rfl, by go_num, by omega, by rw [List.length_append, List.length_singleton]; omega, by omega, by omega, hid (fun z hz => HWX.out z (List.mem_of_mem_eraseIdx hz)), hid (fun a' h => by omega), hid (by rw [HRR.out, HCS.out]; simp), hid ?_, hid ?_, hid ?_, hid (grew_trans HG9.out (grew_trans HX10.out HX11.out))⟩
              · rw [List.map_append, List.length_append, List.length_singleton]
                exact HOWN9.out.grew (grew_trans HX10.out HX11.out)
              · exact ((WdOff.of_seg HS10.out).grew HX11.out).re (fun k o _ hk e => by have h1 := (HOWN9.out.own k e).2.1; omega)
              · exact (WdOff.of_seg HS11.out).re (fun k o _ hk e => by have h1 := (HOWN9.out.own k e).2.1; have h2 := HX10.out.size; omega))
    · obtain rfl : a = N := by omega
      have hnone : (starts (dep L) a x).find? (fun z => (free (dep L) y z).isSome) = none := List.find?_eq_none.2 (fun z hz h2 => by
        obtain ⟨⟨z0, z1⟩, z2⟩ := mem_starts.1 hz
        obtain ⟨a', rfl⟩ : ∃ a' : Nat, z = a' := ⟨z.toNat, by omega⟩
        exact HNO.out a' (by omega) ⟨z2, by simpa using h2⟩)
      have hre : R = (b, x, y) := by rw [HRR.out, common_none hnone]; simp
      have HRE := hid hre
      clear hre hnone
      go_wp2
      go_ret3
      refine ⟨_, _, _, rfl, ?_, ?_, ?_, grew_trans g0 HG.out⟩
      · rw [HRE.out]; exact HSG.out.mono g0.size
      · rw [HRE.out]; exact HLX.out
      · rw [HRE.out]; exact HLY.out

end Go.Proofs.Ytddnpooffcjhnaa
