/- A loop over a function whose assignment lays a block. Of no program. -/
import Derived.Test.YtojkohpniokaaaaRangeSepM
namespace Go.Lin
open Go Go.RowKit
variable {F : Fence} {n : Nat} {P : Program}

theorem wpIn_rangeFunc_sepH {α : Type} {g : Operand} {ps : Array Tmp} {assign body : Code} {Q : Exit → Act → World → Prop} {a : Act} {w : World}
    (hro : F.round = none) (h1 : 1 ≤ n) {gf : Nat} {fa lb : Array Value} (hg : a.eval g = .func (.func gf) fa lb) (hFg : F.fn gf) (eg : ∀ args w, (callFunc gf args).run P w = .ok (.enter gf args) w)
    {encs : α → Array Value} {may : Nat → Obj → Prop} {Has : List α → α → World → Prop} {S : List α → Prop} {w0 : World} (hseq : SeqT F (n - 1) P gf fa lb encs may Has S w0) (hb0 : Grew w0 w) (hmay : ∀ k o, w.heap.size ≤ k → may k o) (hps : ∀ x, (encs x).size = ps.size)
    (I : List α → (Nat → Prop) → World → Prop) (Ix : Code → List α → World → Prop)
    (hI : ∀ pre T W W', I pre T W → Keeps (fun k o => T k ∨ (w.heap.size ≤ k ∧ o.isCells = false)) W W' → ∀ T' : Nat → Prop, (∀ k, T' k → T k ∨ W.heap.size ≤ k) → I pre T' W')
    (hIx : ∀ c pre W W', Ix c pre W → Keeps (fun k o => w.heap.size ≤ k ∧ o.isCells = false) W W' → Ix c pre W')
    (Ax : List α → (Nat → Prop) → α → Act → World → Prop)
    (hAx : ∀ pre T x a' W W', Ax pre T x a' W → Keeps (fun k o => w.heap.size ≤ k ∧ k < w.heap.size + 2 ∧ o.isCells = false) W W' → Ax pre T x a' W')
    (h0 : I [] (fun _ => False) w)
    (hassign : ∀ (l : Nat) (pre : List α) (T : Nat → Prop) (x : α) (W : World) (K : Act → World → Prop), I pre T W → Has pre x W → (∀ k, T k → w.heap.size ≤ k ∧ k < W.heap.size) → w.heap.size + 1 < W.heap.size →
      (∀ a' W', Keeps (fun k o => ¬ T k ∧ may k o ∧ (k < w.heap.size ∨ o.isCells = true)) W W' → Ax pre T x a' W' → K a' W') →
      assign.wpIn (F.inRound l) (n - 1 - 1) P (Exit.then K (fun _ _ _ => False)) { tmps := (ps.zip (encs x)).foldl (fun t (p, v) => t.setIfInBounds p v) a.tmps, defers := [] } W)
    (hbody : ∀ (l : Nat) (pre : List α) (T : Nat → Prop) (x : α) (a' : Act) (W : World), Ax pre T x a' W → (∀ k, T k → w.heap.size + 2 ≤ k ∧ k < W.heap.size) → w.heap.size + 1 < W.heap.size → body.wpIn (F.inRound l) (n - 1 - 1) P (sepPost w.heap.size may I Ix (pre ++ [x]) T W) a' W)
    (hdone : ∀ (D : Nat) (xs : List α) (T : Nat → Prop) (W : World), w.heap.size ≤ D → S xs → I xs T W → W.heap[D]? = some (.deferred (some [])) → Q .normal { a with defers := { target := .collected D, args := #[] } :: a.defers } W)
    (hstop : ∀ (D : Nat) (c : Code) (pre : List α) (W : World), w.heap.size ≤ D → Ix c pre W → W.heap[D]? = some (.deferred (some [])) → c.wpIn F n P Q { a with defers := { target := .collected D, args := #[] } :: a.defers } W) :
    (Code.rangeFunc g ps assign body).wpIn F n P Q a w := by
  refine wpIn_rangeFunc ?_
  intro fn hfn
  rw [hro]
  obtain ⟨rec, hrec⟩ : ∃ rec : LoopState → Option Code → Loop, rec = fun st pe => { state := st, pending := pe, fn, tmps := a.tmps, params := ps, assign, body, defers := w.heap.size } := ⟨_, rfl⟩
  obtain ⟨W1, hW1⟩ : ∃ W1, (w.alloc (.deferred (some []))).alloc (.loop (rec .ready none)) = W1 := ⟨_, rfl⟩
  have hL1 : W1.heap[w.heap.size + 1]? = some (.loop (rec .ready none)) := by
    rw [← hW1]; have := World.alloc_heap_new (w.alloc (.deferred (some []))) (.loop (rec .ready none)); rwa [World.size_alloc] at this
  have hK1 : W1.heap[w.heap.size]? = some (.deferred (some [])) := by
    rw [← hW1]; exact (Below.heap_alloc _ _ _ (by simp)).trans (World.alloc_heap_new w _)
  have hg1 : Grew w W1 := by rw [← hW1]; exact grew_alloc (grew_alloc (grew_refl w) _) _
  have hI1 : I [] (fun _ => False) W1 := hI [] _ w W1 h0 hg1.keeps _ (fun k h => h.elim)
  have hb1 : Grew w0 W1 := grew_trans hb0 hg1
  have hs1 : W1.heap.size = w.heap.size + 2 := by rw [← hW1]; simp
  refine ⟨w.heap.size + 1, [{ target := .collected w.heap.size, args := #[] }], W1, { target := .fn (.func gf) lb, args := fa ++ #[.func (.yield (w.heap.size + 1)) #[] #[]] }, W1, gf,
    fa ++ #[.func (.yield (w.heap.size + 1)) #[] #[]] ++ lb, W1, ?_, ?_, ?_, ?_, fun _ => h1, ?_⟩
  · rw [← hW1, hrec]; exact run_enterLoop_outer _ _ _ _ _
  · simp only [resolve, hg]
    simp [go_sem]
  · intro f' hf'; simp [Target.leads] at hf'; subst hf'; exact hFg
  · simp [invoke, go_sem, eg]
  · refine (hseq (w.heap.size + 1)
      (fun pre T W => I pre T W ∧ (∀ k, T k → w.heap.size + 2 ≤ k ∧ k < W.heap.size) ∧ W.heap[w.heap.size + 1]? = some (.loop (rec .ready none)) ∧ W.heap[w.heap.size]? = some (.deferred (some [])))
      (fun pre T W => ∃ c, Ix c pre W ∧ W.heap[w.heap.size + 1]? = some (.loop (rec .done (some c))) ∧ W.heap[w.heap.size]? = some (.deferred (some [])))
      W1 hb1 ?_ ?_ ⟨hI1, fun k h => h.elim, hL1, hK1⟩).mono ?_
    · rintro pre T W W' ⟨hi, hT, hl, hk⟩ hkp T' hT'
      have hlt := lt_of_obj hl
      refine ⟨hI pre T W W' hi (hkp.mono (fun k o h => .inl h)) T' (fun k h => (hT' k h).1), fun k h => ⟨?_, (hT' k h).2⟩, hkp.obj _ _ hl (fun h => by have := (hT _ h).1; omega), hkp.obj _ _ hk (fun h => by have := (hT _ h).1; omega)⟩
      rcases (hT' k h).1 with h2 | h2
      · exact (hT k h2).1
      · omega
    · rintro pre T x W ⟨hi, hT, hl, hk⟩ hhas
      have hlt : w.heap.size + 1 < W.heap.size := lt_of_obj hl
      have hy := run_yield (P := P) (args := encs x) hl (by rw [hrec]; exact hps x)
      rw [hrec] at hy
      refine ⟨fn, _, assign, body, hy, roundIn_of_wpIn hfn (hassign _ pre T x W _ hi hhas (fun k h => by have := hT k h; omega) hlt ?_)⟩
      intro a' Wa hka hax
      have hnoA : ∀ (o : Obj) (k : Nat), w.heap.size ≤ k → o.isCells = false → ¬ (¬ T k ∧ may k o ∧ (k < w.heap.size ∨ o.isCells = true)) := fun o k h2 h3 h4 => by
        rcases h4.2.2 with h5 | h5
        · omega
        · rw [h3] at h5; cases h5
      have hkW : W.heap.size ≤ Wa.heap.size := hka.size
      have hw0 : Keeps (fun k o => ¬ T k ∧ may k o) W Wa := hka.mono (fun k o h => ⟨h.1, h.2.1⟩)
      replace hl := hka.obj _ _ hl (hnoA _ _ (by omega) rfl)
      replace hk := hka.obj _ _ hk (hnoA _ _ (Nat.le_refl _) rfl)
      replace hlt : w.heap.size + 1 < Wa.heap.size := by omega
      clear hy hi hhas hka
      replace hT : ∀ k, T k → w.heap.size + 2 ≤ k ∧ k < Wa.heap.size := fun k h => by have := hT k h; omega
      refine ⟨_, run_beginRound hl (by rw [hrec]), ?_⟩
      have hl2 : (Wa.putObj (w.heap.size + 1) (.loop { rec .ready none with state := .busy })).heap[w.heap.size + 1]? = some (.loop { rec .ready none with state := .busy }) := World.putObj_heap_same hlt
      have hk2 : (Wa.putObj (w.heap.size + 1) (.loop { rec .ready none with state := .busy })).heap[w.heap.size]? = some (.deferred (some [])) := (World.putObj_heap_other (by omega)).trans hk
      have hsz2 : (Wa.putObj (w.heap.size + 1) (.loop { rec .ready none with state := .busy })).heap.size = Wa.heap.size := by simp [World.putObj]
      have hi2 : Ax pre T x a' (Wa.putObj (w.heap.size + 1) (.loop { rec .ready none with state := .busy })) := hAx pre T x a' Wa _ hax (keeps_putObj Wa _ hl ⟨by omega, by omega, rfl⟩)
      have hTl : ¬ T (w.heap.size + 1) := fun h => by have := (hT _ h).1; omega
      have hw2 : Keeps (fun k o => ¬ T k ∧ may k o) W (Wa.putObj (w.heap.size + 1) (.loop { rec .ready none with state := .busy })) := hw0.trans (keeps_putObj Wa _ hl ⟨hTl, hmay _ _ (by omega)⟩)
      refine wpIn_mono (hbody _ pre T x a' _ hi2 (fun k h => by rw [hsz2]; have := hT k h; omega) (by rw [hsz2]; omega)) ?_
      have fin : ∀ (jump : Option Code) (W3 : World), Keeps (fun k o => k < w.heap.size ∨ o.isCells = true) (Wa.putObj (w.heap.size + 1) (.loop { rec .ready none with state := .busy })) W3 →
          (Instr.endRound (w.heap.size + 1) jump).run P W3 = .ok (.bool jump.isNone) (W3.putObj (w.heap.size + 1) (.loop (rec (if jump.isNone then .ready else .done) jump))) ∧
          W3.heap[w.heap.size + 1]? = some (.loop { rec .ready none with state := .busy }) ∧
          (W3.putObj (w.heap.size + 1) (.loop (rec (if jump.isNone then .ready else .done) jump))).heap[w.heap.size + 1]? = some (.loop (rec (if jump.isNone then .ready else .done) jump)) ∧
          (W3.putObj (w.heap.size + 1) (.loop (rec (if jump.isNone then .ready else .done) jump))).heap[w.heap.size]? = some (.deferred (some [])) := fun jump W3 hk3 => by
        have hno : ∀ (o : Obj) (k : Nat), w.heap.size ≤ k → o.isCells = false → ¬ (k < w.heap.size ∨ o.isCells = true) := fun o k h2 h3 h4 => by
          rcases h4 with h4 | h4
          · omega
          · rw [h3] at h4; cases h4
        have hl3 := hk3.obj _ _ hl2 (hno _ _ (by omega) rfl)
        have := run_endRound (P := P) jump hl3
        rw [hrec] at this ⊢
        exact ⟨this, by rw [hrec] at hl3; exact hl3, World.putObj_heap_same (lt_of_obj hl3), (World.putObj_heap_other (by omega)).trans (hk3.obj _ _ hk2 (hno _ _ (Nat.le_refl _) rfl))⟩
      rintro e a3 W3 hp
      cases e with
      | normal =>
        obtain ⟨hk3, hi3⟩ := hp
        obtain ⟨hr, hl3, hl4, hk4⟩ := fin none W3 (hk3.mono (fun k o h => h.2.2))
        have hk5 : Keeps (fun k o => ¬ T k ∧ may k o) W3 (W3.putObj (w.heap.size + 1) (.loop (rec (if (none : Option Code).isNone then .ready else .done) none))) := keeps_putObj W3 _ hl3 ⟨hTl, hmay _ _ (by omega)⟩
        refine ⟨_, _, hr, .inl ⟨rfl, ⟨hI _ T W3 _ hi3 (keeps_putObj W3 _ hl3 (.inr ⟨by omega, rfl⟩)) T (fun k h => .inl h), fun k h => ⟨(hT k h).1, ?_⟩, hl4, hk4⟩, (hw2.trans (hk3.mono (fun k o h => ⟨h.1, h.2.1⟩))).trans hk5⟩⟩
        have hq1 : Wa.heap.size ≤ W3.heap.size := by rw [← hsz2]; exact hk3.size
        have hq2 := hk5.size
        have := (hT k h).2
        omega
      | ret =>
        obtain ⟨hk3, hi3⟩ := hp
        obtain ⟨hr, hl3, hl4, hk4⟩ := fin (some .ret) W3 hk3
        exact ⟨_, _, hr, .inr ⟨rfl, .ret, hIx _ _ _ _ hi3 (keeps_putObj W3 _ hl3 ⟨by omega, rfl⟩), hl4, hk4⟩⟩
      | exit id =>
        obtain ⟨hk3, hi3⟩ := hp
        obtain ⟨hr, hl3, hl4, hk4⟩ := fin (some (.exit id)) W3 hk3
        exact ⟨_, _, hr, .inr ⟨rfl, .exit id, hIx _ _ _ _ hi3 (keeps_putObj W3 _ hl3 ⟨by omega, rfl⟩), hl4, hk4⟩⟩
      | goto t =>
        obtain ⟨hk3, hi3⟩ := hp
        obtain ⟨hr, hl3, hl4, hk4⟩ := fin (some (.goto t)) W3 hk3
        exact ⟨_, _, hr, .inr ⟨rfl, .goto t, hIx _ _ _ _ hi3 (keeps_putObj W3 _ hl3 ⟨by omega, rfl⟩), hl4, hk4⟩⟩
      | panic ch => exact hp.elim
      | outgrown => exact hp.elim
    · rintro e W2 ⟨⟨v, rfl⟩, (⟨xs, T, hS, hi, hT, hl, hk⟩ | ⟨pre, T, c, hi, hl, hk⟩)⟩
      · exact ⟨none, _, by have := run_endLoop (P := P) hl (by rw [hrec]; simp); rw [hrec] at this; exact this, hdone _ xs T _ (Nat.le_refl _) hS (hI _ T W2 _ hi (keeps_putObj W2 _ hl (.inr ⟨by omega, rfl⟩)) T (fun k h => .inl h)) ((World.putObj_heap_other (by omega)).trans hk)⟩
      · exact ⟨some c, _, by have := run_endLoop (P := P) hl (by rw [hrec]; simp); rw [hrec] at this; exact this, hstop _ c pre _ (Nat.le_refl _) (hIx _ _ _ _ hi (keeps_putObj W2 _ hl ⟨by omega, rfl⟩)) ((World.putObj_heap_other (by omega)).trans hk)⟩
end Go.Lin
