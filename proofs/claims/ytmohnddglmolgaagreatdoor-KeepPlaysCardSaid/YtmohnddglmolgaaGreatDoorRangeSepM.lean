/- A loop over a function, whose body may turn what the function does not look at: what the function lays is told apart from what the loop's body lays. Of no program. -/
import Derived.Test.YtmohnddglmolgaaGreatDoorBase
import Derived.RangeFuncWrites
import Derived.RangeFuncBound
import Derived.RangeFuncCalls
import Derived.RangeFuncLeaves
namespace Go.Lin
open Go Go.RowKit

/-- J, of a world in which T are the function's own blocks, abides what the function does to them, and new blocks of it. -/
def AbidesT {α : Type} (J : List α → (Nat → Prop) → World → Prop) : Prop :=
  ∀ pre T W W', J pre T W → Keeps (fun k _ => T k) W W' → ∀ T' : Nat → Prop, (∀ k, T' k → (T k ∨ W.heap.size ≤ k) ∧ k < W'.heap.size) → J pre T' W'

/-- The contract of a function that is ranged over: 'Has pre x W' is what it says of x when it hands it over. -/
def SeqT {α : Type} (F : Fence) (n : Nat) (P : Program) (g : Nat) (fa lb : Array Value) (encs : α → Array Value) (may : Nat → Obj → Prop) (Has : List α → α → World → Prop) (S : List α → Prop) (w : World) : Prop :=
  ∀ (l : Nat) (J Jx : List α → (Nat → Prop) → World → Prop) (W : World), Grew w W → AbidesT J →
    (∀ pre T x W1, J pre T W1 → Has pre x W1 → YieldAt F (n - 1) P l (encs x) W1 fun e W' =>
      (e = .returned (.bool true) ∧ J (pre ++ [x]) T W' ∧ Keeps (fun k o => ¬ T k ∧ may k o) W1 W') ∨ (e = .returned (.bool false) ∧ Jx (pre ++ [x]) T W')) →
    J [] (fun _ => False) W →
    CallsIn F n P g (fa ++ #[.func (.yield l) #[] #[]] ++ lb) W fun e W' => (∃ v, e = .returned v) ∧ ((∃ xs T, S xs ∧ J xs T W') ∨ (∃ pre T, Jx pre T W'))

/-- How the body of a round may be left. B: the heap's size where the loop begins. -/
def sepPost {α : Type} (B : Nat) (may : Nat → Obj → Prop) (I : List α → (Nat → Prop) → World → Prop) (Ix : Code → List α → World → Prop) (xs : List α) (T : Nat → Prop) (W : World) : Exit → Act → World → Prop
  | .normal, _, W' => Keeps (fun k o => ¬ T k ∧ may k o ∧ (k < B ∨ o.isCells = true)) W W' ∧ I xs T W'
  | .ret, _, W' => Keeps (fun k o => k < B ∨ o.isCells = true) W W' ∧ Ix .ret xs W'
  | .exit id, _, W' => Keeps (fun k o => k < B ∨ o.isCells = true) W W' ∧ Ix (.exit id) xs W'
  | .goto t, _, W' => Keeps (fun k o => k < B ∨ o.isCells = true) W W' ∧ Ix (.goto t) xs W'
  | .panic _, _, _ => False
  | .outgrown, _, _ => False

theorem keeps_putObj {may : Nat → Obj → Prop} (W : World) {l : Nat} {o : Obj} (o' : Obj) (hl : W.heap[l]? = some o) (hm : may l o) : Keeps may W (W.putObj l o') :=
  ⟨rfl, rfl, rfl, by simp [World.putObj], fun k x hk hn => by
    by_cases e : k = l
    · subst e; rw [hl] at hk; cases hk; exact absurd hm hn
    · exact (World.putObj_heap_other e).trans hk⟩

variable {F : Fence} {n : Nat} {P : Program}

theorem wpIn_rangeFunc_sep {α : Type} {g : Operand} {ps : Array Tmp} {assign body : Code} {Q : Exit → Act → World → Prop} {a : Act} {w : World}
    (hro : F.round = none) (h1 : 1 ≤ n) {gf : Nat} {fa lb : Array Value} (hg : a.eval g = .func (.func gf) fa lb) (hFg : F.fn gf) (eg : ∀ args w, (callFunc gf args).run P w = .ok (.enter gf args) w)
    {encs : α → Array Value} {may : Nat → Obj → Prop} {Has : List α → α → World → Prop} {S : List α → Prop} {w0 : World} (hseq : SeqT F (n - 1) P gf fa lb encs may Has S w0) (hb0 : Grew w0 w) (hmay : ∀ k o, w.heap.size ≤ k → may k o) (hps : ∀ x, (encs x).size = ps.size)
    (I : List α → (Nat → Prop) → World → Prop) (Ix : Code → List α → World → Prop)
    (hI : ∀ pre T W W', I pre T W → Keeps (fun k o => T k ∨ (w.heap.size ≤ k ∧ o.isCells = false)) W W' → ∀ T' : Nat → Prop, (∀ k, T' k → T k ∨ W.heap.size ≤ k) → I pre T' W')
    (hIx : ∀ c pre W W', Ix c pre W → Keeps (fun k o => w.heap.size ≤ k ∧ o.isCells = false) W W' → Ix c pre W')
    (hHas : ∀ pre x W W', Has pre x W → Keeps (fun k o => w.heap.size ≤ k ∧ k < w.heap.size + 2 ∧ o.isCells = false) W W' → Has pre x W')
    (h0 : I [] (fun _ => False) w) (a₁ : α → Act)
    (hassign : ∀ (l : Nat) (x : α) (W : World) (K : Act → World → Prop), K (a₁ x) W →
      assign.wpIn (F.inRound l) (n - 1 - 1) P (Exit.then K (fun _ _ _ => False)) { tmps := (ps.zip (encs x)).foldl (fun t (p, v) => t.setIfInBounds p v) a.tmps, defers := [] } W)
    (hbody : ∀ (l : Nat) (pre : List α) (T : Nat → Prop) (x : α) (W : World), I pre T W → Has pre x W → (∀ k, T k → w.heap.size ≤ k ∧ k < W.heap.size) → w.heap.size < W.heap.size → body.wpIn (F.inRound l) (n - 1 - 1) P (sepPost w.heap.size may I Ix (pre ++ [x]) T W) (a₁ x) W)
    (hdone : ∀ (D : Nat) (xs : List α) (T : Nat → Prop) (W : World), w.heap.size ≤ D → S xs → I xs T W → W.heap[D]? = some (.deferred (some [])) → Q .normal { a with defers := { target := .collected D, args := #[] } :: a.defers } W)
    (hstop : ∀ (D : Nat) (c : Code) (pre : List α) (W : World), w.heap.size ≤ D → Ix c pre W → W.heap[D]? = some (.deferred (some [])) → c.wpIn F n P Q { a with defers := { target := .collected D, args := #[] } :: a.defers } W) :
    (Code.rangeFunc g ps assign body).wpIn F n P Q a w := by
  refine wpIn_rangeFunc ?_
  intro fn hfn
  rw [hro]
  obtain ⟨rec, hrec⟩ : ∃ rec : LoopState → Option Code → Loop, rec = fun st pe => { state := st, pending := pe, fn, tmps := a.tmps, params := ps, assign, body, defers := w.heap.size } := ⟨_, rfl⟩
  obtain ⟨W1, hW1⟩ : ∃ W1, (w.alloc (.deferred (some []))).alloc (.loop (rec .ready none)) = W1 := ⟨_, rfl⟩
  have hL1 : W1.heap[w.heap.size + 1]? = some (.loop (rec .ready none)) := by
    rw [← hW1]; have := World.alloc_heap_new (w.alloc (.deferred (some []))) (.loop (rec .ready none)); rwa [World.size_alloc] at this
  have hK1 : W1.heap[w.heap.size]? = some (.deferred (some [])) := by
    rw [← hW1]; exact (Below.heap_alloc _ _ _ (by simp)).trans (World.alloc_heap_new w _)
  have hg1 : Grew w W1 := by rw [← hW1]; exact grew_alloc (grew_alloc (grew_refl w) _) _
  have hI1 : I [] (fun _ => False) W1 := hI [] _ w W1 h0 hg1.keeps _ (fun k h => h.elim)
  have hb1 : Grew w0 W1 := grew_trans hb0 hg1
  have hs1 : W1.heap.size = w.heap.size + 2 := by rw [← hW1]; simp
  refine ⟨w.heap.size + 1, [{ target := .collected w.heap.size, args := #[] }], W1, { target := .fn (.func gf) lb, args := fa ++ #[.func (.yield (w.heap.size + 1)) #[] #[]] }, W1, gf,
    fa ++ #[.func (.yield (w.heap.size + 1)) #[] #[]] ++ lb, W1, ?_, ?_, ?_, ?_, fun _ => h1, ?_⟩
  · rw [← hW1, hrec]; exact run_enterLoop_outer _ _ _ _ _
  · simp only [resolve, hg]
    simp [go_sem]
  · intro f' hf'; simp [Target.leads] at hf'; subst hf'; exact hFg
  · simp [invoke, go_sem, eg]
  · refine (hseq (w.heap.size + 1)
      (fun pre T W => I pre T W ∧ (∀ k, T k → w.heap.size + 2 ≤ k ∧ k < W.heap.size) ∧ W.heap[w.heap.size + 1]? = some (.loop (rec .ready none)) ∧ W.heap[w.heap.size]? = some (.deferred (some [])))
      (fun pre T W => ∃ c, Ix c pre W ∧ W.heap[w.heap.size + 1]? = some (.loop (rec .done (some c))) ∧ W.heap[w.heap.size]? = some (.deferred (some [])))
      W1 hb1 ?_ ?_ ⟨hI1, fun k h => h.elim, hL1, hK1⟩).mono ?_
    · rintro pre T W W' ⟨hi, hT, hl, hk⟩ hkp T' hT'
      have hlt := lt_of_obj hl
      refine ⟨hI pre T W W' hi (hkp.mono (fun k o h => .inl h)) T' (fun k h => (hT' k h).1), fun k h => ⟨?_, (hT' k h).2⟩, hkp.obj _ _ hl (fun h => by have := (hT _ h).1; omega), hkp.obj _ _ hk (fun h => by have := (hT _ h).1; omega)⟩
      rcases (hT' k h).1 with h2 | h2
      · exact (hT k h2).1
      · omega
    · rintro pre T x W ⟨hi, hT, hl, hk⟩ hhas
      have hlt : w.heap.size + 1 < W.heap.size := lt_of_obj hl
      have hy := run_yield (P := P) (args := encs x) hl (by rw [hrec]; exact hps x)
      rw [hrec] at hy
      refine ⟨fn, _, assign, body, hy, roundIn_of_wpIn hfn (hassign _ x W _ ⟨_, run_beginRound hl (by rw [hrec]), ?_⟩)⟩
      have hl2 : (W.putObj (w.heap.size + 1) (.loop { rec .ready none with state := .busy })).heap[w.heap.size + 1]? = some (.loop { rec .ready none with state := .busy }) := World.putObj_heap_same hlt
      have hk2 : (W.putObj (w.heap.size + 1) (.loop { rec .ready none with state := .busy })).heap[w.heap.size]? = some (.deferred (some [])) := (World.putObj_heap_other (by omega)).trans hk
      have hsz2 : (W.putObj (w.heap.size + 1) (.loop { rec .ready none with state := .busy })).heap.size = W.heap.size := by simp [World.putObj]
      have hi2 : I pre T (W.putObj (w.heap.size + 1) (.loop { rec .ready none with state := .busy })) := hI pre T W _ hi (keeps_putObj W _ hl (.inr ⟨by omega, rfl⟩)) T (fun k h => .inl h)
      have hh2 : Has pre x (W.putObj (w.heap.size + 1) (.loop { rec .ready none with state := .busy })) := hHas pre x W _ hhas (keeps_putObj W _ hl ⟨by omega, by omega, rfl⟩)
      have hTl : ¬ T (w.heap.size + 1) := fun h => by have := (hT _ h).1; omega
      have hw2 : Keeps (fun k o => ¬ T k ∧ may k o) W (W.putObj (w.heap.size + 1) (.loop { rec .ready none with state := .busy })) := keeps_putObj W _ hl ⟨hTl, hmay _ _ (by omega)⟩
      refine wpIn_mono (hbody _ pre T x _ hi2 hh2 (fun k h => by rw [hsz2]; have := hT k h; omega) (by rw [hsz2]; omega)) ?_
      have fin : ∀ (jump : Option Code) (W3 : World), Keeps (fun k o => k < w.heap.size ∨ o.isCells = true) (W.putObj (w.heap.size + 1) (.loop { rec .ready none with state := .busy })) W3 →
          (Instr.endRound (w.heap.size + 1) jump).run P W3 = .ok (.bool jump.isNone) (W3.putObj (w.heap.size + 1) (.loop (rec (if jump.isNone then .ready else .done) jump))) ∧
          W3.heap[w.heap.size + 1]? = some (.loop { rec .ready none with state := .busy }) ∧
          (W3.putObj (w.heap.size + 1) (.loop (rec (if jump.isNone then .ready else .done) jump))).heap[w.heap.size + 1]? = some (.loop (rec (if jump.isNone then .ready else .done) jump)) ∧
          (W3.putObj (w.heap.size + 1) (.loop (rec (if jump.isNone then .ready else .done) jump))).heap[w.heap.size]? = some (.deferred (some [])) := fun jump W3 hk3 => by
        have hno : ∀ (o : Obj) (k : Nat), w.heap.size ≤ k → o.isCells = false → ¬ (k < w.heap.size ∨ o.isCells = true) := fun o k h2 h3 h4 => by
          rcases h4 with h4 | h4
          · omega
          · rw [h3] at h4; cases h4
        have hl3 := hk3.obj _ _ hl2 (hno _ _ (by omega) rfl)
        have := run_endRound (P := P) jump hl3
        rw [hrec] at this ⊢
        exact ⟨this, by rw [hrec] at hl3; exact hl3, World.putObj_heap_same (lt_of_obj hl3), (World.putObj_heap_other (by omega)).trans (hk3.obj _ _ hk2 (hno _ _ (Nat.le_refl _) rfl))⟩
      rintro e a3 W3 hp
      cases e with
      | normal =>
        obtain ⟨hk3, hi3⟩ := hp
        obtain ⟨hr, hl3, hl4, hk4⟩ := fin none W3 (hk3.mono (fun k o h => h.2.2))
        have hk5 : Keeps (fun k o => ¬ T k ∧ may k o) W3 (W3.putObj (w.heap.size + 1) (.loop (rec (if (none : Option Code).isNone then .ready else .done) none))) := keeps_putObj W3 _ hl3 ⟨hTl, hmay _ _ (by omega)⟩
        refine ⟨_, _, hr, .inl ⟨rfl, ⟨hI _ T W3 _ hi3 (keeps_putObj W3 _ hl3 (.inr ⟨by omega, rfl⟩)) T (fun k h => .inl h), fun k h => ⟨(hT k h).1, ?_⟩, hl4, hk4⟩, (hw2.trans (hk3.mono (fun k o h => ⟨h.1, h.2.1⟩))).trans hk5⟩⟩
        have hq1 : W.heap.size ≤ W3.heap.size := by rw [← hsz2]; exact hk3.size
        have hq2 := hk5.size
        have := (hT k h).2
        omega
      | ret =>
        obtain ⟨hk3, hi3⟩ := hp
        obtain ⟨hr, hl3, hl4, hk4⟩ := fin (some .ret) W3 hk3
        exact ⟨_, _, hr, .inr ⟨rfl, .ret, hIx _ _ _ _ hi3 (keeps_putObj W3 _ hl3 ⟨by omega, rfl⟩), hl4, hk4⟩⟩
      | exit id =>
        obtain ⟨hk3, hi3⟩ := hp
        obtain ⟨hr, hl3, hl4, hk4⟩ := fin (some (.exit id)) W3 hk3
        exact ⟨_, _, hr, .inr ⟨rfl, .exit id, hIx _ _ _ _ hi3 (keeps_putObj W3 _ hl3 ⟨by omega, rfl⟩), hl4, hk4⟩⟩
      | goto t =>
        obtain ⟨hk3, hi3⟩ := hp
        obtain ⟨hr, hl3, hl4, hk4⟩ := fin (some (.goto t)) W3 hk3
        exact ⟨_, _, hr, .inr ⟨rfl, .goto t, hIx _ _ _ _ hi3 (keeps_putObj W3 _ hl3 ⟨by omega, rfl⟩), hl4, hk4⟩⟩
      | panic ch => exact hp.elim
      | outgrown => exact hp.elim
    · rintro e W2 ⟨⟨v, rfl⟩, (⟨xs, T, hS, hi, hT, hl, hk⟩ | ⟨pre, T, c, hi, hl, hk⟩)⟩
      · exact ⟨none, _, by have := run_endLoop (P := P) hl (by rw [hrec]; simp); rw [hrec] at this; exact this, hdone _ xs T _ (Nat.le_refl _) hS (hI _ T W2 _ hi (keeps_putObj W2 _ hl (.inr ⟨by omega, rfl⟩)) T (fun k h => .inl h)) ((World.putObj_heap_other (by omega)).trans hk)⟩
      · exact ⟨some c, _, by have := run_endLoop (P := P) hl (by rw [hrec]; simp); rw [hrec] at this; exact this, hstop _ c pre _ (Nat.le_refl _) (hIx _ _ _ _ hi (keeps_putObj W2 _ hl ⟨by omega, rfl⟩)) ((World.putObj_heap_other (by omega)).trans hk)⟩
end Go.Lin
