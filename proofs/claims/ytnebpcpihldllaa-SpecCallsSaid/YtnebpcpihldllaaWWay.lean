/- A loop over a function whose assignment lays a block. Of no program. Walks: Way, of the program's own text. -/
import Derived.Test.YtnebpcpihldllaaRangeSep
import Derived.Test.YtnebpcpihldllaaWWays
import Derived.Test.YtnebpcpihldllaaWClass
namespace Go.Lin
open Go Go.RowKit
variable {F : Fence} {n : Nat} {P : Program}

theorem wpIn_rangeFunc_sepH {α : Type} {g : Operand} {ps : Array Tmp} {assign body : Code} {Q : Exit → Act → World → Prop} {a : Act} {w : World}
    (hro : F.round = none) (h1 : 1 ≤ n) {gf : Nat} {fa lb : Array Value} (hg : a.eval g = .func (.func gf) fa lb) (hFg : F.fn gf) (eg : ∀ args w, (callFunc gf args).run P w = .ok (.enter gf args) w)
    {encs : α → Array Value} {n₀ : Nat} {Has : List α → α → World → Prop} {S : List α → Prop} {w0 : World} (hseq : SeqT F (n - 1) P gf fa lb encs n₀ Has S w0) (hb0 : Grew w0 w) (hn₀ : n₀ ≤ w.heap.size) (hps : ∀ x, (encs x).size = ps.size)
    (I : List α → (Nat → Prop) → World → Prop) (Ix : Code → List α → World → Prop)
    (hI : ∀ pre T W W', I pre T W → Keeps (fun k o => T k ∨ (w.heap.size ≤ k ∧ o.isCells = false)) W W' → ∀ T' : Nat → Prop, (∀ k, T' k → T k ∨ W.heap.size ≤ k) → I pre T' W')
    (hIx : ∀ c pre W W', Ix c pre W → Keeps (fun k o => w.heap.size ≤ k ∧ o.isCells = false) W W' → Ix c pre W')
    (Ax : List α → (Nat → Prop) → α → Act → World → Prop)
    (hAx : ∀ pre T x a' W W', Ax pre T x a' W → Keeps (fun k o => w.heap.size ≤ k ∧ k < w.heap.size + 2 ∧ o.isCells = false) W W' → Ax pre T x a' W')
    (h0 : I [] (fun _ => False) w)
    (hassign : ∀ (l : Nat) (pre : List α) (T : Nat → Prop) (x : α) (W : World) (K : Act → World → Prop), I pre T W → Has pre x W → (∀ k, T k → w.heap.size ≤ k ∧ k < W.heap.size) → w.heap.size + 1 < W.heap.size →
      (∀ a' W', Keeps (fun k o => ¬ T k ∧ n₀ ≤ k ∧ (k < w.heap.size ∨ o.isCells = true)) W W' → Ax pre T x a' W' → K a' W') →
      assign.wpIn (F.inRound l) (n - 1 - 1) P (Exit.then K (fun _ _ _ => False)) { tmps := (ps.zip (encs x)).foldl (fun t (p, v) => t.setIfInBounds p v) a.tmps, defers := [] } W)
    (hbody : ∀ (l : Nat) (pre : List α) (T : Nat → Prop) (x : α) (a' : Act) (W : World), Ax pre T x a' W → (∀ k, T k → w.heap.size + 2 ≤ k ∧ k < W.heap.size) → w.heap.size + 1 < W.heap.size → body.wpIn (F.inRound l) (n - 1 - 1) P (sepPost w.heap.size n₀ I Ix (pre ++ [x]) T W) a' W)
    (hdone : ∀ (D : Nat) (xs : List α) (T : Nat → Prop) (W : World), w.heap.size ≤ D → S xs → I xs T W → W.heap[D]? = some (.deferred (some [])) → Q .normal { a with defers := { target := .collected D, args := #[] } :: a.defers } W)
    (hstop : ∀ (D : Nat) (c : Code) (pre : List α) (W : World), w.heap.size ≤ D → Ix c pre W → W.heap[D]? = some (.deferred (some [])) → c.wpIn F n P Q { a with defers := { target := .collected D, args := #[] } :: a.defers } W) :
    (Code.rangeFunc g ps assign body).wpIn F n P Q a w := by
  refine wpIn_rangeFunc ?_
  intro fn hfn
  rw [hro]
  obtain ⟨rec, hrec⟩ : ∃ rec : LoopState → Option Code → Loop, rec = fun st pe => { state := st, pending := pe, fn, tmps := a.tmps, params := ps, assign, body, defers := w.heap.size } := ⟨_, rfl⟩
  obtain ⟨W1, hW1⟩ : ∃ W1, (w.alloc (.deferred (some []))).alloc (.loop (rec .ready none)) = W1 := ⟨_, rfl⟩
  have hL1 : W1.heap[w.heap.size + 1]? = some (.loop (rec .ready none)) := by
    rw [← hW1]; have := World.alloc_heap_new (w.alloc (.deferred (some []))) (.loop (rec .ready none)); rwa [World.size_alloc] at this
  have hK1 : W1.heap[w.heap.size]? = some (.deferred (some [])) := by
    rw [← hW1]; exact (Below.heap_alloc _ _ _ (by simp)).trans (World.alloc_heap_new w _)
  have hg1 : Grew w W1 := by rw [← hW1]; exact grew_alloc (grew_alloc (grew_refl w) _) _
  have hI1 : I [] (fun _ => False) W1 := hI [] _ w W1 h0 hg1.keeps _ (fun k h => h.elim)
  have hb1 : Grew w0 W1 := grew_trans hb0 hg1
  have hs1 : W1.heap.size = w.heap.size + 2 := by rw [← hW1]; simp
  refine ⟨w.heap.size + 1, [{ target := .collected w.heap.size, args := #[] }], W1, { target := .fn (.func gf) lb, args := fa ++ #[.func (.yield (w.heap.size + 1)) #[] #[]] }, W1, gf,
    fa ++ #[.func (.yield (w.heap.size + 1)) #[] #[]] ++ lb, W1, ?_, ?_, ?_, ?_, fun _ => h1, ?_⟩
  · rw [← hW1, hrec]; exact run_enterLoop_outer _ _ _ _ _
  · simp only [resolve, hg]
    simp [go_sem]
  · intro f' hf'; simp [Target.leads] at hf'; subst hf'; exact hFg
  · simp [invoke, go_sem, eg]
  · refine (hseq (w.heap.size + 1)
      (fun pre T W => I pre T W ∧ (∀ k, T k → w.heap.size + 2 ≤ k ∧ k < W.heap.size) ∧ W.heap[w.heap.size + 1]? = some (.loop (rec .ready none)) ∧ W.heap[w.heap.size]? = some (.deferred (some [])))
      (fun pre T W => ∃ c, Ix c pre W ∧ W.heap[w.heap.size + 1]? = some (.loop (rec .done (some c))) ∧ W.heap[w.heap.size]? = some (.deferred (some [])))
      W1 hb1 ?_ ?_ ⟨hI1, fun k h => h.elim, hL1, hK1⟩).mono ?_
    · rintro pre T W W' ⟨hi, hT, hl, hk⟩ hkp T' hT'
      have hlt := lt_of_obj hl
      refine ⟨hI pre T W W' hi (hkp.mono (fun k o h => .inl h)) T' (fun k h => (hT' k h).1), fun k h => ⟨?_, (hT' k h).2⟩, hkp.obj _ _ hl (fun h => by have := (hT _ h).1; omega), hkp.obj _ _ hk (fun h => by have := (hT _ h).1; omega)⟩
      rcases (hT' k h).1 with h2 | h2
      · exact (hT k h2).1
      · omega
    · rintro pre T x W ⟨hi, hT, hl, hk⟩ hhas
      have hlt : w.heap.size + 1 < W.heap.size := lt_of_obj hl
      have hy := run_yield (P := P) (args := encs x) hl (by rw [hrec]; exact hps x)
      rw [hrec] at hy
      refine ⟨fn, _, assign, body, hy, roundIn_of_wpIn hfn (hassign _ pre T x W _ hi hhas (fun k h => by have := hT k h; omega) hlt ?_)⟩
      intro a' Wa hka hax
      have hnoA : ∀ (o : Obj) (k : Nat), w.heap.size ≤ k → o.isCells = false → ¬ (¬ T k ∧ n₀ ≤ k ∧ (k < w.heap.size ∨ o.isCells = true)) := fun o k h2 h3 h4 => by
        rcases h4.2.2 with h5 | h5
        · omega
        · rw [h3] at h5; cases h5
      have hkW : W.heap.size ≤ Wa.heap.size := hka.size
      have hw0 : Keeps (fun k _ => ¬ T k ∧ n₀ ≤ k) W Wa := hka.mono (fun k o h => ⟨h.1, h.2.1⟩)
      replace hl := hka.obj _ _ hl (hnoA _ _ (by omega) rfl)
      replace hk := hka.obj _ _ hk (hnoA _ _ (Nat.le_refl _) rfl)
      replace hlt : w.heap.size + 1 < Wa.heap.size := by omega
      clear hy hi hhas hka
      replace hT : ∀ k, T k → w.heap.size + 2 ≤ k ∧ k < Wa.heap.size := fun k h => by have := hT k h; omega
      refine ⟨_, run_beginRound hl (by rw [hrec]), ?_⟩
      have hl2 : (Wa.putObj (w.heap.size + 1) (.loop { rec .ready none with state := .busy })).heap[w.heap.size + 1]? = some (.loop { rec .ready none with state := .busy }) := World.putObj_heap_same hlt
      have hk2 : (Wa.putObj (w.heap.size + 1) (.loop { rec .ready none with state := .busy })).heap[w.heap.size]? = some (.deferred (some [])) := (World.putObj_heap_other (by omega)).trans hk
      have hsz2 : (Wa.putObj (w.heap.size + 1) (.loop { rec .ready none with state := .busy })).heap.size = Wa.heap.size := by simp [World.putObj]
      have hi2 : Ax pre T x a' (Wa.putObj (w.heap.size + 1) (.loop { rec .ready none with state := .busy })) := hAx pre T x a' Wa _ hax (keeps_putObj Wa _ hl ⟨by omega, by omega, rfl⟩)
      have hTl : ¬ T (w.heap.size + 1) := fun h => by have := (hT _ h).1; omega
      have hw2 : Keeps (fun k _ => ¬ T k ∧ n₀ ≤ k) W (Wa.putObj (w.heap.size + 1) (.loop { rec .ready none with state := .busy })) := hw0.trans (keeps_putObj Wa _ hl ⟨hTl, by omega⟩)
      refine wpIn_mono (hbody _ pre T x a' _ hi2 (fun k h => by rw [hsz2]; have := hT k h; omega) (by rw [hsz2]; omega)) ?_
      have fin : ∀ (jump : Option Code) (W3 : World), Keeps (fun k o => k < w.heap.size ∨ o.isCells = true) (Wa.putObj (w.heap.size + 1) (.loop { rec .ready none with state := .busy })) W3 →
          (Instr.endRound (w.heap.size + 1) jump).run P W3 = .ok (.bool jump.isNone) (W3.putObj (w.heap.size + 1) (.loop (rec (if jump.isNone then .ready else .done) jump))) ∧
          W3.heap[w.heap.size + 1]? = some (.loop { rec .ready none with state := .busy }) ∧
          (W3.putObj (w.heap.size + 1) (.loop (rec (if jump.isNone then .ready else .done) jump))).heap[w.heap.size + 1]? = some (.loop (rec (if jump.isNone then .ready else .done) jump)) ∧
          (W3.putObj (w.heap.size + 1) (.loop (rec (if jump.isNone then .ready else .done) jump))).heap[w.heap.size]? = some (.deferred (some [])) := fun jump W3 hk3 => by
        have hno : ∀ (o : Obj) (k : Nat), w.heap.size ≤ k → o.isCells = false → ¬ (k < w.heap.size ∨ o.isCells = true) := fun o k h2 h3 h4 => by
          rcases h4 with h4 | h4
          · omega
          · rw [h3] at h4; cases h4
        have hl3 := hk3.obj _ _ hl2 (hno _ _ (by omega) rfl)
        have := run_endRound (P := P) jump hl3
        rw [hrec] at this ⊢
        exact ⟨this, by rw [hrec] at hl3; exact hl3, World.putObj_heap_same (lt_of_obj hl3), (World.putObj_heap_other (by omega)).trans (hk3.obj _ _ hk2 (hno _ _ (Nat.le_refl _) rfl))⟩
      rintro e a3 W3 hp
      cases e with
      | normal =>
        obtain ⟨hk3, hi3⟩ := hp
        obtain ⟨hr, hl3, hl4, hk4⟩ := fin none W3 (hk3.mono (fun k o h => h.2.2))
        have hk5 : Keeps (fun k _ => ¬ T k ∧ n₀ ≤ k) W3 (W3.putObj (w.heap.size + 1) (.loop (rec (if (none : Option Code).isNone then .ready else .done) none))) := keeps_putObj W3 _ hl3 ⟨hTl, by omega⟩
        refine ⟨_, _, hr, .inl ⟨rfl, ⟨hI _ T W3 _ hi3 (keeps_putObj W3 _ hl3 (.inr ⟨by omega, rfl⟩)) T (fun k h => .inl h), fun k h => ⟨(hT k h).1, ?_⟩, hl4, hk4⟩, (hw2.trans (hk3.mono (fun k o h => ⟨h.1, h.2.1⟩))).trans hk5⟩⟩
        have hq1 : Wa.heap.size ≤ W3.heap.size := by rw [← hsz2]; exact hk3.size
        have hq2 := hk5.size
        have := (hT k h).2
        omega
      | ret =>
        obtain ⟨hk3, hi3⟩ := hp
        obtain ⟨hr, hl3, hl4, hk4⟩ := fin (some .ret) W3 hk3
        exact ⟨_, _, hr, .inr ⟨rfl, .ret, hIx _ _ _ _ hi3 (keeps_putObj W3 _ hl3 ⟨by omega, rfl⟩), hl4, hk4⟩⟩
      | exit id =>
        obtain ⟨hk3, hi3⟩ := hp
        obtain ⟨hr, hl3, hl4, hk4⟩ := fin (some (.exit id)) W3 hk3
        exact ⟨_, _, hr, .inr ⟨rfl, .exit id, hIx _ _ _ _ hi3 (keeps_putObj W3 _ hl3 ⟨by omega, rfl⟩), hl4, hk4⟩⟩
      | goto t =>
        obtain ⟨hk3, hi3⟩ := hp
        obtain ⟨hr, hl3, hl4, hk4⟩ := fin (some (.goto t)) W3 hk3
        exact ⟨_, _, hr, .inr ⟨rfl, .goto t, hIx _ _ _ _ hi3 (keeps_putObj W3 _ hl3 ⟨by omega, rfl⟩), hl4, hk4⟩⟩
      | panic ch => exact hp.elim
      | outgrown => exact hp.elim
    · rintro e W2 ⟨⟨v, rfl⟩, (⟨xs, T, hS, hi, hT, hl, hk⟩ | ⟨pre, T, c, hi, hl, hk⟩)⟩
      · exact ⟨none, _, by have := run_endLoop (P := P) hl (by rw [hrec]; simp); rw [hrec] at this; exact this, hdone _ xs T _ (Nat.le_refl _) hS (hI _ T W2 _ hi (keeps_putObj W2 _ hl (.inr ⟨by omega, rfl⟩)) T (fun k h => .inl h)) ((World.putObj_heap_other (by omega)).trans hk)⟩
      · exact ⟨some c, _, by have := run_endLoop (P := P) hl (by rw [hrec]; simp); rw [hrec] at this; exact this, hstop _ c pre _ (Nat.le_refl _) (hIx _ _ _ _ hi (keeps_putObj W2 _ hl ⟨by omega, rfl⟩)) ((World.putObj_heap_other (by omega)).trans hk)⟩
end Go.Lin
namespace Go.Proofs.Ytnebpcpihldllaa
open Go.RowKit Go.Lin Go.Maps Go.Shelf
attribute [local go_sem] Oper.semAt_some

theorem entered89 : Entered 89 := fun _ _ => by kernel_rfl

set_option maxHeartbeats 1000000 in
theorem way1_any (s : RSpec) (sv : Value) (B : Nat) (a : Int) (w : World) (h1 : 1 ≤ s.st) (h2 : s.st ≤ 8) (hs : IsSpec w sv s) (hB : w.cell? ⟨B, 0, none⟩ = some (.int .i64 a)) :
    Says 89 #[.pointer (some ⟨B, 0, none⟩)] sv (inM s.st a) w := by
  intro w' hw
  have hB' := (hw.cell (p := ⟨B, 0, none⟩) (World.block_lt_of_cell? w _ hB)).trans hB
  have HS := hs.grew hw
  obtain ⟨nv, yv, rfl, _, _⟩ := hs
  clear hB hw
  obtain ⟨W0, hW0, g0, k0, k1, k2, k3, hz⟩ := box4 w' (.int .i64 s.st) (.int .i64 s.ops) nv yv 60
  have hltB := World.block_lt_of_cell? w' _ hB'
  have hB0 := (g0.cell (p := ⟨B, 0, none⟩) hltB).trans hB'
  obtain ⟨W1, hW1, g1, l0, hz1⟩ := box1 W0 (.int .i64 a) 3
  have hx : IsInts Any W1 (.slice (some ⟨W0.heap.size, 0, none⟩) 1 1) [a] := ⟨_, _, rfl, by simp, fun i hi => by
    have hi' : i = 0 := by simp at hi; omega
    subst hi'
    exact ⟨_, _, _, rfl, Array.getElem?_eq_getElem hz1, trivial, by simpa [nth] using l0⟩⟩
  have HST := hid (state_any s _ _ _ W1 h1 h2 ((HS.grew g0).grew g1) hx)
  clear hx
  go_enter Try.func89, Try.ntmps89
  go_wp2_with (go_at_call 58; with_reducible refine HST.out.mono ?_; rintro e w1 ⟨rfl, hx⟩)
  go_ret
  refine ⟨ret_bool (by simp), (by repeat' (first | exact grew_refl _ | assumption | refine grew_alloc ?_ _ | refine Below.setCell ?_ (by (try simp); omega) _ | refine grew_drewN ?_ _ | refine grew_drew ?_ | refine grew_trans ?_ (by assumption)))⟩

theorem frozen_obj {w : World} {k : Nat} {c : Array Value} {t : TypeId} (h : w.heap[k]? = some (.cells c t (0, 0))) (j : Nat) : w.frozen? ⟨k, j, none⟩ = false := by
  unfold World.frozen?
  simp only [h]
  simp

theorem keeps_setCell {may : Nat → Obj → Prop} (W : World) (b : Nat) (v : Value) (hm : ∀ o, W.heap[b]? = some o → may b o) : Keeps may W (W.setCell ⟨b, 0, none⟩ v) :=
  (Keeps.refl may W).grown (grownBy_setCell' W b v) (fun k o e ho => by cases e; exact hm _ ho)

theorem setCell_obj (W : World) (b : Nat) (v : Value) (k : Nat) (hne : k ≠ b) : (W.setCell ⟨b, 0, none⟩ v).heap[k]? = W.heap[k]? := by
  simp [World.setCell, Array.getElem?_modify, Ne.symm hne]

/-- Two results, stored into their cells. -/
theorem two_stores {W : World} {p q : Nat} {x y : Value} {t t' : TypeId} (hne : p ≠ q) (ho : W.heap[p]? = some (.cells #[x] t (0, 0))) (hq : W.heap[q]? = some (.cells #[y] t' (0, 0))) (u v : Value) :
    Keeps (fun k o => (k = p ∨ k = q) ∧ ∃ c e fr, o = .cells c e fr ∧ (e = t ∨ e = t')) W ((W.setCell ⟨p, 0, none⟩ u).setCell ⟨q, 0, none⟩ v) ∧
      ((W.setCell ⟨p, 0, none⟩ u).setCell ⟨q, 0, none⟩ v).cell? ⟨p, 0, none⟩ = some u ∧ ((W.setCell ⟨p, 0, none⟩ u).setCell ⟨q, 0, none⟩ v).cell? ⟨q, 0, none⟩ = some v := by
  have cp : W.cell? ⟨p, 0, none⟩ = some x := cell_of_row _ _ _ _ _ _ ho
  have cq : W.cell? ⟨q, 0, none⟩ = some y := cell_of_row _ _ _ _ _ _ hq
  have hab : (⟨p, 0, none⟩ : Addr) ≠ ⟨q, 0, none⟩ := fun h => hne (congrArg Addr.block h)
  refine ⟨(keeps_setCell W _ _ (fun o h => by rw [ho] at h; cases h; exact ⟨.inl rfl, _, _, _, rfl, .inl rfl⟩)).trans (keeps_setCell _ _ _ (fun o h => by
    rw [setCell_obj W p u q (Ne.symm hne), hq] at h; cases h; exact ⟨.inr rfl, _, _, _, rfl, .inr rfl⟩)), ?_, ?_⟩
  · rw [World.cell?_setCell_other _ _ _ _ (Ne.symm hab)]
    exact World.cell?_setCell_same' _ _ _ (by rw [cp]; rfl)
  · refine World.cell?_setCell_same' _ _ _ ?_
    rw [World.cell?_setCell_other _ _ _ _ hab, cq]; rfl

theorem results_way {t1 t2 : Tmp} {fn : Func} {tmps : Array Value} {p q : Nat} {W : World} {u v : Value} (h : fn.results = #[.cell t1 34, .cell t2 27]) (h1 : tmps[t1]?.getD undef = .pointer (some ⟨p, 0, none⟩)) (h2 : tmps[t2]?.getD undef = .pointer (some ⟨q, 0, none⟩))
    (c1 : W.cell? ⟨p, 0, none⟩ = some u) (c2 : W.cell? ⟨q, 0, none⟩ = some v) : (results fn tmps).run Try.prog W = .ok (.tuple #[u, v]) W := by
  simp [results, h, h1, h2, go_sem, c1, c2, Try.isAgg34, Try.isAgg27]

theorem asked_diag (s : RSpec) (a : Int) : askedM s a a = if validM s then if inM s.st a then 0 else 2 else 10 := by
  unfold askedM; rw [Bool.and_self]

theorem opened_way (s : RSpec) (sv : Value) (B : Nat) (a : Int) (w : World) (hs : IsSpec w sv s) (hB : w.cell? ⟨B, 0, none⟩ = some (.int .i64 a)) :
    Calls Try.prog 56 #[sv, .func (.func 89) #[] #[.pointer (some ⟨B, 0, none⟩)]] w fun e w' => e = .returned (.tuple #[if askedM s a a = 0 then sv else zeroSpec, .int .i64 (askedM s a a)]) ∧ Grew w w' := by
  cases hv : validM s with
  | false =>
    have he : askedM s a a = 10 := by rw [asked_diag, hv]; rfl
    rw [he]; exact opened_bad s _ _ _ hs hv
  | true =>
    obtain ⟨⟨b1, b2, _, _⟩, _⟩ := valid_parts hv
    have h := way1_any s _ _ a w b1 b2 hs hB
    cases hi : inM s.st a with
    | false =>
      have he : askedM s a a = 2 := by rw [asked_diag, hv, hi]; rfl
      rw [he]; rw [hi] at h
      exact opened_arg s _ _ _ _ hs hv entered89 h
    | true =>
      have he : askedM s a a = 0 := by rw [asked_diag, hv, hi]; rfl
      rw [he]; rw [hi] at h
      exact opened_ok s _ _ _ _ hs hv entered89 h

set_option maxHeartbeats 4000000 in
set_option maxRecDepth 100000 in
theorem way_ok (s : RSpec) (sv : Value) (a : Nat) (w : World) (hs : IsSpec w sv s) (hv : validM s = true) (ha : a < (machOf s).n) :
    Calls Try.prog 43 #[sv, .int .i64 (a : Int)] w fun e w' => ∃ u r, e = .returned (.tuple #[u, .int .i64 r]) ∧ Grew w w' ∧
      ((r = 0 ∧ ∃ ws, IsWay (machOf s) a ws ∧ IsNats (IntObj 3) w' u ws) ∨ (r = 5 ∧ u = .slice none 0 0 ∧ ∀ v, OkW (machOf s).k v → stM (machOf s) 0 v ≠ a)) := by
  have HS := hs
  have hok : askedM s a a = 0 := by
    have h1 : inM s.st (a : Int) = true := by unfold inM; simp; simp only [machOf] at ha; omega
    rw [asked_diag, hv, h1]; rfl
  have hM := wf_machOf hv
  have HM := hid (hs.isMach hv)
  obtain ⟨na, nc, ya, yc, rfl⟩ := isSpec_open' hs
  clear hs
  obtain ⟨W0, hW0, g0, k0, k1, k2, k3, hz⟩ := box4 w (.int .i64 s.st) (.int .i64 s.ops) (.slice na s.next.length nc) (.slice ya s.says.length yc) 24
  obtain ⟨W1, hW1, g1, l0, hz1⟩ := box1 W0 (.int .i64 (a : Int)) 3
  obtain ⟨W2, hW2, g2, e4, hz2⟩ := box1 W1 (.slice none 0 0) 34
  obtain ⟨W3, hW3, g3, e5, hz3⟩ := box1 W2 (.int .i64 0) 27
  have g13 := grew_trans g1 (grew_trans g2 g3)
  have g03 := grew_trans g0 g13
  have r0 := (g13.cell (p := ⟨w.heap.size, 0, none⟩) hz).trans k0
  have r1 := (g13.cell (p := ⟨w.heap.size, 1, none⟩) hz).trans k1
  have r2 := (g13.cell (p := ⟨w.heap.size, 2, none⟩) hz).trans k2
  have r3 := (g13.cell (p := ⟨w.heap.size, 3, none⟩) hz).trans k3
  have r4 := ((grew_trans g2 g3).cell (p := ⟨W0.heap.size, 0, none⟩) hz1).trans l0
  have r5 := (g3.cell (p := ⟨W1.heap.size, 0, none⟩) hz2).trans e4
  have hzA : W0.heap.size < W3.heap.size := by have := g2.size; have := g3.size; omega
  have hop := opened_way s _ W0.heap.size a W3 (HS.grew g03) r4
  rw [if_pos hok, hok] at hop
  have HOP := hid hop; clear hop
  clear hok hv k0 k1 k2 k3 e4 l0
  refine (callsIn_wide (n := 6)).1 ?_
  refine callsIn_of_wp_marks Try.func43 rfl trivial ?_ rfl
  simp only [Try.ntmps43, List.size_toArray, List.length_cons, List.length_nil, Nat.reduceAdd, Nat.reduceSub, Array.replicate_succ, Array.replicate_zero, List.push_toArray, List.append_toArray, List.nil_append, List.cons_append]
  gi_wp2_with (refine ⟨trivial, ?_⟩; gi_at_call 56; refine (callsIn_wide.2 HOP.out).mono ?_; rintro e w1 ⟨rfl, hx⟩)
  obtain ⟨sv, hsv⟩ : ∃ sv : Value, Value.agg #[.int .i64 s.st, .int .i64 s.ops, .slice na s.next.length nc, .slice ya s.says.length yc] = sv := ⟨_, rfl⟩
  rw [hsv] at HM ⊢
  obtain ⟨W4, hW4, g4, hz4⟩ : ∃ W4, w1.alloc (.cells #[.int .i64 s.st, .int .i64 s.ops, .slice na s.next.length nc, .slice ya s.says.length yc] 60) = W4 ∧ Grew w1 W4 ∧ w1.heap.size < W4.heap.size := ⟨_, rfl, grew_alloc (grew_refl _) _, by simp⟩
  rw [hW4]
  have g34 := grew_trans hx g4
  have hs1 := g1.size; have hs2 := g2.size; have hs3 := g3.size; have hs0 := g0.size; have hs34 := g34.size
  have E0 := hid ((g34.cell (p := ⟨W0.heap.size, 0, none⟩) hzA).trans r4)
  have g04 := grew_trans g03 g34
  have o4 : W2.heap[W1.heap.size]? = some (.cells #[.slice none 0 0] 34 (0, 0)) := by rw [← hW2]; exact heap_alloc_new W1 _
  have o5 : W3.heap[W2.heap.size]? = some (.cells #[.int .i64 0] 27 (0, 0)) := by rw [← hW3]; exact heap_alloc_new W2 _
  have O4 := hid (((grew_trans g3 g34).block _ hz2).trans o4)
  have O5 := hid ((g34.block _ hz3).trans o5)
  clear o4 o5
  clear hsv hW4 HOP hx g4 HS r0 r1 r2 r3 r4 r5 e5 hW0 hW1 hW2 hW3
  refine wpIn_rangeFunc_sepH (P := Try.prog) rfl (by decide) (gf := 88) (fa := #[sv]) (lb := #[]) rfl trivial (enters_of Try.func88 (by kernel_rfl) rfl) (ways_stops (machOf s) hM sv W4 5 (by decide) (HM.out.grew g04)) (grew_refl W4) (Nat.le_refl _) (fun _ => rfl)
    (fun pre T W => Grew W4 W ∧ (∀ k, T k → W4.heap.size ≤ k) ∧ ∀ x ∈ pre, x.1.1 ≠ a)
    (fun c pre W => c = .ret ∧ W4.heap.size ≤ W.heap.size ∧ ∃ u ws, Grew w W ∧ W.cell? ⟨W1.heap.size, 0, none⟩ = some u ∧ W.cell? ⟨W2.heap.size, 0, none⟩ = some (.int .i64 0) ∧ IsWay (machOf s) a ws ∧ IsNats (IntObj 3) W u ws)
    ?hI ?hIx
    (fun pre T x a' W => (Grew W4 W ∧ (∀ k, T k → W4.heap.size ≤ k) ∧ ∀ x ∈ pre, x.1.1 ≠ a) ∧ HasWay (machOf s) pre x W ∧ ∃ Bx ad c, x.2 = .slice ad x.1.2.2.length c ∧ W4.heap.size + 2 ≤ Bx ∧ W.heap[Bx]? = some (.cells #[.int .i64 (x.1.1 : Int), .slice ad x.1.2.2.length c] 89 (0, 0)) ∧
      a' = { tmps := #[sv, .int .i64 (a : Int), .pointer (some ⟨w.heap.size, 0, none⟩), .pointer (some ⟨W0.heap.size, 0, none⟩), .pointer (some ⟨W1.heap.size, 0, none⟩), .pointer (some ⟨W2.heap.size, 0, none⟩), .pointer (some ⟨w1.heap.size, 0, none⟩), .int .i64 0, .pointer (some ⟨Bx, 0, none⟩), .tuple #[sv, .int .i64 0], sv, .func (.func 89) #[] #[.pointer (some ⟨W0.heap.size, 0, none⟩)], .tuple #[sv, .int .i64 0], sv, .int .i64 0, .int .i64 0, .bool false, undef, sv, .func (.func 88) #[sv] #[], .agg #[.int .i64 (x.1.1 : Int), .slice ad x.1.2.2.length c], undef, undef, undef, undef, undef, undef], defers := [] })
    ?hAx ⟨grew_refl _, fun k h => h.elim, fun x hx => by cases hx⟩ ?assign ?body ?done ?stop
  case hI =>
    rintro pre T W W' ⟨h1, h2, h3⟩ hk T' hT'
    refine ⟨h1.trans (hk.below h1.size (fun k o h => h.elim (h2 k) (fun h => h.1))), fun k h => ?_, h3⟩
    rcases hT' k h with h | h
    · exact h2 k h
    · have := h1.size; omega
  case hIx =>
    rintro c pre W W' ⟨rfl, hz, u, ws, h1, h2, h3, h4, h5⟩ hk
    have hb : Below W4.heap.size W W' := hk.below hz (fun k o h => h.1)
    refine ⟨rfl, Nat.le_trans hz hk.size, u, ws, h1.trans (hb.mono (by omega)), (hb.cell (p := ⟨W1.heap.size, 0, none⟩) (by show W1.heap.size < W4.heap.size; omega)).trans h2, (hb.cell (p := ⟨W2.heap.size, 0, none⟩) (by show W2.heap.size < W4.heap.size; omega)).trans h3, h4, h5.keeps hk (fun k o ⟨c, fr, ho⟩ ⟨_, hm⟩ => by rw [ho] at hm; cases hm)⟩
  case hAx =>
    rintro pre T x a' W W' ⟨⟨h1, h2, h3⟩, hh, Bx, ad, c, hx, hB, hob, rfl⟩ hk
    refine ⟨⟨h1.trans (hk.below h1.size (fun k o h => h.1)), h2, h3⟩, ⟨hh.word.keeps hk (fun k o ⟨c, fr, ho⟩ ⟨_, _, hm⟩ => by rw [ho] at hm; cases hm), hh.way, hh.lt, hh.new⟩, Bx, ad, c, hx, hB, hk.obj _ _ hob (fun h => by omega), rfl⟩
  case assign =>
    rintro l pre T ⟨⟨xs, xz, xw⟩, xv⟩ W K hi hh hT hlt hK
    obtain ⟨va, vc, hv, _, _⟩ := hh.word
    simp only [] at hv
    subst hv
    obtain ⟨W5, hW5, g5, q0, q1, hz5⟩ := box2 W (.int .i64 (xs : Int)) (.slice va xw.length vc) 89
    dsimp only [encW]
    gi_wp2
    refine hK _ W5 g5.keeps ⟨⟨grew_trans hi.1 g5, hi.2⟩, ⟨hh.word.grew g5, hh.way, hh.lt, hh.new⟩, W.heap.size, va, vc, rfl, by omega, by rw [← hW5]; exact heap_alloc_new W _, rfl⟩
  case body =>
    rintro l pre T ⟨⟨xs, xz, xw⟩, xv⟩ a' W ⟨⟨i1, i2, i3⟩, hh, Bx, ad, c, hx, hB, hob, rfl⟩ hT hlt
    simp only [] at hx hob
    subst hx
    have q0 : W.cell? ⟨Bx, 0, none⟩ = some (.int .i64 (xs : Int)) := cell_of_row _ _ _ _ _ _ hob
    have q1 : W.cell? ⟨Bx, 1, none⟩ = some (.slice ad xw.length c) := cell_of_row _ _ _ _ _ _ hob
    have e0 := (i1.cell (p := ⟨W0.heap.size, 0, none⟩) (by show W0.heap.size < W4.heap.size; omega)).trans E0.out
    have o4 := (i1.block _ (by omega : W1.heap.size < W4.heap.size)).trans O4.out
    have o5 := (i1.block _ (by omega : W2.heap.size < W4.heap.size)).trans O5.out
    have e4 : W.cell? ⟨W1.heap.size, 0, none⟩ = some (.slice none 0 0) := cell_of_row _ _ _ _ _ _ o4
    have e5 : W.cell? ⟨W2.heap.size, 0, none⟩ = some (.int .i64 0) := cell_of_row _ _ _ _ _ _ o5
    have f4 := frozen_obj o4 0
    have f5 := frozen_obj o5 0
    have HO4 := hid o4; have HO5 := hid o5; clear o4 o5
    have HOB := hid hob; clear hob
    by_cases hxa : xs = a
    · subst hxa
      gi_wp2
      have hne : W1.heap.size ≠ W2.heap.size := by omega
      obtain ⟨hk, c1, c2⟩ := two_stores hne HO4.out HO5.out (.slice ad xw.length c) (.int .i64 0)
      have hz6 := hk.size
      refine ⟨hk.mono (fun k o ⟨_, c, t, fr, ho, _⟩ => .inr (by rw [ho]; rfl)), rfl, Nat.le_trans i1.size hz6, _, xw, (grew_trans g04 i1).trans (hk.below (by have := i1.size; omega) (fun k o h => by rcases h.1 with e | e <;> rw [e] <;> omega)), c1, c2, hh.way, hh.word.keeps hk (fun k o ⟨c, fr, ho⟩ ⟨_, c', t, fr', ho2, h3⟩ => by rw [ho] at ho2; cases ho2; exact absurd h3 (by decide))⟩
    · gi_wp2
      refine ⟨Keeps.refl _ _, i1, i2, fun y hy => ?_⟩
      rcases List.mem_append.1 hy with hy | hy
      · exact i3 y hy
      · simp only [List.mem_singleton] at hy; subst hy; exact hxa
  case done =>
    rintro D xs T W hD hS ⟨i1, i2, i3⟩ hK
    have o4 := (i1.block _ (by omega : W1.heap.size < W4.heap.size)).trans O4.out
    have o5 := (i1.block _ (by omega : W2.heap.size < W4.heap.size)).trans O5.out
    have e4 : W.cell? ⟨W1.heap.size, 0, none⟩ = some (.slice none 0 0) := cell_of_row _ _ _ _ _ _ o4
    have e5 : W.cell? ⟨W2.heap.size, 0, none⟩ = some (.int .i64 0) := cell_of_row _ _ _ _ _ _ o5
    have f4 := frozen_obj o4 0
    have f5 := frozen_obj o5 0
    have HO4 := hid o4; have HO5 := hid o5; clear o4 o5
    gi_wp2
    have hne : W1.heap.size ≠ W2.heap.size := by omega
    obtain ⟨hk, c1, c2⟩ := two_stores hne HO4.out HO5.out (.slice none 0 0) (.int .i64 5)
    have hK6 := hk.obj _ _ hK (fun ⟨_, _, _, _, h, _⟩ => by cases h)
    refine ⟨by simp, .inl ⟨_, _, rfl, run_takeDeferred hK6, ?_⟩⟩
    have hkp := keeps_putObj (may := fun k _ => W4.heap.size ≤ k) _ (.deferred none) hK6 hD
    have hb := hkp.below (B := W4.heap.size) (by have := i1.size; have := hk.size; omega) (fun k o h => h)
    have d1 := (hb.cell (p := ⟨W1.heap.size, 0, none⟩) (by show W1.heap.size < W4.heap.size; omega)).trans c1
    have d2 := (hb.cell (p := ⟨W2.heap.size, 0, none⟩) (by show W2.heap.size < W4.heap.size; omega)).trans c2
    refine ⟨.tuple #[.slice none 0 0, .int .i64 5], results_way rfl rfl rfl d1 d2, _, _, rfl, ?_, .inr ⟨rfl, rfl, fun v hv he => ?_⟩⟩
    · exact ((grew_trans g04 i1).trans (hk.below (by have := i1.size; omega) (fun k o h => by rcases h.1 with e | e <;> rw [e] <;> omega))).trans (hb.mono (by omega))
    · obtain ⟨y, hy, hya⟩ := List.mem_map.1 (hS.all v hv)
      exact i3 y hy (by rw [hya, he])
  case stop =>
    rintro D c pre W hD ⟨rfl, hz, u, ws, h1, h2, h3, h4, h5⟩ hK
    gi_wp2
    refine ⟨by simp, .inl ⟨_, _, rfl, run_takeDeferred hK, ?_⟩⟩
    have hkp := keeps_putObj (may := fun k o => W4.heap.size ≤ k ∧ o.isCells = false) _ (.deferred none) hK ⟨hD, rfl⟩
    have hb := hkp.below (B := W4.heap.size) hz (fun k o h => h.1)
    have d1 := (hb.cell (p := ⟨W1.heap.size, 0, none⟩) (by show W1.heap.size < W4.heap.size; omega)).trans h2
    have d2 := (hb.cell (p := ⟨W2.heap.size, 0, none⟩) (by show W2.heap.size < W4.heap.size; omega)).trans h3
    obtain ⟨ua, uc, rfl, _⟩ := h5
    refine ⟨.tuple #[.slice ua ws.length uc, .int .i64 0], results_way rfl rfl rfl d1 d2, _, _, rfl, h1.trans (hb.mono (by omega)), .inl ⟨rfl, ws, h4, ?_⟩⟩
    exact Reads.keeps ⟨ua, uc, rfl, ‹_›⟩ hkp (fun k o ⟨c, fr, ho⟩ ⟨_, hm⟩ => by rw [ho] at hm; cases hm)
end Go.Proofs.Ytnebpcpihldllaa
