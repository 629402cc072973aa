/- Walks: the states that are reached, in their order, of the program's own text. -/
import Derived.Test.YtnebpcpihldllaaWWay
import Derived.Test.YtnebpcpihldllaaWSort
namespace Go.Lin
/-- A state that some word leads to. -/
def Reaches (M : Mach) (x : Nat) : Prop := ∃ v, OkW M.k v ∧ stM M 0 v = x
open Classical in
/-- All states that are reached, in their order. -/
noncomputable def reachL (M : Mach) : List Nat := (List.range M.n).filter fun x => decide (Reaches M x)

theorem mem_reachL {M : Mach} (hM : M.WF) {x : Nat} : x ∈ reachL M ↔ Reaches M x := by
  unfold reachL
  simp only [List.mem_filter, List.mem_range, decide_eq_true_eq]
  refine ⟨fun h => h.2, fun h => ⟨?_, h⟩⟩
  obtain ⟨v, hv, rfl⟩ := h
  exact stM_lt hM hM.n1 hv

theorem reachL_sorted (M : Mach) : (reachL M).Pairwise (· < ·) := by
  unfold reachL
  exact List.Pairwise.filter _ List.pairwise_lt_range

/-- Two lists in strict order with the same members are the same. -/
theorem sorted_unique {xs ys : List Nat} (hx : xs.Pairwise (· < ·)) (hy : ys.Pairwise (· < ·)) (h : ∀ x, x ∈ xs ↔ x ∈ ys) : xs = ys := by
  induction xs generalizing ys with
  | nil =>
    cases ys with
    | nil => rfl
    | cons y ys => exact absurd ((h y).2 (by simp)) (by simp)
  | cons x xs ih =>
    cases ys with
    | nil => exact absurd ((h x).1 (by simp)) (by simp)
    | cons y ys =>
      rw [List.pairwise_cons] at hx hy
      have hxy : x = y := by
        have h1 : x ∈ y :: ys := (h x).1 (by simp)
        have h2 : y ∈ x :: xs := (h y).2 (by simp)
        rcases List.mem_cons.1 h1 with e | h1
        · exact e
        · rcases List.mem_cons.1 h2 with e | h2
          · exact e.symm
          · have := hy.1 _ h1; have := hx.1 _ h2; omega
      subst hxy
      congr 1
      refine ih hx.2 hy.2 (fun z => ?_)
      have := h z
      simp only [List.mem_cons] at this
      constructor
      · intro hz
        rcases this.1 (.inr hz) with e | e
        · have := hx.1 _ hz; omega
        · exact e
      · intro hz
        rcases this.2 (.inr hz) with e | e
        · have := hy.1 _ hz; omega
        · exact e

/-- What is handed over, sorted, is the list of the states that are reached. -/
theorem sorted_states {M : Mach} (hM : M.WF) {xs : List WX} (hS : AllWays M xs) : Go.Proofs.Ytnebpcpihldllaa.sorted ((wStates xs).map fun (x : Nat) => (x : Int)) = (reachL M).map fun (x : Nat) => (x : Int) := by
  have key : Go.Proofs.Ytnebpcpihldllaa.sorted ((wStates xs).map fun (x : Nat) => (x : Int)) = ((wStates xs).mergeSort fun x y => decide (x ≤ y)).map fun (x : Nat) => (x : Int) := by
    unfold Go.Proofs.Ytnebpcpihldllaa.sorted
    rw [List.map_mergeSort]
    intro a _ b _
    simp
  rw [key]
  congr 1
  have hp := List.mergeSort_perm (wStates xs) (fun x y => decide (x ≤ y))
  have hs : ((wStates xs).mergeSort fun x y => decide (x ≤ y)).Pairwise (fun a b => (decide (a ≤ b)) = true) := List.pairwise_mergeSort (fun a b c h1 h2 => by simp at *; omega) (fun a b => by simp; omega) _
  have hn : ((wStates xs).mergeSort fun x y => decide (x ≤ y)).Nodup := hp.nodup_iff.2 hS.new
  refine sorted_unique ?_ (reachL_sorted M) (fun x => ?_)
  · have := List.Pairwise.and hs hn
    exact this.imp (fun ⟨h1, h2⟩ => by simp at h1; omega)
  · rw [hp.mem_iff, mem_reachL hM]
    constructor
    · intro hx
      obtain ⟨y, hy, rfl⟩ := List.mem_map.1 hx
      have := (hS.ways y hy).1
      exact ⟨_, this.ok, this.leads⟩
    · rintro ⟨v, hv, rfl⟩
      exact hS.all v hv
end Go.Lin
namespace Go.Proofs.Ytnebpcpihldllaa
open Go.RowKit Go.Lin Go.Maps Go.Shelf
attribute [local go_sem] Oper.semAt_some

def intsOf (xs : List WX) : List Value := xs.map fun x => .int .i64 (x.1.1 : Int)

/-- What the loop's own cells hold when 'pre' has come. -/
structure RI (M : Mach) (w W1 : World) (B3 : Nat) (pre : List WX) (T : Nat → Prop) (v : Value) (W : World) : Prop where
  grew : Grew w W
  size : W1.heap.size ≤ W.heap.size
  box : W.heap[B3]? = some (.cells #[v] 34 (0, 0))
  seg : Seg W w.heap.size 3 1 v pre.length (intsOf pre)
  far : ∀ k, T k → W1.heap.size ≤ k
  own : ∀ k, v.ownBlock = some k → ¬ T k
  lt : ∀ y ∈ pre, y.1.1 < M.n

theorem RI.keeps {M : Mach} {w W1 W W' : World} {B3 : Nat} {pre : List WX} {T T' : Nat → Prop} {v : Value} (h : RI M w W1 B3 pre T v W) (h1 : B3 < W1.heap.size) (h2 : w.heap.size ≤ W1.heap.size) (hk : Keeps (fun k o => T k ∨ (W1.heap.size ≤ k ∧ o.isCells = false)) W W') (hT : ∀ k, T' k → T k ∨ W.heap.size ≤ k) : RI M w W1 B3 pre T' v W' := by
  refine ⟨h.grew.trans (hk.below h.grew.size (fun k o hm => ?_)), Nat.le_trans h.size hk.size, hk.obj _ _ h.box (fun hm => ?_), h.seg.keeps hk (fun k o hv ⟨cur, ho⟩ hm => ?_), fun k hk' => ?_, fun k hv hk' => ?_, h.lt⟩
  · rcases hm with hm | hm
    · have := h.far k hm; omega
    · omega
  · rcases hm with hm | hm
    · have := h.far _ hm; omega
    · cases hm.2
  · rcases hm with hm | hm
    · exact h.own k hv hm
    · rw [ho] at hm; cases hm.2
  · rcases hT k hk' with hm | hm
    · exact h.far k hm
    · have := h.size; omega
  · rcases hT k hk' with hm | hm
    · exact h.own k hv hm
    · have := (h.seg.own k hv).2.1; omega

set_option maxHeartbeats 4000000 in
set_option maxRecDepth 100000 in
theorem reached_any (M : Mach) (hM : M.WF) (mv : Value) (w : World) (hm : IsMach w mv M) :
    Calls Try.prog 90 #[mv] w fun e w' => ∃ u, e = .returned u ∧ Grew w w' ∧ Seg w' w.heap.size 3 1 u (reachL M).length ((reachL M).map fun (x : Nat) => .int .i64 (x : Int)) := by
  have HM := hid hm
  obtain ⟨b1, off1, c1, b2, off2, c2, rfl, t1, t2⟩ := hm
  have n8 := hM.n8
  clear t1 t2
  obtain ⟨W0, hW0, g0, k0, k1, k2, k3, hz⟩ := box4 w (.int .i64 (M.n : Int)) (.int .i64 (M.k : Int)) (.slice (some ⟨b1, off1, none⟩) M.n c1) (.slice (some ⟨b2, off2, none⟩) M.n c2) 60
  obtain ⟨W1, hW1, g1, e3, hz1⟩ := box1 W0 (.slice none 0 0) 34
  have g01 := grew_trans g0 g1
  have r0 := (g1.cell (p := ⟨w.heap.size, 0, none⟩) hz).trans k0
  have r1 := (g1.cell (p := ⟨w.heap.size, 1, none⟩) hz).trans k1
  have r2 := (g1.cell (p := ⟨w.heap.size, 2, none⟩) hz).trans k2
  have r3 := (g1.cell (p := ⟨w.heap.size, 3, none⟩) hz).trans k3
  clear k0 k1 k2 k3
  have o3 : W1.heap[W0.heap.size]? = some (.cells #[.slice none 0 0] 34 (0, 0)) := by rw [← hW1]; exact heap_alloc_new W0 _
  refine (callsIn_wide (n := 6)).1 ?_
  refine callsIn_of_wp_marks Try.func90 rfl trivial ?_ rfl
  simp only [Try.ntmps90, List.size_toArray, List.length_cons, List.length_nil, Nat.reduceAdd, Nat.reduceSub, Array.replicate_succ, Array.replicate_zero, List.push_toArray, List.append_toArray, List.nil_append, List.cons_append]
  gi_wp2
  obtain ⟨sv, hsv⟩ : ∃ sv : Value, Value.agg #[.int .i64 (M.n : Int), .int .i64 (M.k : Int), .slice (some ⟨b1, off1, none⟩) M.n c1, .slice (some ⟨b2, off2, none⟩) M.n c2] = sv := ⟨_, rfl⟩
  rw [hsv] at HM ⊢
  clear hsv r0 r1 r2 r3 e3 hW0 hW1
  have hs0 := g0.size; have hs1 := g1.size
  have hww : w.heap.size ≤ W1.heap.size := g01.size
  refine wpIn_rangeFunc_sepH (P := Try.prog) rfl (by decide) (gf := 88) (fa := #[sv]) (lb := #[]) rfl trivial (enters_of Try.func88 (by kernel_rfl) rfl) (ways_stops M hM sv w 5 (by decide) HM.out) g01 hww (fun _ => rfl)
    (fun pre T W => ∃ v, RI M w W1 W0.heap.size pre T v W)
    (fun c pre W => False)
    ?hI (fun _ _ _ _ h _ => h)
    (fun pre T x a' W => (∃ v, RI M w W1 W0.heap.size pre T v W) ∧ HasWay M pre x W ∧ ∃ Bx ad c, x.2 = .slice ad x.1.2.2.length c ∧ W1.heap.size + 2 ≤ Bx ∧ W.heap[Bx]? = some (.cells #[.int .i64 (x.1.1 : Int), .slice ad x.1.2.2.length c] 89 (0, 0)) ∧
      a' = { tmps := #[sv, .pointer (some ⟨w.heap.size, 0, none⟩), .slice none 0 0, .pointer (some ⟨W0.heap.size, 0, none⟩), .pointer (some ⟨Bx, 0, none⟩), sv, .func (.func 88) #[sv] #[], .agg #[.int .i64 (x.1.1 : Int), .slice ad x.1.2.2.length c], undef, undef, undef, undef, undef, undef, undef, undef], defers := [] })
    ?hAx ⟨.slice none 0 0, ⟨g01, Nat.le_refl _, o3, Seg.nil _ _ _ _, fun k h => h.elim, fun k h => (by simp [Value.ownBlock] at h), fun y hy => (by simp at hy)⟩⟩ ?assign ?body ?done (fun _ _ _ _ _ h _ => h.elim)
  case hI =>
    rintro pre T W W' ⟨v, h⟩ hk T' hT'
    exact ⟨v, h.keeps hz1 hww hk hT'⟩
  case hAx =>
    rintro pre T x a' W W' ⟨⟨v, h⟩, hh, Bx, ad, c, hx, hB, hob, rfl⟩ hk
    refine ⟨⟨v, h.keeps hz1 hww (hk.mono (fun k o hm => .inr ⟨hm.1, hm.2.2⟩)) (fun k h => .inl h)⟩, ⟨hh.word.keeps hk (fun k o ⟨c, fr, ho⟩ ⟨_, _, hm⟩ => by rw [ho] at hm; cases hm), hh.way, hh.lt, hh.new⟩, Bx, ad, c, hx, hB, hk.obj _ _ hob (fun h => by omega), rfl⟩
  case assign =>
    rintro l pre T ⟨⟨xs, xz, xw⟩, xv⟩ W K ⟨v, hi⟩ hh hT hlt hK
    obtain ⟨va, vc, hv, _, _⟩ := hh.word
    simp only [] at hv
    subst hv
    obtain ⟨W5, hW5, g5, q0, q1, hz5⟩ := box2 W (.int .i64 (xs : Int)) (.slice va xw.length vc) 89
    dsimp only [encW]
    gi_wp2
    refine hK _ W5 g5.keeps ⟨⟨v, hi.keeps hz1 hww g5.keeps (fun k h => .inl h)⟩, ⟨hh.word.grew g5, hh.way, hh.lt, hh.new⟩, W.heap.size, va, vc, rfl, by omega, by rw [← hW5]; exact heap_alloc_new W _, rfl⟩
  case body =>
    rintro l pre T ⟨⟨xs, xz, xw⟩, xv⟩ a' W ⟨⟨v, hi⟩, hh, Bx, ad, c, hx, hB, hob, rfl⟩ hT hlt
    simp only [] at hx hob
    subst hx
    have q0 : W.cell? ⟨Bx, 0, none⟩ = some (.int .i64 (xs : Int)) := cell_of_row _ _ _ _ _ _ hob
    have e3 : W.cell? ⟨W0.heap.size, 0, none⟩ = some v := cell_of_row _ _ _ _ _ _ hi.box
    obtain ⟨av, cv, rfl, _⟩ := hi.seg.shape
    have hcnt : (pre ++ [((xs, xz, xw), Value.slice ad xw.length c)]).length ≤ M.n := by
      have := nodup_lt_length M.n _ hh.new (fun x hx => by
        obtain ⟨y, hy, rfl⟩ := List.mem_map.1 hx
        rcases List.mem_append.1 hy with hy | hy
        · exact hi.lt y hy
        · simp only [List.mem_singleton] at hy; subst hy; exact hh.lt)
      simpa [wStates] using this
    rw [List.length_append, List.length_singleton] at hcnt
    have HOB := hid hob; have HI := hid hi; clear hob hi
    have hlen : pre.length < 1000000000 := by omega
    gi_wp2_with (gi_at_builtin; refine wpListIn_append_one rfl _ _ 34 rfl w.heap.size 3 Try.underlying34 Try.info3 rfl (by decide) _ pre.length _ rfl (HI.out.seg.alloc _) _ _ _ rfl (one_new _ _ _) rfl hlen ?_ ?_
                 (have := HI.out.grew.size; simp only [World.size_alloc]; omega)
                 intro v4 w4 hown4 hgrow4 hblk4
                 have hk4 : Keeps (fun k o => (Value.slice av pre.length cv).ownBlock = some k ∧ ∃ cur, o = .cells cur 3 (0, 0)) W w4 := ((Keeps.refl _ W).alloc _).grown hgrow4 (fun k o e ho => by obtain ⟨_, _, cur, hcur⟩ := HI.out.seg.own k e; have h2 : (W.alloc (.cells #[.int .i64 (xs : Int)] 3)).heap[k]? = some (.cells cur 3 (0, 0)) := (Below.heap_alloc _ _ k (lt_of_obj hcur)).trans hcur; rw [h2] at ho; cases ho; exact ⟨e, _, rfl⟩)
                 have ob4 := hk4.obj _ _ HI.out.box (fun ⟨_, cur, h⟩ => by cases h)
                 have c4 : w4.cell? ⟨W0.heap.size, 0, none⟩ = some (.slice av pre.length cv) := cell_of_row _ _ _ _ _ _ ob4
                 have f4 := frozen_obj ob4 0
                 have OB4 := hid ob4; have HK4 := hid hk4; have HOWN4 := hid hown4; have HBLK4 := hid hblk4
                 obtain ⟨a4, c4', rfl, _⟩ := hown4.shape
                 clear ob4 hk4 hown4 hblk4 hgrow4)
    have hne : ∀ k, (Value.slice a4 (pre.length + 1) c4').ownBlock = some k → k ≠ W0.heap.size := fun k hv e => by
      obtain ⟨_, _, cur, hcur⟩ := HOWN4.out.own k hv
      rw [e, OB4.out] at hcur; cases hcur
    have hks := keeps_setCell (may := fun k _ => k = W0.heap.size) w4 W0.heap.size (.slice a4 (pre.length + 1) c4') (fun _ _ => rfl)
    have hnT : ¬ T W0.heap.size := fun h => by have := hT _ h; omega
    have hz4 := HK4.out.size
    have hz5 := hks.size
    have hkb : Keeps (fun k o => ¬ T k ∧ w.heap.size ≤ k ∧ (k < W1.heap.size ∨ o.isCells = true)) W (w4.setCell ⟨W0.heap.size, 0, none⟩ (.slice a4 (pre.length + 1) c4')) :=
      (HK4.out.mono (fun k o h => ⟨HI.out.own k h.1, (HI.out.seg.own k h.1).1, .inr (by obtain ⟨_, cur, ho⟩ := h; rw [ho]; rfl)⟩)).trans (hks.mono (fun k o h => by subst h; exact ⟨hnT, hs0, .inl hz1⟩))
    refine ⟨hkb, .slice a4 (pre.length + 1) c4', ?_⟩
    refine ⟨HI.out.grew.trans (hkb.below HI.out.grew.size (fun k o h => h.2.1)), by have := HI.out.size; omega, ?_, ?_, HI.out.far, fun k hv hTk => ?_, fun y hy => ?_⟩
    · have h1 := OB4.out
      simp [World.setCell, Array.getElem?_modify, h1]
    · have h := HOWN4.out.keeps hks (fun k o hv _ e => hne k hv e)
      simpa [intsOf] using h
    · rcases HBLK4.out with e | e
      · exact HI.out.own k (e.symm.trans hv) hTk
      · have e2 := e.symm.trans hv
        have := (hT _ hTk).2
        simp at e2
        omega
    · rcases List.mem_append.1 hy with hy | hy
      · exact HI.out.lt y hy
      · simp only [List.mem_singleton] at hy; subst hy; exact hh.lt
  case done =>
    rintro D xs T W hD hS ⟨v, hi⟩ hK
    have e3 : W.cell? ⟨W0.heap.size, 0, none⟩ = some v := cell_of_row _ _ _ _ _ _ hi.box
    obtain ⟨av, cv, rfl, _⟩ := hi.seg.shape
    have HI := hid hi; clear hi
    have hcnt : xs.length ≤ M.n := by
      have := nodup_lt_length M.n _ hS.new (fun x hx => by
        obtain ⟨y, hy, rfl⟩ := List.mem_map.1 hx
        exact (hS.ways y hy).2)
      simpa [wStates] using this
    have hsort := sort_seg ((wStates xs).map fun (x : Nat) => (x : Int)) (.slice av xs.length cv) W w.heap.size 3 (by simp [wStates]; omega) (by simpa [wStates, intsOf, Function.comp_def] using HI.out.seg)
    have HSORT := hid hsort; clear hsort
    gi_wp2_with (refine ⟨trivial, ?_⟩; gi_at_call 108; refine (callsIn_wide.2 HSORT.out).mono ?_
                 rintro e w5 ⟨rfl, hs5, hg5⟩
                 have hk5 : Keeps (fun k o => (Value.slice av xs.length cv).ownBlock = some k ∧ ∃ cur, o = .cells cur 3 (0, 0)) W w5 := (Keeps.refl _ W).grown hg5 (fun k o e ho => by obtain ⟨_, _, cur, hcur⟩ := HI.out.seg.own k e; rw [hcur] at ho; cases ho; exact ⟨e, _, rfl⟩)
                 have ob5 := hk5.obj _ _ HI.out.box (fun ⟨_, cur, h⟩ => by cases h)
                 have c5 : w5.cell? ⟨W0.heap.size, 0, none⟩ = some (.slice av xs.length cv) := cell_of_row _ _ _ _ _ _ ob5
                 have HK5 := hid hk5; have HS5 := hid hs5; clear hk5 hs5 hg5 ob5)
    have hK5 := HK5.out.obj _ _ hK (fun ⟨_, cur, h⟩ => by cases h)
    refine ⟨by simp, .inl ⟨_, _, rfl, run_takeDeferred hK5, ?_⟩⟩
    have hkp := keeps_putObj (may := fun k o => W1.heap.size ≤ k ∧ o.isCells = false) _ (.deferred none) hK5 ⟨hD, rfl⟩
    refine ⟨_, results_tmp rfl _ _ _, .slice av xs.length cv, rfl, ?_, ?_⟩
    · refine HI.out.grew.trans ((HK5.out.below HI.out.grew.size (fun k o h => (HI.out.seg.own k h.1).1)).trans (hkp.below (by have := HI.out.size; have := HK5.out.size; omega) (fun k o h => by omega)))
    · have h := HS5.out
      rw [sorted_states hM hS] at h
      have hl : (reachL M).length = xs.length := by
        have := congrArg List.length (sorted_states hM hS)
        simpa [wStates, sorted, List.length_mergeSort] using this.symm
      simp only [List.length_map, wStates] at h
      rw [hl]
      refine Seg.keeps ?_ hkp (fun k o hv ⟨cur, ho⟩ ⟨_, hm⟩ => by rw [ho] at hm; cases hm)
      simpa [Function.comp_def] using h
end Go.Proofs.Ytnebpcpihldllaa
