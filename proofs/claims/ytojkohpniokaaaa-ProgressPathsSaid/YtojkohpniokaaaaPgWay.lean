/- Walks: legs (89), anyMove (82), way (81). -/
import Derived.Test.YtojkohpniokaaaaPgLegs
import Derived.Test.YtojkohpniokaaaaRangeSepH
namespace Go.Lin.Pg
open Go Go.RowKit

/-- A graph whose numbers are right. -/
structure GOk (g : Gr) (N : Nat) : Prop where
  n : g.n = (N : Int)
  h1 : 1 ≤ N
  h8 : N ≤ 8
  inN : InN N g.ms
  h20 : g.ms.length ≤ 20
  ths : ∀ m ∈ g.ms, isTh (th m) = true

theorem mvsOk_all {n : Int} : ∀ (s l : List Mv), mvsOk n s l = true → ∀ m ∈ l, mvOk n m = true
  | _, [], _, m, hm => by cases hm
  | s, x :: l, h, m, hm => by
    simp only [mvsOk, Bool.and_eq_true] at h
    rcases List.mem_cons.1 hm with rfl | hm
    · exact h.1.1
    · exact mvsOk_all _ l h.2 m hm

theorem gOk_of_valid {g : Gr} (h : valid g = true) : ∃ N, GOk g N := by
  unfold valid at h
  simp only [Bool.and_eq_true, decide_eq_true_eq] at h
  obtain ⟨⟨h1, h2, h3⟩, h4⟩ := h
  refine ⟨g.n.toNat, by omega, by omega, by omega, fun m hm => ?_, h4, fun m hm => ?_⟩
  · have := mvsOk_all _ _ h1 m hm
    unfold mvOk isPl at this
    simp only [Bool.and_eq_true, decide_eq_true_eq] at this
    omega
  · have := mvsOk_all _ _ h1 m hm
    unfold mvOk at this
    simp only [Bool.and_eq_true] at this
    exact this.2

theorem IsMvs.off {w W : World} {v : Value} {ms : List Mv} (h : IsMvs w v ms) (hg : Grew w W) : MvsOff (fun k _ => k < w.heap.size) W v ms := by
  obtain ⟨a, cap, h1, _, h3⟩ := h
  refine ⟨a, cap, h1, fun i m hm => ?_⟩
  obtain ⟨b, off, h4, h5⟩ := h3 i m hm
  have hb := h5.lt
  exact ⟨b, off, _, h4, (hg.block b hb).trans (Array.getElem?_eq_getElem hb), hb, h5.grew hb hg⟩

theorem MvsOff.mono {S S' : Nat → Obj → Prop} {w : World} {v : Value} {ms : List Mv} (h : MvsOff S w v ms) (hS : ∀ k o, S k o → S' k o) : MvsOff S' w v ms := by
  obtain ⟨a, cap, h1, h3⟩ := h
  refine ⟨a, cap, h1, fun i m hm => ?_⟩
  obtain ⟨b, off, o, h4, h5, h6, h7⟩ := h3 i m hm
  exact ⟨b, off, o, h4, h5, hS _ _ h6, h7⟩
end Go.Lin.Pg
namespace Go.Proofs.Ytojkohpniokaaaa
open Go Go.RowKit Go.Lin Go.Lin.Pg Go.Maps Go.Shelf
attribute [local go_sem] Oper.semAt_some

/-- A function of moves that says p. -/
def IsFn (w : World) (v : Value) (p : Mv → Bool) : Prop := ∃ f caps, v = .func (.func f) #[] caps ∧ (∀ args w, (callFunc f args).run Try.prog w = .ok (.enter f args) w) ∧
  ∀ W, Grew w W → ∀ m, Calls Try.prog f (#[encM m] ++ caps) W fun e w' => e = .returned (.bool (p m)) ∧ Grew W w'

theorem IsFn.grew {w w' : World} {v : Value} {p : Mv → Bool} (h : IsFn w v p) (hg : Grew w w') : IsFn w' v p :=
  let ⟨f, caps, h1, h2, h3⟩ := h; ⟨f, caps, h1, h2, fun W hW => h3 W (grew_trans hg hW)⟩

theorem any82 (w : World) : IsFn w (.func (.func 82) #[] #[]) (fun _ => true) := by
  refine ⟨82, #[], rfl, fun _ _ => by kernel_rfl, fun W _ m => ?_⟩
  obtain ⟨W1, hW1, g1, hb1⟩ := box4v W m
  unfold encM
  go_enter Try.func82, Try.ntmps82
  go_wp2
  go_ret
  exact ⟨rfl, g1⟩

theorem legs89_any (n : Int) (mv : Value) (a : Int) (f : Nat) (caps : Array Value) (w : World) :
    Calls Try.prog 89 #[.agg #[.int .i64 n, mv], .int .i64 a, .func (.func f) #[] caps] w fun e w' => ∃ c1 c2 c3, e = .returned (.func (.func 99) #[] #[.pointer (some ⟨c1, 0, none⟩), .pointer (some ⟨c2, 0, none⟩), .pointer (some ⟨c3, 0, none⟩)]) ∧
      Grew w w' ∧ w'.cell? ⟨c1, 0, none⟩ = some (.int .i64 a) ∧ w'.cell? ⟨c2, 1, none⟩ = some mv ∧ w'.cell? ⟨c3, 0, none⟩ = some (.func (.func f) #[] caps) ∧ (w.heap.size ≤ c1 ∧ w.heap.size ≤ c2 ∧ w.heap.size ≤ c3) := by
  obtain ⟨W0, hW0, g0, k0, k1, hz⟩ := box2 w (.int .i64 n) mv 24
  obtain ⟨W1, hW1, g1, l0, hz1⟩ := box1 W0 (.int .i64 a) 3
  obtain ⟨W2, hW2, g2, m0, hz2⟩ := box1 W1 (.func (.func f) #[] caps) 70
  go_enter Try.func89, Try.ntmps89
  go_wp2
  go_ret
  exact ⟨_, _, _, rfl, grew_trans g0 (grew_trans g1 g2), (g2.cell (p := ⟨W0.heap.size, 0, none⟩) hz1).trans l0, ((grew_trans g1 g2).cell (p := ⟨w.heap.size, 1, none⟩) hz).trans k1, m0, by have := g0.size; omega, Nat.le_refl _, by have := g0.size; have := g1.size; omega⟩

theorem results_pair {t1 t2 : Tmp} {fn : Func} {tmps : Array Value} {p q : Nat} {W : World} {u v : Value} (h : fn.results = #[.cell t1 25, .cell t2 4]) (h1 : tmps[t1]?.getD undef = .pointer (some ⟨p, 0, none⟩)) (h2 : tmps[t2]?.getD undef = .pointer (some ⟨q, 0, none⟩))
    (c1 : W.cell? ⟨p, 0, none⟩ = some u) (c2 : W.cell? ⟨q, 0, none⟩ = some v) : (results fn tmps).run Try.prog W = .ok (.tuple #[u, v]) W := by
  simp [results, h, h1, h2, go_sem, c1, c2, Try.isAgg25, Try.isAgg4]

theorem setCell_obj (W : World) (b : Nat) (v : Value) (k : Nat) (hne : k ≠ b) : (W.setCell ⟨b, 0, none⟩ v).heap[k]? = W.heap[k]? := by
  simp [World.setCell, Array.getElem?_modify, Ne.symm hne]

/-- Two results, stored into their cells. -/
theorem two_stores {W : World} {p q : Nat} {x y : Value} {t t' : TypeId} (hne : p ≠ q) (ho : W.heap[p]? = some (.cells #[x] t (0, 0))) (hq : W.heap[q]? = some (.cells #[y] t' (0, 0))) (u v : Value) :
    Keeps (fun k o => (k = p ∨ k = q) ∧ ∃ c e fr, o = .cells c e fr ∧ (e = t ∨ e = t')) W ((W.setCell ⟨p, 0, none⟩ u).setCell ⟨q, 0, none⟩ v) ∧
      ((W.setCell ⟨p, 0, none⟩ u).setCell ⟨q, 0, none⟩ v).cell? ⟨p, 0, none⟩ = some u ∧ ((W.setCell ⟨p, 0, none⟩ u).setCell ⟨q, 0, none⟩ v).cell? ⟨q, 0, none⟩ = some v := by
  have cp : W.cell? ⟨p, 0, none⟩ = some x := cell_of_row _ _ _ _ _ _ ho
  have cq : W.cell? ⟨q, 0, none⟩ = some y := cell_of_row _ _ _ _ _ _ hq
  have hab : (⟨p, 0, none⟩ : Addr) ≠ ⟨q, 0, none⟩ := fun h => hne (congrArg Addr.block h)
  refine ⟨(keeps_setCell W _ _ (fun o h => by rw [ho] at h; cases h; exact ⟨.inl rfl, _, _, _, rfl, .inl rfl⟩)).trans (keeps_setCell _ _ _ (fun o h => by
    rw [setCell_obj W p u q (Ne.symm hne), hq] at h; cases h; exact ⟨.inr rfl, _, _, _, rfl, .inr rfl⟩)), ?_, ?_⟩
  · rw [World.cell?_setCell_other _ _ _ _ (Ne.symm hab)]
    exact World.cell?_setCell_same' _ _ _ (by rw [cp]; rfl)
  · refine World.cell?_setCell_same' _ _ _ ?_
    rw [World.cell?_setCell_other _ _ _ _ hab, cq]; rfl

set_option maxHeartbeats 4000000 in
set_option maxRecDepth 100000 in
theorem way81_any (g : Gr) (N : Nat) (hG : GOk g N) (gv : Value) (may : Mv → Bool) (fv : Value) (a b : Int) (ha : 0 ≤ a ∧ a < (N : Int)) (w : World) (hg : IsGr w gv g) (hf : IsFn w fv may) :
    Calls Try.prog 81 #[gv, .int .i64 a, .int .i64 b, fv] w fun e w' => ∃ u r, e = .returned (.tuple #[u, .bool r]) ∧ Grew w w' ∧
      ((r = true ∧ ∃ l, IsWay g.ms may a b l ∧ l.length < 8 ∧ WdOff (fun k o => IntCells k o ∧ w.heap.size ≤ k) w' u (pInts l)) ∨ (r = false ∧ u = .slice none 0 0 ∧ ∀ v, goG g.ms may a v ≠ some b)) := by
  obtain ⟨mv, rfl, hmv⟩ := hg
  obtain ⟨f, caps, rfl, hent, hf⟩ := hf
  have HF := hid hf; have HMV := hid hmv; have HG := hid hG
  clear hf hmv hG
  obtain ⟨gn, hgn⟩ : ∃ gn, g.n = gn := ⟨_, rfl⟩
  rw [hgn]
  obtain ⟨W0, hW0, g0, k0, k1, hz⟩ := box2 w (.int .i64 gn) mv 24
  obtain ⟨W1, hW1, g1, l0, hz1⟩ := box1 W0 (.int .i64 b) 3
  obtain ⟨W2, hW2, g2, e4, hz2⟩ := box1 W1 (.slice none 0 0) 25
  obtain ⟨W3, hW3, g3, e5, hz3⟩ := box1 W2 (.bool false) 4
  have g13 := grew_trans g1 (grew_trans g2 g3)
  have g03 := grew_trans g0 g13
  have r0 := (g13.cell (p := ⟨w.heap.size, 0, none⟩) hz).trans k0
  have r1 := (g13.cell (p := ⟨w.heap.size, 1, none⟩) hz).trans k1
  have r4 := ((grew_trans g2 g3).cell (p := ⟨W0.heap.size, 0, none⟩) hz1).trans l0
  have HLG := hid (legs89_any gn mv a f caps W3)
  clear k0 k1 l0
  refine (callsIn_wide (n := 6)).1 ?_
  refine callsIn_of_wp_marks Try.func81 rfl trivial ?_ rfl
  simp only [Try.ntmps81, List.size_toArray, List.length_cons, List.length_nil, Nat.reduceAdd, Nat.reduceSub, Array.replicate_succ, Array.replicate_zero, List.push_toArray, List.append_toArray, List.nil_append, List.cons_append]
  gi_wp2_with (refine ⟨trivial, ?_⟩; gi_at_call 89; refine (callsIn_wide.2 HLG.out).mono ?_; rintro e w1 ⟨c1, c2, c3, rfl, hx, x1, x2, x3, _⟩)
  have hs1 := g1.size; have hs2 := g2.size; have hs3 := g3.size; have hs0 := g0.size; have hsx := hx.size
  have E0 := hid ((hx.cell (p := ⟨W0.heap.size, 0, none⟩) (Nat.lt_of_lt_of_le hz1 (by omega))).trans r4)
  have g04 := grew_trans g03 hx
  have o4 : W2.heap[W1.heap.size]? = some (.cells #[.slice none 0 0] 25 (0, 0)) := by rw [← hW2]; exact heap_alloc_new W1 _
  have o5 : W3.heap[W2.heap.size]? = some (.cells #[.bool false] 4 (0, 0)) := by rw [← hW3]; exact heap_alloc_new W2 _
  have O4 := hid (((grew_trans g3 hx).block _ hz2).trans o4)
  have O5 := hid ((hx.block _ hz3).trans o5)
  have hz1c := World.block_lt_of_cell? _ _ x1
  have hz2c := World.block_lt_of_cell? _ _ x2
  have hz3c := World.block_lt_of_cell? _ _ x3
  simp only at hz1c hz2c hz3c
  have HSEQ := hid (legs_stops g.ms may a N HG.out.h8 HG.out.inN ha HG.out.h20 c1 c2 c3 f caps mv w1 5 (by decide) (fun k _ => w1.heap.size ≤ k) x1 x2 x3 (fun _ _ => by omega) (fun _ _ => by omega) (fun _ _ => by omega)
    ((HMV.out.off g04).mono (fun k o h => by have := g04.size; omega)) hent (fun W hW m _ => HF.out W (grew_trans g04 (hW.below (Nat.le_refl _) (fun k o h => h))) m))
  clear o4 o5 HLG r0 r1 r4 e4 e5 hW0 hW1 hW2 hW3 x1 x2 x3
  refine wpIn_rangeFunc_sepH (P := Try.prog) rfl (by decide) (gf := 99) (fa := #[]) (lb := #[.pointer (some ⟨c1, 0, none⟩), .pointer (some ⟨c2, 0, none⟩), .pointer (some ⟨c3, 0, none⟩)]) rfl trivial (enters_of Try.func99 (by kernel_rfl) rfl) HSEQ.out (grew_refl w1) (fun _ _ h => h) (fun _ => rfl)
    (fun pre T W => Grew w1 W ∧ (∀ k, T k → w1.heap.size ≤ k) ∧ ∀ x ∈ pre, x.1.1 ≠ b)
    (fun c pre W => c = .ret ∧ w1.heap.size ≤ W.heap.size ∧ ∃ u l, Grew w W ∧ W.cell? ⟨W1.heap.size, 0, none⟩ = some u ∧ W.cell? ⟨W2.heap.size, 0, none⟩ = some (.bool true) ∧ IsWay g.ms may a b l ∧ l.length < 8 ∧ WdOff (fun k o => IntCells k o ∧ w.heap.size ≤ k) W u (pInts l))
    ?hI ?hIx
    (fun pre T x a' W => (Grew w1 W ∧ (∀ k, T k → w1.heap.size ≤ k) ∧ ∀ x ∈ pre, x.1.1 ≠ b) ∧ HasL w1.heap.size g.ms may a pre x W ∧ ∃ Bx ad c, x.2 = .slice ad x.1.2.length c ∧ w1.heap.size + 2 ≤ Bx ∧ W.heap[Bx]? = some (.cells #[.int .i64 x.1.1, .slice ad x.1.2.length c] 104 (0, 0)) ∧
      a' = { tmps := #[.agg #[.int .i64 gn, mv], .int .i64 a, .int .i64 b, .func (.func f) #[] caps, .pointer (some ⟨w.heap.size, 0, none⟩), undef, .pointer (some ⟨W0.heap.size, 0, none⟩), undef, .pointer (some ⟨W1.heap.size, 0, none⟩), .pointer (some ⟨W2.heap.size, 0, none⟩), .pointer (some ⟨Bx, 0, none⟩), .agg #[.int .i64 gn, mv], .int .i64 a, .func (.func f) #[] caps, .func (.func 99) #[] #[.pointer (some ⟨c1, 0, none⟩), .pointer (some ⟨c2, 0, none⟩), .pointer (some ⟨c3, 0, none⟩)], .agg #[.int .i64 x.1.1, .slice ad x.1.2.length c], undef, undef, undef, undef, undef, undef], defers := [] })
    ?hAx ⟨grew_refl _, fun k h => h.elim, fun x hx => by cases hx⟩ ?assign ?body ?done ?stop
  case hI =>
    rintro pre T W W' ⟨h1, h2, h3⟩ hk T' hT'
    refine ⟨h1.trans (hk.below h1.size (fun k o h => h.elim (h2 k) (fun h => h.1))), fun k h => ?_, h3⟩
    rcases hT' k h with h | h
    · exact h2 k h
    · have := h1.size; omega
  case hIx =>
    rintro c pre W W' ⟨rfl, hz, u, ws, h1, h2, h3, h4, h5, h6⟩ hk
    have hb : Below w1.heap.size W W' := hk.below hz (fun k o h => h.1)
    refine ⟨rfl, Nat.le_trans hz hk.size, u, ws, h1.trans (hb.mono (by omega)), (hb.cell (p := ⟨W1.heap.size, 0, none⟩) (by show W1.heap.size < w1.heap.size; omega)).trans h2, (hb.cell (p := ⟨W2.heap.size, 0, none⟩) (by show W2.heap.size < w1.heap.size; omega)).trans h3, h4, h5, h6.keeps hk (fun k o ⟨⟨c, fr, ho⟩, _⟩ ⟨_, hm⟩ => by rw [ho] at hm; cases hm)⟩
  case hAx =>
    rintro pre T x a' W W' ⟨⟨h1, h2, h3⟩, hh, Bx, ad, c, hx, hB, hob, rfl⟩ hk
    refine ⟨⟨h1.trans (hk.below h1.size (fun k o h => h.1)), h2, h3⟩, hh.keeps hk (fun k c fr ⟨_, _, hm⟩ => by cases hm), Bx, ad, c, hx, hB, hk.obj _ _ hob (fun h => by omega), rfl⟩
  case assign =>
    rintro l pre T ⟨⟨xs, xw⟩, xv⟩ W K hi hh hT hlt hK
    obtain ⟨⟨va, vc, hv, _⟩, _⟩ := id hh.path
    simp only [pInts, List.length_map] at hv
    subst hv
    obtain ⟨W5, hW5, g5, q0, q1, hz5⟩ := box2 W (.int .i64 xs) (.slice va xw.length vc) 104
    dsimp only [encL]
    gi_wp2
    refine hK _ W5 g5.keeps ⟨⟨grew_trans hi.1 g5, hi.2⟩, hh.keeps (yd := fun _ _ => False) g5.keeps (fun _ _ _ h => h), W.heap.size, va, vc, rfl, by omega, by rw [← hW5]; exact heap_alloc_new W _, rfl⟩
  case body =>
    rintro l pre T ⟨⟨xs, xw⟩, xv⟩ a' W ⟨⟨i1, i2, i3⟩, hh, Bx, ad, c, hx, hB, hob, rfl⟩ hT hlt
    simp only [] at hx hob
    subst hx
    have q0 : W.cell? ⟨Bx, 0, none⟩ = some (.int .i64 xs) := cell_of_row _ _ _ _ _ _ hob
    have q1 : W.cell? ⟨Bx, 1, none⟩ = some (.slice ad xw.length c) := cell_of_row _ _ _ _ _ _ hob
    have e0 := (i1.cell (p := ⟨W0.heap.size, 0, none⟩) (by show W0.heap.size < w1.heap.size; omega)).trans E0.out
    have o4 := (i1.block _ (by omega : W1.heap.size < w1.heap.size)).trans O4.out
    have o5 := (i1.block _ (by omega : W2.heap.size < w1.heap.size)).trans O5.out
    have e4 : W.cell? ⟨W1.heap.size, 0, none⟩ = some (.slice none 0 0) := cell_of_row _ _ _ _ _ _ o4
    have e5 : W.cell? ⟨W2.heap.size, 0, none⟩ = some (.bool false) := cell_of_row _ _ _ _ _ _ o5
    have f4 := frozen_obj o4 0
    have f5 := frozen_obj o5 0
    have HO4 := hid o4; have HO5 := hid o5; clear o4 o5
    have HOB := hid hob; clear hob
    by_cases hxa : xs = b
    · subst hxa
      gi_wp2
      have hne : W1.heap.size ≠ W2.heap.size := by omega
      obtain ⟨hk, c1, c2⟩ := two_stores hne HO4.out HO5.out (.slice ad xw.length c) (.bool true)
      have hz6 := hk.size
      refine ⟨hk.mono (fun k o ⟨_, c, t, fr, ho, _⟩ => .inr (by rw [ho]; rfl)), rfl, Nat.le_trans i1.size hz6, _, xw, (grew_trans g04 i1).trans (hk.below (by have := i1.size; omega) (fun k o h => by rcases h.1 with e | e <;> rw [e] <;> omega)), c1, c2, hh.way, hh.short, (hh.path.keeps hk (fun k o ⟨⟨c, fr, ho⟩, _⟩ ⟨_, c', t, fr', ho2, h3⟩ => by rw [ho] at ho2; cases ho2; exact absurd h3 (by decide))).re (fun k o _ h => ⟨h.1, by omega⟩)⟩
    · gi_wp2
      refine ⟨Keeps.refl _ _, i1, i2, fun y hy => ?_⟩
      rcases List.mem_append.1 hy with hy | hy
      · exact i3 y hy
      · simp only [List.mem_singleton] at hy; subst hy; exact hxa
  case done =>
    rintro D xs T W hD hS ⟨i1, i2, i3⟩ hK
    have o4 := (i1.block _ (by omega : W1.heap.size < w1.heap.size)).trans O4.out
    have o5 := (i1.block _ (by omega : W2.heap.size < w1.heap.size)).trans O5.out
    have e4 : W.cell? ⟨W1.heap.size, 0, none⟩ = some (.slice none 0 0) := cell_of_row _ _ _ _ _ _ o4
    have e5 : W.cell? ⟨W2.heap.size, 0, none⟩ = some (.bool false) := cell_of_row _ _ _ _ _ _ o5
    have f4 := frozen_obj o4 0
    have f5 := frozen_obj o5 0
    have HO4 := hid o4; have HO5 := hid o5; clear o4 o5
    gi_wp2
    have hne : W1.heap.size ≠ W2.heap.size := by omega
    obtain ⟨hk, c1, c2⟩ := two_stores hne HO4.out HO5.out (.slice none 0 0) (.bool false)
    have hK6 := hk.obj _ _ hK (fun ⟨_, _, _, _, h, _⟩ => by cases h)
    refine ⟨by simp, .inl ⟨_, _, rfl, run_takeDeferred hK6, ?_⟩⟩
    have hkp := keeps_putObj (may := fun k _ => w1.heap.size ≤ k) _ (.deferred none) hK6 hD
    have hb := hkp.below (B := w1.heap.size) (by have := i1.size; have := hk.size; omega) (fun k o h => h)
    have d1 := (hb.cell (p := ⟨W1.heap.size, 0, none⟩) (by show W1.heap.size < w1.heap.size; omega)).trans c1
    have d2 := (hb.cell (p := ⟨W2.heap.size, 0, none⟩) (by show W2.heap.size < w1.heap.size; omega)).trans c2
    refine ⟨.tuple #[.slice none 0 0, .bool false], results_pair rfl rfl rfl d1 d2, _, _, rfl, ?_, .inr ⟨rfl, rfl, fun v hv => ?_⟩⟩
    · exact ((grew_trans g04 i1).trans (hk.below (by have := i1.size; omega) (fun k o h => by rcases h.1 with e | e <;> rw [e] <;> omega))).trans (hb.mono (by omega))
    · obtain ⟨y, hy, hya⟩ := List.mem_map.1 (hS.all v b hv)
      exact i3 y hy hya
  case stop =>
    rintro D c pre W hD ⟨rfl, hz, u, ws, h1, h2, h3, h4, h5, h6⟩ hK
    gi_wp2
    refine ⟨by simp, .inl ⟨_, _, rfl, run_takeDeferred hK, ?_⟩⟩
    have hkp := keeps_putObj (may := fun k o => w1.heap.size ≤ k ∧ o.isCells = false) _ (.deferred none) hK ⟨hD, rfl⟩
    have hb := hkp.below (B := w1.heap.size) hz (fun k o h => h.1)
    have d1 := (hb.cell (p := ⟨W1.heap.size, 0, none⟩) (by show W1.heap.size < w1.heap.size; omega)).trans h2
    have d2 := (hb.cell (p := ⟨W2.heap.size, 0, none⟩) (by show W2.heap.size < w1.heap.size; omega)).trans h3
    refine ⟨.tuple #[u, .bool true], results_pair rfl rfl rfl d1 d2, _, _, rfl, h1.trans (hb.mono (by omega)), .inl ⟨rfl, ws, h4, h5, ?_⟩⟩
    exact h6.keeps hkp (fun k o ⟨⟨c, fr, ho⟩, _⟩ ⟨_, hm⟩ => by rw [ho] at hm; cases hm)
end Go.Proofs.Ytojkohpniokaaaa
