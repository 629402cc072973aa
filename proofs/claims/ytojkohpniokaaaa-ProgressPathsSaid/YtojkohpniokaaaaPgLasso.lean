/- Walk: lasso (60). -/
import Derived.Test.YtojkohpniokaaaaPgAsked
import Derived.Test.YtojkohpniokaaaaPgReached
import Derived.Test.YtojkohpniokaaaaRoundHeld2
namespace Go.Proofs.Ytojkohpniokaaaa
open Go Go.RowKit Go.Lin Go.Lin.Pg Go.Maps Go.Shelf
attribute [local go_sem] Oper.semAt_some run_store_func run_store_nilFunc

/-- Three results, stored into their cells. -/
theorem three_stores {W W' : World} {p q r : Nat} {x y z : Value} (hp : W.heap[p]? = some (.cells #[x] 25 (0, 0))) (hq : W.heap[q]? = some (.cells #[y] 25 (0, 0))) (hr : W.heap[r]? = some (.cells #[z] 4 (0, 0))) (hg : Grew W W')
    (hpq : p ≠ q) (hpr : p ≠ r) (hqr : q ≠ r) (u v s : Value) :
    Keeps (fun k o => (k = p ∨ k = q ∨ k = r) ∧ ∃ c e fr, o = .cells c e fr ∧ e ≠ 3) W' (((W'.setCell ⟨p, 0, none⟩ u).setCell ⟨q, 0, none⟩ v).setCell ⟨r, 0, none⟩ s) ∧
      (((W'.setCell ⟨p, 0, none⟩ u).setCell ⟨q, 0, none⟩ v).setCell ⟨r, 0, none⟩ s).cell? ⟨p, 0, none⟩ = some u ∧ (((W'.setCell ⟨p, 0, none⟩ u).setCell ⟨q, 0, none⟩ v).setCell ⟨r, 0, none⟩ s).cell? ⟨q, 0, none⟩ = some v ∧
      (((W'.setCell ⟨p, 0, none⟩ u).setCell ⟨q, 0, none⟩ v).setCell ⟨r, 0, none⟩ s).cell? ⟨r, 0, none⟩ = some s := by
  have op := (hg.block _ (lt_of_obj hp)).trans hp
  have oq := (hg.block _ (lt_of_obj hq)).trans hq
  have or := (hg.block _ (lt_of_obj hr)).trans hr
  have cp : W'.cell? ⟨p, 0, none⟩ = some x := cell_of_row _ _ _ _ _ _ op
  have cq : W'.cell? ⟨q, 0, none⟩ = some y := cell_of_row _ _ _ _ _ _ oq
  have cr : W'.cell? ⟨r, 0, none⟩ = some z := cell_of_row _ _ _ _ _ _ or
  have a1 : (⟨p, 0, none⟩ : Addr) ≠ ⟨q, 0, none⟩ := fun h => hpq (congrArg Addr.block h)
  have a2 : (⟨p, 0, none⟩ : Addr) ≠ ⟨r, 0, none⟩ := fun h => hpr (congrArg Addr.block h)
  have a3 : (⟨q, 0, none⟩ : Addr) ≠ ⟨r, 0, none⟩ := fun h => hqr (congrArg Addr.block h)
  have hk : Keeps (fun k _ => k = p ∨ k = q ∨ k = r) W' (((W'.setCell ⟨p, 0, none⟩ u).setCell ⟨q, 0, none⟩ v).setCell ⟨r, 0, none⟩ s) :=
    (((keeps_setB W' p 0 u).mono (fun k _ h => .inl h)).trans ((keeps_setB _ q 0 v).mono (fun k _ h => .inr (.inl h)))).trans ((keeps_setB _ r 0 s).mono (fun k _ h => .inr (.inr h)))
  refine ⟨keeps_re hk (fun k o ho h => ⟨h, ?_⟩), ?_, ?_, ?_⟩
  · rcases h with rfl | rfl | rfl
    · rw [op] at ho; cases ho; exact ⟨_, _, _, rfl, by decide⟩
    · rw [oq] at ho; cases ho; exact ⟨_, _, _, rfl, by decide⟩
    · rw [or] at ho; cases ho; exact ⟨_, _, _, rfl, by decide⟩
  · rw [World.cell?_setCell_other _ _ _ _ (Ne.symm a2), World.cell?_setCell_other _ _ _ _ (Ne.symm a1)]
    exact World.cell?_setCell_same' _ _ _ (by rw [cp]; rfl)
  · rw [World.cell?_setCell_other _ _ _ _ (Ne.symm a3)]
    exact World.cell?_setCell_same' _ _ _ (by rw [World.cell?_setCell_other _ _ _ _ a1, cq]; rfl)
  · exact World.cell?_setCell_same' _ _ _ (by rw [World.cell?_setCell_other _ _ _ _ a3, World.cell?_setCell_other _ _ _ _ a2, cr]; rfl)

theorem results_three {t1 t2 t3 : Tmp} {fn : Func} {tmps : Array Value} {p q r : Nat} {W : World} {u v s : Value} (h : fn.results = #[.cell t1 25, .cell t2 25, .cell t3 4]) (h1 : tmps[t1]?.getD undef = .pointer (some ⟨p, 0, none⟩)) (h2 : tmps[t2]?.getD undef = .pointer (some ⟨q, 0, none⟩)) (h3 : tmps[t3]?.getD undef = .pointer (some ⟨r, 0, none⟩))
    (c1 : W.cell? ⟨p, 0, none⟩ = some u) (c2 : W.cell? ⟨q, 0, none⟩ = some v) (c3 : W.cell? ⟨r, 0, none⟩ = some s) : (results fn tmps).run Try.prog W = .ok (.tuple #[u, v, s]) W := by
  simp [results, h, h1, h2, h3, go_sem, c1, c2, c3, Try.isAgg25, Try.isAgg4]

/-- What lasso answers. -/
def LassoA (ms : List Mv) (p q : Mv → Bool) (w : World) (e : Ending) (w' : World) : Prop := ∃ u v r, e = .returned (.tuple #[u, v, .bool r]) ∧ Grew w w' ∧
  ((r = true ∧ ∃ path circ, IsLasso ms p q path circ ∧ path.length < 8 ∧ circ.length < 9 ∧ IsWd w' u (pInts path) ∧ IsWd w' v (pInts circ)) ∨
    (r = false ∧ u = .slice none 0 0 ∧ v = .slice none 0 0 ∧ ∀ path circ, ¬ IsLasso ms p q path circ))

set_option maxHeartbeats 8000000 in
set_option maxRecDepth 100000 in
theorem lasso60_any (g : Gr) (N : Nat) (hG : GOk g N) (gv f1v f2v : Value) (p q : Mv → Bool) (w : World) (hg : IsGr w gv g) (hf1 : IsFn w f1v p) (hf2 : IsFn w f2v q) :
    Calls Try.prog 60 #[.agg #[f1v, f2v], gv] w fun e w' => LassoA g.ms p q w e w' := by
  have HIG := hid hg
  obtain ⟨mv, rfl, hmv⟩ := hg
  obtain ⟨n, hn⟩ : ∃ n, g.ms.length = n := ⟨_, rfl⟩
  obtain ⟨va, vc, hmve, _, hmvs⟩ := id hmv
  rw [hn] at hmve
  subst hmve
  have HMVS := hid hmvs
  have HF1 := hid hf1
  obtain ⟨f1, k1, rfl, hen1, hf1⟩ := hf1
  obtain ⟨f2, k2, rfl, hen2, hf2⟩ := hf2
  have HC1 := hid hf1; have HC2 := hid hf2; have HMV := hid hmv; have HG := hid hG
  clear hf1 hf2 hmv hG hmvs
  obtain ⟨gn, hgn⟩ : ∃ gn, g.n = gn := ⟨_, rfl⟩
  have HN := hid hn
  have hn20 : n ≤ 20 := by rw [← hn]; exact HG.out.h20
  rw [hgn] at HIG ⊢
  clear hn
  obtain ⟨W0, hW0, g0, a0, a1, hz⟩ := box2 w (.func (.func f1) #[] k1) (.func (.func f2) #[] k2) 72
  obtain ⟨W1, hW1, g1, b0, b1, hz1⟩ := box2 W0 (.int .i64 gn) (.slice va n vc) 24
  obtain ⟨W2, hW2⟩ : ∃ W2, W1.alloc (.cells #[.slice none 0 0] 25) = W2 := ⟨_, rfl⟩
  obtain ⟨W3, hW3⟩ : ∃ W3, W2.alloc (.cells #[.slice none 0 0] 25) = W3 := ⟨_, rfl⟩
  obtain ⟨W4, hW4⟩ : ∃ W4, W3.alloc (.cells #[.bool false] 4) = W4 := ⟨_, rfl⟩
  have g2 : Grew W1 W2 := by rw [← hW2]; exact grew_alloc (grew_refl _) _
  have g3 : Grew W2 W3 := by rw [← hW3]; exact grew_alloc (grew_refl _) _
  have g4 : Grew W3 W4 := by rw [← hW4]; exact grew_alloc (grew_refl _) _
  have o2 : W2.heap[W1.heap.size]? = some (.cells #[.slice none 0 0] 25 (0, 0)) := by rw [← hW2]; exact heap_alloc_new W1 _
  have o3 : W3.heap[W2.heap.size]? = some (.cells #[.slice none 0 0] 25 (0, 0)) := by rw [← hW3]; exact heap_alloc_new W2 _
  have o4 : W4.heap[W3.heap.size]? = some (.cells #[.bool false] 4 (0, 0)) := by rw [← hW4]; exact heap_alloc_new W3 _
  have g34 := grew_trans g3 g4
  have g24 := grew_trans g2 g34
  have g14 := grew_trans g1 g24
  have g04 := grew_trans g0 g14
  have A0 := (g14.cell (p := ⟨w.heap.size, 0, none⟩) hz).trans a0
  have A1 := (g14.cell (p := ⟨w.heap.size, 1, none⟩) hz).trans a1
  have B0 := (g24.cell (p := ⟨W0.heap.size, 0, none⟩) hz1).trans b0
  have B1 := (g24.cell (p := ⟨W0.heap.size, 1, none⟩) hz1).trans b1
  have HLG := hid (legs89_any gn (.slice va n vc) 0 82 #[] W4)
  clear a0 a1 b0 b1
  obtain ⟨i0, hi0, hi1, hi2, hi3⟩ := info_parts Try.info3
  refine (callsIn_wide (n := 9)).1 ?_
  refine callsIn_of_wp_marks Try.func60 rfl trivial ?_ rfl
  simp only [Try.ntmps60, List.size_toArray, List.length_cons, List.length_nil, Nat.reduceAdd, Nat.reduceSub, Array.replicate_succ, Array.replicate_zero, List.push_toArray, List.append_toArray, List.nil_append, List.cons_append]
  gi_wp2_with (refine ⟨trivial, ?_⟩; gi_at_call 89; refine (callsIn_wide.2 HLG.out).mono ?_; rintro e w1 ⟨c1, c2, c3, rfl, hx, x1, x2, x3, y1, y2, y3⟩)
  have hs1 := g1.size; have hs2 := g2.size; have hs3 := g3.size; have hs4 := g4.size; have hs0 := g0.size; have hsx := hx.size
  have g0x := grew_trans g04 hx
  have hp1 := lt_of_obj o2; have hp2 := lt_of_obj o3; have hp3 := lt_of_obj o4
  have O2 := hid (((grew_trans g34 hx).block _ hp1).trans o2)
  have O3 := hid (((grew_trans g4 hx).block _ hp2).trans o3)
  have O4 := hid ((hx.block _ hp3).trans o4)
  have HA0 := hid ((hx.cell (p := ⟨w.heap.size, 0, none⟩) (by show w.heap.size < W4.heap.size; omega)).trans A0)
  have HA1 := hid ((hx.cell (p := ⟨w.heap.size, 1, none⟩) (by show w.heap.size < W4.heap.size; omega)).trans A1)
  have HB0 := hid ((hx.cell (p := ⟨W0.heap.size, 0, none⟩) (by show W0.heap.size < W4.heap.size; omega)).trans B0)
  have HB1 := hid ((hx.cell (p := ⟨W0.heap.size, 1, none⟩) (by show W0.heap.size < W4.heap.size; omega)).trans B1)
  have hz1c := World.block_lt_of_cell? _ _ x1
  have hz2c := World.block_lt_of_cell? _ _ x2
  have hz3c := World.block_lt_of_cell? _ _ x3
  simp only at hz1c hz2c hz3c
  have HSEQ := hid (legs_stops g.ms (fun _ => true) 0 N HG.out.h8 HG.out.inN ⟨by omega, by have := HG.out.h1; omega⟩ HG.out.h20 c1 c2 c3 82 #[] (.slice va n vc) w1 8 (by decide) (fun k _ => w1.heap.size ≤ k) x1 x2 x3 (fun _ _ => by omega) (fun _ _ => by omega) (fun _ _ => by omega)
    ((HMV.out.off g0x).mono (fun k o h => by have := g0x.size; omega)) (fun _ _ => by kernel_rfl) (fun W hW m _ => by
      obtain ⟨f, caps, h4, h5, h6⟩ := any82 W
      cases h4
      exact h6 W (grew_refl W) m))
  have HZ := hid (And.intro (show w.heap.size < w1.heap.size by omega) (And.intro (show W0.heap.size < w1.heap.size by omega) (And.intro (show W1.heap.size < w1.heap.size by omega) (And.intro (show W2.heap.size < w1.heap.size by omega) (show W3.heap.size < w1.heap.size by omega)))))
  have HNE := hid (And.intro (show W1.heap.size ≠ W2.heap.size by omega) (And.intro (show W1.heap.size ≠ W3.heap.size by omega) (show W2.heap.size ≠ W3.heap.size by omega)))
  have HG0 := hid g0x
  have HZW := hid (show w.heap.size ≤ W1.heap.size ∧ w.heap.size ≤ W2.heap.size ∧ w.heap.size ≤ W3.heap.size by omega)
  clear o2 o3 o4 HLG A0 A1 B0 B1 hW0 hW1 hW2 hW3 hW4 x1 x2 x3 g0 g1 g2 g3 g4 g34 g24 g14 g04 g0x hx hs1 hs2 hs3 hs4 hs0 hsx hp1 hp2 hp3 hz hz1 y1 y2 y3
  refine wpIn_rangeFunc_sepH (P := Try.prog) rfl (by decide) (gf := 99) (fa := #[]) (lb := #[.pointer (some ⟨c1, 0, none⟩), .pointer (some ⟨c2, 0, none⟩), .pointer (some ⟨c3, 0, none⟩)]) rfl trivial (enters_of Try.func99 (by kernel_rfl) rfl) HSEQ.out (grew_refl w1) (fun _ _ h => h) (fun _ => rfl)
    (fun pre T W => Grew w1 W ∧ (∀ k, T k → w1.heap.size ≤ k) ∧ ∀ x ∈ pre, CleanAt g.ms p q x.1.1 n)
    (fun c pre W => c = .ret ∧ w1.heap.size ≤ W.heap.size ∧ ∃ u v path circ, Grew w W ∧ W.cell? ⟨W1.heap.size, 0, none⟩ = some u ∧ W.cell? ⟨W2.heap.size, 0, none⟩ = some v ∧ W.cell? ⟨W3.heap.size, 0, none⟩ = some (.bool true) ∧ IsLasso g.ms p q path circ ∧ path.length < 8 ∧ circ.length < 9 ∧ WdOff IntCells W u (pInts path) ∧ WdOff IntCells W v (pInts circ))
    ?hI ?hIx
    (fun pre T x a' W => (Grew w1 W ∧ (∀ k, T k → w1.heap.size ≤ k) ∧ ∀ x ∈ pre, CleanAt g.ms p q x.1.1 n) ∧ HasL w1.heap.size g.ms (fun _ => true) 0 pre x W ∧ ∃ Bx ad c, x.2 = .slice ad x.1.2.length c ∧ w1.heap.size + 2 ≤ Bx ∧ W.heap[Bx]? = some (.cells #[.int .i64 x.1.1, .slice ad x.1.2.length c] 104 (0, 0)) ∧
      a' = { tmps := #[.agg #[.func (.func f1) #[] k1, .func (.func f2) #[] k2], .agg #[.int .i64 gn, .slice va n vc], .pointer (some ⟨w.heap.size, 0, none⟩), .pointer (some ⟨W0.heap.size, 0, none⟩), .pointer (some ⟨W1.heap.size, 0, none⟩), .pointer (some ⟨W2.heap.size, 0, none⟩), .pointer (some ⟨W3.heap.size, 0, none⟩), .pointer (some ⟨Bx, 0, none⟩), undef, undef, undef, undef, .agg #[.int .i64 gn, .slice va n vc], .func (.func 99) #[] #[.pointer (some ⟨c1, 0, none⟩), .pointer (some ⟨c2, 0, none⟩), .pointer (some ⟨c3, 0, none⟩)], .agg #[.int .i64 x.1.1, .slice ad x.1.2.length c], undef, undef, undef, undef, undef, undef, undef, undef, undef, undef, undef, undef, undef, undef, undef, undef, undef, undef, undef, undef, undef, undef, undef, undef, undef, undef, undef, undef, undef, undef, undef, undef, undef, undef, undef, undef, undef, undef, undef, undef, undef, undef, undef, undef, undef, undef], defers := [] })
    ?hAx ⟨grew_refl _, fun k h => h.elim, fun x hx => by cases hx⟩ ?assign ?body ?done ?stop
  case hI =>
    rintro pre T W W' ⟨h1, h2, h3⟩ hk T' hT'
    refine ⟨h1.trans (hk.below h1.size (fun k o h => h.elim (h2 k) (fun h => h.1))), fun k h => ?_, h3⟩
    rcases hT' k h with h | h
    · exact h2 k h
    · have := h1.size; omega
  case hIx =>
    rintro c pre W W' ⟨rfl, hz, u, v, path, circ, h1, h2, h3, h4, h5, h6, h7, h8, h9⟩ hk
    have hb : Below w1.heap.size W W' := hk.below hz (fun k o h => h.1)
    obtain ⟨z0, z1, z2, z3, z4⟩ := HZ.out
    refine ⟨rfl, Nat.le_trans hz hk.size, u, v, path, circ, h1.trans (hb.mono (by omega)), (hb.cell (p := ⟨W1.heap.size, 0, none⟩) z2).trans h2, (hb.cell (p := ⟨W2.heap.size, 0, none⟩) z3).trans h3, (hb.cell (p := ⟨W3.heap.size, 0, none⟩) z4).trans h4, h5, h6, h7, h8.keeps hk (fun k o ⟨c, fr, ho⟩ ⟨_, hm⟩ => by rw [ho] at hm; cases hm), h9.keeps hk (fun k o ⟨c, fr, ho⟩ ⟨_, hm⟩ => by rw [ho] at hm; cases hm)⟩
  case hAx =>
    rintro pre T x a' W W' ⟨⟨h1, h2, h3⟩, hh, Bx, ad, c, hx, hB, hob, rfl⟩ hk
    refine ⟨⟨h1.trans (hk.below h1.size (fun k o h => h.1)), h2, h3⟩, hh.keeps hk (fun k c fr ⟨_, _, hm⟩ => by cases hm), Bx, ad, c, hx, hB, hk.obj _ _ hob (fun h => by omega), rfl⟩
  case assign =>
    rintro l pre T ⟨⟨xs, xw⟩, xv⟩ W K hi hh hT hlt hK
    obtain ⟨⟨va, vc, hv, _⟩, _⟩ := id hh.path
    simp only [pInts, List.length_map] at hv
    subst hv
    obtain ⟨W5, hW5, g5, q0, q1, hz5⟩ := box2 W (.int .i64 xs) (.slice va xw.length vc) 104
    dsimp only [encL]
    gi_wp2
    refine hK _ W5 g5.keeps ⟨⟨grew_trans hi.1 g5, hi.2⟩, hh.keeps (yd := fun _ _ => False) g5.keeps (fun _ _ _ h => h), W.heap.size, va, vc, rfl, by omega, by rw [← hW5]; exact heap_alloc_new W _, rfl⟩
  case body =>
    rintro l pre T ⟨⟨xs, xw⟩, xv⟩ a' W ⟨⟨i1, i2, i3⟩, hh, Bx, ad, c, hx, hB, hob, rfl⟩ hT hlt
    simp only [] at hx hob
    subst hx
    have HI1 := hid i1; have HI3 := hid i3; have HHAS := hid hh; have HOB := hid hob
    have b1 := (i1.cell (p := ⟨W0.heap.size, 1, none⟩) HZ.out.2.1).trans HB1.out
    clear i1 i3 hh hob
    obtain ⟨X, hX⟩ : ∃ X : World, X = W := ⟨_, rfl⟩
    have HXW := hid hX
    gi_wp2
    clear b1
    gi_loopg [8, 9, 10, 11, 18] n (fun gk _ _ _ _ oi wi => ∃ op : Nat, oi = .int .i64 (op : Int) ∧ op ≤ n ∧ Hid (gk = n - op) ∧ Hid (Grew X wi) ∧ Hid (CleanAt g.ms p q xs op))
    case atStart => exact ⟨0, rfl, Nat.zero_le _, hid rfl, hid (by rw [hX]; exact grew_refl _), hid (fun i m hi => by omega)⟩
    case round =>
      obtain ⟨op, rfl, hop, HGK, HGX, HCL⟩ := hrel
      rename World => wi
      have HGW := hid (show Grew w1 wi by have h := HGX.out; rw [HXW.out] at h; exact grew_trans HI1.out h)
      have HOBW := hid (show wi.heap[Bx]? = some (.cells #[.int .i64 xs, .slice ad xw.length c] 104 (0, 0)) by have h := HGX.out; rw [HXW.out] at h; exact (h.block _ (lt_of_obj HOB.out)).trans HOB.out)
      by_cases hopk : op < n
      · have hopi : (op : Int) < (n : Int) := by omega
        obtain ⟨x, hx⟩ : ∃ x, g.ms[op]? = some x := ⟨_, List.getElem?_eq_getElem (by rw [HN.out]; exact hopk)⟩
        obtain ⟨bb, boff, rfl, hpa⟩ := HMVS.out op x hx
        have hpa2 := hpa.grew hpa.lt (grew_trans HG0.out HGW.out)
        have p0 := hpa2.c0
        have p1 := hpa2.c1
        have p2 := hpa2.c2
        have p3 := hpa2.c3
        have hplt := hpa2.lt
        have hxN := HG.out.inN x (List.mem_of_getElem? hx)
        obtain ⟨Y1, hY1, e1, hb1⟩ := box4v wi x
        have HE1 := hid e1
        have HMA := hid hb1
        have l0 := hb1.c0
        have l1 := hb1.c1
        have l2 := hb1.c2
        have l3 := hb1.c3
        have hzl := hb1.lt
        have HGY := hid (grew_trans HG0.out (grew_trans HGW.out e1))
        have HFX := hid (HC1.out Y1 HGY.out x)
        have HFQ := hid (fun (W' : World) (h : Grew Y1 W') => HC2.out W' (grew_trans HGY.out h) x)
        have q0 : Y1.cell? ⟨Bx, 0, none⟩ = some (.int .i64 xs) := cell_of_row _ _ _ _ _ _ ((e1.block _ (lt_of_obj HOBW.out)).trans HOBW.out)
        have s0 := ((grew_trans HGW.out e1).cell (p := ⟨w.heap.size, 0, none⟩) HZ.out.1).trans HA0.out
        have s1 := ((grew_trans HGW.out e1).cell (p := ⟨w.heap.size, 1, none⟩) HZ.out.1).trans HA1.out
        have HS0 := hid s0; have HS1 := hid s1
        have hzs : w.heap.size < Y1.heap.size := Nat.lt_of_lt_of_le HZ.out.1 (grew_trans HGW.out e1).size
        obtain ⟨bp, hbp⟩ : ∃ b, p x = b := ⟨_, rfl⟩
        obtain ⟨bq, hbq⟩ : ∃ b, q x = b := ⟨_, rfl⟩
        rw [hbp] at HFX
        rw [hbq] at HFQ
        have HX := hid hx; have HBP := hid hbp; have HBQ := hid hbq
        have HXN := hid hxN
        obtain ⟨x1, x2, x3, x4⟩ := x
        simp only [Nat.zero_add, encM] at p0 p1 p2 p3 l0 l1 l2 l3 hY1 HFX HFQ
        clear hx hpa hpa2 hb1 hxN hbp hbq
        by_cases hfr : x1 = xs
        · subst hfr
          cases bp with
          | false =>
            gi_wp2
            refine ⟨trivial, (CallsIn.inRound l (callsIn_wide.2 HFX.out)).mono ?_⟩
            rintro e w5 ⟨rfl, hx5⟩
            have HX5 := hid (grew_trans HE1.out hx5)
            gi_wp2
            refine ⟨(fun _ h => by cases h), ?_⟩
            gi_wp2
            gi_roundg (n - (op + 1))
            case measure => have := HGK.out; omega
            case rel =>
              refine ⟨op + 1, by go_num, by omega, hid rfl, hid (grew_trans HGX.out HX5.out), hid (fun i m hi hm hf hp hq => ?_)⟩
              rcases Nat.lt_or_eq_of_le (Nat.le_of_lt_succ hi) with hi | rfl
              · exact HCL.out i m hi hm hf hp hq
              · rw [HX.out] at hm; cases hm
                rw [HBP.out] at hp; cases hp
          | true =>
            gi_wp2
            refine ⟨trivial, (CallsIn.inRound l (callsIn_wide.2 HFX.out)).mono ?_⟩
            rintro e w5 ⟨rfl, hx5⟩
            have HY5 := hid hx5
            have HX5 := hid (grew_trans HE1.out hx5)
            have m0 := (hx5.cell (p := ⟨wi.heap.size, 0, none⟩) hzl).trans l0
            have m1 := (hx5.cell (p := ⟨wi.heap.size, 1, none⟩) hzl).trans l1
            have m2 := (hx5.cell (p := ⟨wi.heap.size, 2, none⟩) hzl).trans l2
            have m3 := (hx5.cell (p := ⟨wi.heap.size, 3, none⟩) hzl).trans l3
            have hzl5 := Nat.lt_of_lt_of_le hzl hx5.size
            have t1 := (hx5.cell (p := ⟨w.heap.size, 1, none⟩) hzs).trans s1
            have HFQ5 := hid (HFQ.out w5 hx5)
            cases bq with
            | false =>
              gi_wp2
              refine ⟨trivial, (CallsIn.inRound l (callsIn_wide.2 HFQ5.out)).mono ?_⟩
              rintro e w6 ⟨rfl, hx6⟩
              have HX6 := hid (grew_trans HX5.out hx6)
              gi_wp2
              gi_roundg (n - (op + 1))
              case measure => have := HGK.out; omega
              case rel =>
                refine ⟨op + 1, by go_num, by omega, hid rfl, hid (grew_trans HGX.out HX6.out), hid (fun i m hi hm hf hp hq => ?_)⟩
                rcases Nat.lt_or_eq_of_le (Nat.le_of_lt_succ hi) with hi | rfl
                · exact HCL.out i m hi hm hf hp hq
                · rw [HX.out] at hm; cases hm
                  rw [HBQ.out] at hq; cases hq
            | true =>
              gi_wp2
              refine ⟨trivial, (CallsIn.inRound l (callsIn_wide.2 HFQ5.out)).mono ?_⟩
              rintro e w6 ⟨rfl, hx6⟩
              have HX6 := hid (grew_trans HX5.out hx6)
              have HY6 := hid (grew_trans HY5.out hx6)
              have n0 := (hx6.cell (p := ⟨wi.heap.size, 0, none⟩) hzl5).trans m0
              have n2 := (hx6.cell (p := ⟨wi.heap.size, 2, none⟩) hzl5).trans m2
              have u0 := (HY6.out.cell (p := ⟨w.heap.size, 0, none⟩) hzs).trans s0
              have HG16 := hid (grew_trans HGW.out HX6.out)
              have v0 := (HG16.out.cell (p := ⟨W0.heap.size, 0, none⟩) HZ.out.2.1).trans HB0.out
              have v1 := (HG16.out.cell (p := ⟨W0.heap.size, 1, none⟩) HZ.out.2.1).trans HB1.out
              have hwy := way81_any g N HG.out (.agg #[.int .i64 gn, .slice (some ⟨bb, boff, none⟩) n vc]) p (.func (.func f1) #[] k1) x3 x1 HXN.out.2 w6 (HIG.out.grew (grew_trans HG0.out HG16.out)) (HF1.out.grew (grew_trans HG0.out HG16.out))
              have HWY := hid hwy
              clear hwy
              gi_wp2_with (refine ⟨trivial, ?_⟩; gi_at_call 81; refine (CallsIn.inRound l (callsIn_wide.2 HWY.out)).mono ?_; rintro e w7 ⟨u, r, rfl, hx7, hway⟩; have HWAY := hid hway; have HX7 := hid hx7; clear hway hx7)
              all_goals (rename Bool => r; rename r = _ => hr; subst hr)
              · rcases HWAY.out with ⟨_, lw, hlw, hll, hlwd⟩ | ⟨h, _⟩
                · obtain ⟨⟨ua, uc, hue, _⟩, _⟩ := id hlwd
                  simp only [pInts, List.length_map] at hue
                  subst hue
                  have HLW := hid hlw; have HWD := hid hlwd; have hlw' := hlw
                  have HG17 := hid (grew_trans HG16.out HX7.out)
                  have ob7 := ((grew_trans HE1.out (grew_trans HY6.out HX7.out)).block _ (lt_of_obj HOBW.out)).trans HOBW.out
                  have d1 : w7.cell? ⟨Bx, 1, none⟩ = some (.slice ad xw.length c) := cell_of_row _ _ _ _ _ _ ob7
                  have OB2 := hid ((HG17.out.block _ HZ.out.2.2.1).trans O2.out)
                  have OB3 := hid ((HG17.out.block _ HZ.out.2.2.2.1).trans O3.out)
                  have OB4 := hid ((HG17.out.block _ HZ.out.2.2.2.2).trans O4.out)
                  have ld := lt_of_obj ob7
                  clear hlw hlwd l0 l1 l2 l3 p0 p1 p2 p3 m0 m1 m2 m3 n0 n2 u0 v0 v1 t1 s0 s1 q0 ob7
                  have hmx : Try.prog.follows .mixedOrders = true := by kernel_rfl
                  try simp only [Act.put]
                  refine wpIn_region_gate (fun w' => w'.cell? ⟨Bx, 1, none⟩ = some (.slice ad xw.length c)) 6 hmx ?_
                  have hS0 : w7.drew.cell? ⟨Bx, 1, none⟩ = some (.slice ad xw.length c) := d1
                  refine wpAnyG_take (i := 0) [] rfl (by kernel_rfl) (by kernel_rfl) (by kernel_rfl) (by kernel_rfl) (by kernel_rfl) (by kernel_rfl) (fun _ _ _ h => h) (fun _ => rfl) (v := .pointer (some ⟨Bx, 1, none⟩)) (fun w' h => ?_) (fun _ => rfl) (by assumption) ?_
                  · (go_simp)
                  simp only [Act.put, List.setIfInBounds_toArray, List.set_cons_zero, List.set_cons_succ]
                  refine wpAnyG_take (i := 1) [] rfl (by kernel_rfl) (by kernel_rfl) (by kernel_rfl) (by kernel_rfl) (by kernel_rfl) (by kernel_rfl) (fun _ _ _ h => h) (fun _ => rfl) (v := .slice ad xw.length c) (fun w' h => ?_) (fun _ => rfl) (by assumption) ?_
                  · (have h1 : w'.cell? ⟨Bx, 1, none⟩ = some (.slice ad xw.length c) := h; go_simp)
                  simp only [Act.put, List.setIfInBounds_toArray, List.set_cons_zero, List.set_cons_succ]
                  refine wpAnyG_take (i := 2) [5, 3] rfl (by kernel_rfl) (by kernel_rfl) (by kernel_rfl) (by kernel_rfl) (by kernel_rfl) (by kernel_rfl) (fun _ _ _ h => h) (fun _ => rfl) (v := .int .i64 (op : Int)) (fun w' h => ?_) (fun _ => rfl) (by assumption) ?_
                  · (go_simp)
                  simp only [Act.put, List.setIfInBounds_toArray, List.set_cons_zero, List.set_cons_succ]
                  refine wpAnyG_take (i := 4) [5] rfl (by kernel_rfl) (by kernel_rfl) (by kernel_rfl) (by kernel_rfl) (by kernel_rfl) (by kernel_rfl) (fun _ _ _ h => h) (fun _ => rfl) (v := .slice ua lw.length uc) (fun w' h => ?_) (fun _ => rfl) (by assumption) ?_
                  · (go_simp)
                  simp only [Act.put, List.setIfInBounds_toArray, List.set_cons_zero, List.set_cons_succ]
                  refine wpAnyG_one (i := 3) rfl (by kernel_rfl) ?_
                  gi_wp2
                  have HGA := hid (grew_alloc (grew_drew (grew_refl w7)) (.cells #[.int .i64 (op : Int)] 3))
                  have HSL := hid (Seg.lit w7.drew w7.heap.size 3 1 #[.int .i64 (op : Int)] (Nat.le_refl _) rfl)
                  have hsrc := src_ints (HWD.out.grew HGA.out).wd.ints
                  rw [show (pInts lw).length = lw.length by simp [pInts]] at hsrc
                  have HSRC := hid hsrc
                  clear hsrc
                  first | refine ⟨fun _ => (HGA.out.cell (p := ⟨Bx, 1, none⟩) ld).trans d1, ?_⟩ | refine ⟨(HGA.out.cell (p := ⟨Bx, 1, none⟩) ld).trans d1, ?_⟩ | skip
                  refine wpAnyG_one (i := 5) rfl (by kernel_rfl) ?_
                  gi_wp2_with (gi_at_builtin; go_loud (refine wpListIn_append_seg rfl _ _ 25 25 rfl w7.heap.size 3 i0 (.int .i64 0) 1 8 Try.underlying25 hi0 hi1 hi2 hi3 rfl _ 1 _ rfl HSL.out _ rfl lw.length _ HSRC.out (by unfold maxLen; omega) (by omega) ?_ ?_); go_loud (exact HGA.out.size); intro v9 w9 hown9 hgrow9 hblk9; have hg9 : Grew w7 w9 := HGA.out.grown hgrow9 HGA.out.size (fun k e => (HSL.out.own k e).1); have HG9 := hid hg9; have HS9 := hid hown9; go_loud (have ob9 := (hg9.block _ (lt_of_obj OB2.out)).trans OB2.out; have c92 : w9.cell? ⟨W1.heap.size, 0, none⟩ = some (.slice none 0 0) := cell_of_row _ _ _ _ _ _ ob9; have f92 := frozen_obj ob9 0; have ob93 := (hg9.block _ (lt_of_obj OB3.out)).trans OB3.out; have c93 : w9.cell? ⟨W2.heap.size, 0, none⟩ = some (.slice none 0 0) := cell_of_row _ _ _ _ _ _ ob93; have f93 := frozen_obj ob93 0; have ob94 := (hg9.block _ (lt_of_obj OB4.out)).trans OB4.out; have c94 : w9.cell? ⟨W3.heap.size, 0, none⟩ = some (.bool false) := cell_of_row _ _ _ _ _ _ ob94; have f94 := frozen_obj ob94 0; obtain ⟨a9, cc9, rfl, _⟩ := hown9.shape; clear hown9 hgrow9 hblk9 hg9 ob9 ob93 ob94))
                  first | refine ⟨fun _ => (HG9.out.cell (p := ⟨Bx, 1, none⟩) ld).trans d1, ?_⟩ | refine ⟨(HG9.out.cell (p := ⟨Bx, 1, none⟩) ld).trans d1, ?_⟩ | skip
                  have hneA := HNE.out.1
                  have hneB := HNE.out.2.1
                  have hneC := HNE.out.2.2
                  have n93 : (w9.setCell ⟨W1.heap.size, 0, none⟩ (.slice ad xw.length c)).cell? ⟨W2.heap.size, 0, none⟩ = some (.slice none 0 0) := by
                    rw [World.cell?_setCell_other _ _ _ _ (fun e => hneA (congrArg Addr.block e))]; exact c93
                  have n94 : ((w9.setCell ⟨W1.heap.size, 0, none⟩ (.slice ad xw.length c)).setCell ⟨W2.heap.size, 0, none⟩ (.slice a9 (1 + lw.length) cc9)).cell? ⟨W3.heap.size, 0, none⟩ = some (.bool false) := by
                    rw [World.cell?_setCell_other _ _ _ _ (fun e => hneC (congrArg Addr.block e)), World.cell?_setCell_other _ _ _ _ (fun e => hneB (congrArg Addr.block e))]; exact c94
                  refine wpAnyG_one (i := 6) rfl (by kernel_rfl) ?_
                  gi_wp2
                  first | refine ⟨gate_done (by kernel_rfl), ?_⟩ | skip
                  refine wpAnyG_one (i := 7) rfl (by kernel_rfl) ?_
                  gi_wp2
                  first | refine ⟨gate_done (by kernel_rfl), ?_⟩ | skip
                  refine wpAnyG_one (i := 8) rfl (by kernel_rfl) ?_
                  gi_wp2
                  first | refine ⟨gate_done (by kernel_rfl), ?_⟩ | skip
                  refine wpAnyG_done (by kernel_rfl) ?_ _
                  simp only [NoP]
                  gi_wp2
                  obtain ⟨hk, t1, t2, t3⟩ := three_stores OB2.out OB3.out OB4.out (HG9.out) hneA hneB hneC (.slice ad xw.length c) (.slice a9 (1 + lw.length) cc9) (.bool true)
                  have hXW := HGX.out
                  rw [HXW.out] at hXW
                  have hg69 := grew_trans HX6.out (grew_trans HX7.out HG9.out)
                  have hgW := grew_trans hXW hg69
                  have hg1 := grew_trans HGW.out hg69
                  have hsz := hk.size
                  have hcirc : Seg w9 w7.heap.size 3 1 (.slice a9 (1 + lw.length) cc9) (1 + lw.length) ((pInts (op :: lw)).map (.int .i64)) := by
                    have h := HS9.out
                    simpa [pInts] using h
                  obtain ⟨z0, z1, z2, z3, z4⟩ := HZ.out
                  obtain ⟨y0, y1, y2⟩ := HZW.out
                  refine ⟨hgW.keeps.trans (hk.mono (fun k o h => .inr (by obtain ⟨_, c, e, fr, rfl, _⟩ := h; rfl))), rfl, by have := hg1.size; omega, _, _, xw, op :: lw, ?_, t1, t2, t3, lasso_of HHAS.out.way.leads HX.out rfl HBP.out HBQ.out hlw'.leads, HHAS.out.short, by simp; omega, ?_, ?_⟩
                  · refine (grew_trans HG0.out hg1).trans (hk.below (by have := HG0.out.size; have := hg1.size; omega) (fun k o h => ?_))
                    rcases h.1 with h | h | h <;> rw [h] <;> assumption
                  · exact ((HHAS.out.path.re (fun k o _ h => h.1)).grew hgW).keeps hk (fun k o ⟨c, fr, ho⟩ ⟨_, c', e, fr', ho2, he⟩ => by rw [ho] at ho2; cases ho2; exact he rfl)
                  · exact ((wdOff_of_seg hcirc).re (fun k o _ h => h.1)).keeps hk (fun k o ⟨c, fr, ho⟩ ⟨_, c', e, fr', ho2, he⟩ => by rw [ho] at ho2; cases ho2; exact he rfl)
                · cases h
              · gi_wp2
                gi_roundg (n - (op + 1))
                case measure => have := HGK.out; omega
                case rel =>
                  refine ⟨op + 1, by go_num, by omega, hid rfl, hid (grew_trans HGX.out (grew_trans HX6.out HX7.out)), hid (fun i m hi hm hf hp hq => ?_)⟩
                  rcases Nat.lt_or_eq_of_le (Nat.le_of_lt_succ hi) with hi | rfl
                  · exact HCL.out i m hi hm hf hp hq
                  · rw [HX.out] at hm; cases hm
                    rcases HWAY.out with ⟨h, _⟩ | ⟨_, _, h⟩
                    · cases h
                    · exact h
        · have HFR := hid hfr
          have hfr1 : (x1 != xs) = true := by simpa using hfr
          clear hfr
          gi_wp2
          refine ⟨(fun _ h => by cases h), ?_⟩
          gi_wp2
          gi_roundg (n - (op + 1))
          case measure => have := HGK.out; omega
          case rel =>
            refine ⟨op + 1, by go_num, by omega, hid rfl, hid (grew_trans HGX.out HE1.out), hid (fun i m hi hm hf hp hq => ?_)⟩
            rcases Nat.lt_or_eq_of_le (Nat.le_of_lt_succ hi) with hi | rfl
            · exact HCL.out i m hi hm hf hp hq
            · rw [HX.out] at hm; cases hm
              exact absurd hf HFR.out
      · obtain rfl : op = n := by omega
        gi_wp2
        have h := HGX.out
        rw [HXW.out] at h
        refine ⟨h.keeps, grew_trans HI1.out h, i2, fun y hy => ?_⟩
        rcases List.mem_append.1 hy with hy | hy
        · exact HI3.out y hy
        · simp only [List.mem_singleton] at hy; subst hy; exact HCL.out
  case done =>
    rintro D xs T W hD hS ⟨i1, i2, i3⟩ hK
    have o4 := (i1.block _ HZ.out.2.2.1).trans O2.out
    have o5 := (i1.block _ HZ.out.2.2.2.1).trans O3.out
    have o6 := (i1.block _ HZ.out.2.2.2.2).trans O4.out
    have c4 : W.cell? ⟨W1.heap.size, 0, none⟩ = some (.slice none 0 0) := cell_of_row _ _ _ _ _ _ o4
    have c5 : W.cell? ⟨W2.heap.size, 0, none⟩ = some (.slice none 0 0) := cell_of_row _ _ _ _ _ _ o5
    have c6 : W.cell? ⟨W3.heap.size, 0, none⟩ = some (.bool false) := cell_of_row _ _ _ _ _ _ o6
    have f4 := frozen_obj o4 0
    have f5 := frozen_obj o5 0
    have f6 := frozen_obj o6 0
    have HO4 := hid o4; have HO5 := hid o5; have HO6 := hid o6; clear o4 o5 o6
    have hneA := HNE.out.1
    have hneB := HNE.out.2.1
    have hneC := HNE.out.2.2
    have n93 : (W.setCell ⟨W1.heap.size, 0, none⟩ (.slice none 0 0)).cell? ⟨W2.heap.size, 0, none⟩ = some (.slice none 0 0) := by
      rw [World.cell?_setCell_other _ _ _ _ (fun e => hneA (congrArg Addr.block e))]; exact c5
    have n94 : ((W.setCell ⟨W1.heap.size, 0, none⟩ (.slice none 0 0)).setCell ⟨W2.heap.size, 0, none⟩ (.slice none 0 0)).cell? ⟨W3.heap.size, 0, none⟩ = some (.bool false) := by
      rw [World.cell?_setCell_other _ _ _ _ (fun e => hneC (congrArg Addr.block e)), World.cell?_setCell_other _ _ _ _ (fun e => hneB (congrArg Addr.block e))]; exact c6
    gi_wp2
    obtain ⟨hk, t1, t2, t3⟩ := three_stores HO4.out HO5.out HO6.out (grew_refl W) hneA hneB hneC (.slice none 0 0) (.slice none 0 0) (.bool false)
    obtain ⟨z0, z1, z2, z3, z4⟩ := HZ.out
    obtain ⟨y0, y1, y2⟩ := HZW.out
    have hK6 := hk.obj _ _ hK (fun ⟨_, _, _, _, h, _⟩ => by cases h)
    refine ⟨by simp, .inl ⟨_, _, rfl, run_takeDeferred hK6, ?_⟩⟩
    have hkp := keeps_putObj (may := fun k _ => w1.heap.size ≤ k) _ (.deferred none) hK6 hD
    have hsz := hk.size
    have hb := hkp.below (B := w1.heap.size) (by have := i1.size; omega) (fun k o h => h)
    have d1 := (hb.cell (p := ⟨W1.heap.size, 0, none⟩) z2).trans t1
    have d2 := (hb.cell (p := ⟨W2.heap.size, 0, none⟩) z3).trans t2
    have d3 := (hb.cell (p := ⟨W3.heap.size, 0, none⟩) z4).trans t3
    refine ⟨.tuple #[.slice none 0 0, .slice none 0 0, .bool false], results_three rfl rfl rfl rfl d1 d2 d3, _, _, _, rfl, ?_, .inr ⟨rfl, rfl, rfl, ?_⟩⟩
    · refine ((grew_trans HG0.out i1).trans (hk.below (by have := HG0.out.size; have := i1.size; omega) (fun k o h => ?_))).trans (hb.mono (by omega))
      rcases h.1 with h | h | h <;> rw [h] <;> assumption
    · refine no_lasso_clean (fun x ⟨u, hu⟩ => ?_)
      obtain ⟨y, hy, hya⟩ := List.mem_map.1 (hS.all u x hu)
      rw [HN.out, ← hya]
      exact i3 y hy
  case stop =>
    rintro D c pre W hD ⟨rfl, hz, u, v, path, circ, h1, h2, h3, h4, h5, h6, h7, h8, h9⟩ hK
    gi_wp2
    refine ⟨by simp, .inl ⟨_, _, rfl, run_takeDeferred hK, ?_⟩⟩
    have hkp := keeps_putObj (may := fun k o => w1.heap.size ≤ k ∧ o.isCells = false) _ (.deferred none) hK ⟨hD, rfl⟩
    have hb := hkp.below (B := w1.heap.size) hz (fun k o h => h.1)
    obtain ⟨z0, z1, z2, z3, z4⟩ := HZ.out
    have d1 := (hb.cell (p := ⟨W1.heap.size, 0, none⟩) z2).trans h2
    have d2 := (hb.cell (p := ⟨W2.heap.size, 0, none⟩) z3).trans h3
    have d3 := (hb.cell (p := ⟨W3.heap.size, 0, none⟩) z4).trans h4
    refine ⟨.tuple #[u, v, .bool true], results_three rfl rfl rfl rfl d1 d2 d3, _, _, _, rfl, h1.trans (hb.mono (by omega)), .inl ⟨rfl, path, circ, h5, h6, h7, ?_, ?_⟩⟩
    · exact (h8.keeps hkp (fun k o ⟨c, fr, ho⟩ ⟨_, hm⟩ => by rw [ho] at hm; cases hm)).wd
    · exact (h9.keeps hkp (fun k o ⟨c, fr, ho⟩ ⟨_, hm⟩ => by rw [ho] at hm; cases hm)).wd
end Go.Proofs.Ytojkohpniokaaaa
