/- Walk: first, of the program. -/
import Derived.Test.YtddnpooffcjhnaaWvIter
import Derived.Test.YtddnpooffcjhnaaInLaws
namespace Go.Lin
open Go Go.RowKit
variable {F : Fence} {n : Nat} {P : Program}

def markOf (D : Nat) : Deferred := { target := .collected D, args := #[] }

/-- A function leaves with marks among its deferred calls. -/
theorem leaves_marks {fn : Func} {tmps : Array Value} {R : Ending → World → Prop} (base : Nat) : ∀ (Ds : List Nat) (W : World), (∀ D ∈ Ds, base ≤ D ∧ W.heap[D]? = some (.deferred (some []))) → Ds.Nodup →
    (∀ W', Keeps (fun k o => base ≤ k ∧ o.isCells = false) W W' → ∃ v, (results fn tmps).run P W' = .ok v W' ∧ R (.returned v) W') → LeavesInM F n P fn tmps R (Ds.map markOf) .returning W
  | [], W, _, _, h => h W (Keeps.refl _ W)
  | D :: Ds, W, hD, hn, h => by
    obtain ⟨hb, ho⟩ := hD D (by simp)
    have hkp := keeps_putObj (may := fun k o => base ≤ k ∧ o.isCells = false) W (.deferred none) ho ⟨hb, rfl⟩
    refine ⟨by simp, .inl ⟨D, _, rfl, run_takeDeferred ho, leaves_marks base Ds _ (fun D' hD' => ?_) (List.nodup_cons.1 hn).2 (fun W' hk => h W' (hkp.trans hk))⟩⟩
    obtain ⟨hb', ho'⟩ := hD D' (by simp [hD'])
    have hne : D' ≠ D := fun e => (List.nodup_cons.1 hn).1 (e ▸ hD')
    exact ⟨hb', (World.putObj_heap_other hne).trans ho'⟩

end Go.Lin
namespace Go.Proofs.Ytddnpooffcjhnaa
open Go Go.RowKit Go.Lin Go.Lin.Wv Go.Maps
attribute [local go_sem] Oper.semAt_some

theorem frozen_obj {w : World} {k : Nat} {c : Array Value} {t : TypeId} (h : w.heap[k]? = some (.cells c t (0, 0))) (j : Nat) : w.frozen? ⟨k, j, none⟩ = false := by
  unfold World.frozen?
  simp only [h]
  simp

/-- The state of first: the cells of w and out, what is read there; the marks. -/
structure FSt (w0 : World) (cw co : Nat) (Ds : List Nat) (lv ov : Value) (y outs : List Int) (W : World) : Prop where
  below : Below w0.heap.size w0 W
  bw : W.heap[cw]? = some (.cells #[lv] 25 (0, 0))
  bo : W.heap[co]? = some (.cells #[ov] 25 (0, 0))
  seg : Seg W w0.heap.size 3 1 ov outs.length (outs.map (.int .i64))
  word : WdOff (fun k o => (w0.heap.size ≤ k → IntCells k o) ∧ ov.ownBlock ≠ some k) W lv y
  marks : ∀ D ∈ Ds, w0.heap.size ≤ D ∧ W.heap[D]? = some (.deferred (some []))
  nodup : Ds.Nodup

theorem FSt.grew {w0 : World} {cw co : Nat} {Ds : List Nat} {lv ov : Value} {y outs : List Int} {W W' : World} (h : FSt w0 cw co Ds lv ov y outs W) (hg : Grew W W') : FSt w0 cw co Ds lv ov y outs W' :=
  ⟨h.below.trans (hg.mono h.below.size), (hg.block _ (lt_of_obj h.bw)).trans h.bw, (hg.block _ (lt_of_obj h.bo)).trans h.bo, h.seg.grew hg, h.word.grew hg, fun D hD => ⟨(h.marks D hD).1, (hg.block _ (lt_of_obj (h.marks D hD).2)).trans (h.marks D hD).2⟩, h.nodup⟩

theorem WdOff.len {S : Nat → Obj → Prop} {w : World} {a : Option Addr} {c n : Nat} {xs : List Int} (h : WdOff S w (.slice a xs.length c) xs) (hn : xs.length = n) : WdOff S w (.slice a n c) xs := by subst hn; exact h

/-- Records of loops may turn. -/
theorem FSt.calls {w0 : World} {cw co : Nat} {Ds : List Nat} {lv ov : Value} {y outs : List Int} {W W' : World} {b : Nat} (h : FSt w0 cw co Ds lv ov y outs W) (hb : w0.heap.size ≤ b) (hk : Keeps (fun k o => b ≤ k ∧ o.isCells = false) W W') (hD : ∀ D ∈ Ds, D < b) : FSt w0 cw co Ds lv ov y outs W' :=
  ⟨h.below.trans (hk.below h.below.size (fun k o hm => by omega)), hk.obj _ _ h.bw (fun hm => by cases hm.2), hk.obj _ _ h.bo (fun hm => by cases hm.2), h.seg.keeps hk (fun k o _ ⟨cur, ho⟩ hm => by rw [ho] at hm; cases hm.2),
    h.word.keeps hk (fun k o ho hm => by obtain ⟨c, fr, ho2⟩ := ho.1 (by omega); rw [ho2] at hm; cases hm.2), fun D hm => ⟨(h.marks D hm).1, hk.obj _ _ (h.marks D hm).2 (fun hn => by have := hD D hm; omega)⟩, h.nodup⟩

theorem keeps_setCell {may : Nat → Obj → Prop} (W : World) (b : Nat) (v : Value) (hm : ∀ o, W.heap[b]? = some o → may b o) : Keeps may W (W.setCell ⟨b, 0, none⟩ v) :=
  (Keeps.refl may W).grown (grownBy_setCell' W b v) (fun k o e ho => by cases e; exact hm _ ho)

/-- A letter is taken: out is longer, w is what is left. -/
theorem FSt.step {w0 : World} {cw co : Nat} {Ds : List Nat} {lv ov : Value} {y outs : List Int} {W : World} (h : FSt w0 cw co Ds lv ov y outs W) (hne : cw ≠ co) (hcw : w0.heap.size ≤ cw) (hco : w0.heap.size ≤ co) {w4 : World} {v4 xv : Value} {a : Int} {y' : List Int} {n₀ : Nat}
    (hown : Seg w4 w0.heap.size 3 1 v4 (outs.length + 1) ((outs ++ [a]).map (.int .i64))) (hk4 : Keeps (fun k o => ov.ownBlock = some k ∧ ∃ cur, o = .cells cur 3 (0, 0)) W w4) (hblk : ∀ k, v4.ownBlock = some k → ov.ownBlock = some k ∨ W.heap.size ≤ k)
    (hleft : WdOff (fun k o => IntCells k o ∧ n₀ ≤ k) W xv y') (hn₀ : ∀ k, ov.ownBlock = some k → k < n₀) :
    FSt w0 cw co Ds xv v4 y' (outs ++ [a]) ((w4.setCell ⟨co, 0, none⟩ v4).setCell ⟨cw, 0, none⟩ xv) ∧
      Keeps (fun k o => o.isCells = true ∧ w0.heap.size ≤ k ∧ (ov.ownBlock = some k ∨ k = cw ∨ k = co)) W ((w4.setCell ⟨co, 0, none⟩ v4).setCell ⟨cw, 0, none⟩ xv) := by
  have o1 : w4.heap[co]? = some (.cells #[ov] 25 (0, 0)) := hk4.obj _ _ h.bo (fun ⟨_, cur, e⟩ => by cases e)
  have o2 : w4.heap[cw]? = some (.cells #[lv] 25 (0, 0)) := hk4.obj _ _ h.bw (fun ⟨_, cur, e⟩ => by cases e)
  have o3 : (w4.setCell ⟨co, 0, none⟩ v4).heap[co]? = some (.cells #[v4] 25 (0, 0)) := by rw [heap_setCell_same _ _ _ _ _ _ o1]; rfl
  have o4 : (w4.setCell ⟨co, 0, none⟩ v4).heap[cw]? = some (.cells #[lv] 25 (0, 0)) := by rw [heap_setCell_other _ _ _ _ hne]; exact o2
  have k1 : Keeps (fun k o => (k = cw ∨ k = co) ∧ ∃ c, o = .cells c 25 (0, 0)) w4 (w4.setCell ⟨co, 0, none⟩ v4) := keeps_setCell _ _ _ (fun o ho => by rw [o1] at ho; cases ho; exact ⟨.inr rfl, _, rfl⟩)
  have k2 : Keeps (fun k o => (k = cw ∨ k = co) ∧ ∃ c, o = .cells c 25 (0, 0)) (w4.setCell ⟨co, 0, none⟩ v4) ((w4.setCell ⟨co, 0, none⟩ v4).setCell ⟨cw, 0, none⟩ xv) := keeps_setCell _ _ _ (fun o ho => by rw [o4] at ho; cases ho; exact ⟨.inl rfl, _, rfl⟩)
  have k12 := k1.trans k2
  have hown' := fun k hk => (h.seg.own k hk).1
  have hall : Keeps (fun k o => o.isCells = true ∧ w0.heap.size ≤ k ∧ (ov.ownBlock = some k ∨ k = cw ∨ k = co)) W ((w4.setCell ⟨co, 0, none⟩ v4).setCell ⟨cw, 0, none⟩ xv) :=
    (hk4.mono (fun k o hm => ⟨by obtain ⟨_, cur, rfl⟩ := hm; rfl, hown' k hm.1, .inl hm.1⟩)).trans (k12.mono (fun k o hm => ⟨by obtain ⟨_, c, rfl⟩ := hm; rfl, by rcases hm.1 with rfl | rfl <;> assumption, .inr hm.1⟩))
  refine ⟨⟨h.below.trans (hall.below h.below.size (fun k o hm => hm.2.1)), ?_, ?_, ?_, ?_, fun D hD => ⟨(h.marks D hD).1, hall.obj _ _ (h.marks D hD).2 (fun hm => by cases hm.1)⟩, h.nodup⟩, hall⟩
  · rw [heap_setCell_same _ _ _ _ _ _ o4]; rfl
  · rw [heap_setCell_other _ _ _ _ (Ne.symm hne)]; exact o3
  · rw [show (outs ++ [a]).length = outs.length + 1 by simp]
    exact hown.keeps k12 (fun k o _ ⟨cur, ho⟩ ⟨_, c, e⟩ => by rw [ho] at e; cases e)
  · refine WdOff.re (S := fun k o => (IntCells k o ∧ n₀ ≤ k) ∧ k < W.heap.size) ?_ (fun k o _ hk => ⟨fun _ => hk.1.1, fun e => ?_⟩)
    · refine WdOff.keeps ?_ k12 (fun k o hk hm => by obtain ⟨⟨⟨c, fr, ho⟩, _⟩, _⟩ := hk; obtain ⟨_, c', e⟩ := hm; rw [ho] at e; cases e)
      refine WdOff.keeps ?_ hk4 (fun k o hk hm => by have := hn₀ k hm.1; have := hk.1.2; omega)
      exact hleft.re (fun k o ho hk => ⟨hk, lt_of_obj ho⟩)
    · rcases hblk k e with h2 | h2
      · have := hn₀ k h2; have := hk.1.2; omega
      · have := hk.2; omega

set_option maxHeartbeats 8000000 in
set_option maxRecDepth 100000 in
theorem first_any (D : Int → Int → Bool) (B N : Nat) (xs : List Int) (wv : Value) (w : World) (hN : N ≤ 6) (hw : ∀ z ∈ xs, 0 ≤ z ∧ z < (N : Int)) (hlen : xs.length ≤ 100) (hL : Loom w B D N) (hx : IsWd w wv xs) :
    Calls Try.prog 67 #[.pointer (some ⟨B, 0, none⟩), wv] w fun e w' => ∃ u, e = .returned u ∧ Seg w' w.heap.size 3 1 u (first D N xs).length ((first D N xs).map (.int .i64)) ∧ Grew w w' := by
  obtain ⟨F, hF⟩ : ∃ F, first D N xs = F := ⟨_, rfl⟩
  rw [hF]
  obtain ⟨xa, xc, rfl, hxc, hxi⟩ := hx
  have HW := hid hw; have HL := hid hL
  have HF := hid (show F = [] ++ firstN D N xs.length xs from by rw [← hF]; rfl)
  obtain ⟨W0, hW0, g0, k0, hz⟩ := box1 w (.slice xa xs.length xc) 25
  obtain ⟨W1, hW1, g1, k1, hz1⟩ := box1 W0 (.slice none 0 0) 25
  have ow : W1.heap[w.heap.size]? = some (.cells #[.slice xa xs.length xc] 25 (0, 0)) := (g1.block _ hz).trans (by rw [← hW0]; exact heap_alloc_new w _)
  have oo : W1.heap[W0.heap.size]? = some (.cells #[.slice none 0 0] 25 (0, 0)) := by rw [← hW1]; exact heap_alloc_new W0 _
  have g01 := grew_trans g0 g1
  have hcc : w.heap.size ≠ W0.heap.size := by omega
  have hst : FSt w w.heap.size W0.heap.size [] (.slice xa xs.length xc) (.slice none 0 0) xs [] W1 := by
    refine ⟨g01, ow, oo, Seg.nil _ _ _ _, ?_, fun D h => (by cases h), List.nodup_nil⟩
    refine WdOff.re (S := fun k _ => k < w.heap.size) ?_ (fun k o _ hk => ⟨fun h => by omega, by simp [Value.ownBlock]⟩)
    refine WdOff.grew ?_ g01
    refine ⟨⟨xa, xc, rfl, hxc⟩, ?_⟩
    obtain ⟨a, c, h1, h2, h3⟩ := hxi
    exact ⟨a, c, h1, h2, fun i hi => by
      obtain ⟨b, off, o, e1, e2, _, e4⟩ := h3 i hi
      exact ⟨b, off, o, e1, e2, lt_of_obj e2, e4⟩⟩
  have HST := hid hst
  have HG01 := hid g01
  have hw0 : w.heap.size < W1.heap.size := by omega
  have hw1 : W0.heap.size < W1.heap.size := hz1
  have hww : w.heap.size ≤ W0.heap.size := g0.size
  obtain ⟨cw, hcw⟩ : ∃ c, w.heap.size = c := ⟨_, rfl⟩
  obtain ⟨co, hco⟩ : ∃ c, W0.heap.size = c := ⟨_, rfl⟩
  obtain ⟨m, hm⟩ : ∃ m, xs.length = m := ⟨_, rfl⟩
  have HM := hid hm
  rw [hm] at hW0 hlen ⊢
  clear hst ow oo k0 k1 hF hw hL hxi hm hxc
  refine (callsIn_wide (n := 9)).1 ?_
  refine callsIn_of_wp_marks Try.func67 rfl trivial ?_ rfl
  simp only [Try.ntmps67, List.size_toArray, List.length_cons, List.length_nil, Nat.reduceAdd, Nat.reduceSub, Array.replicate_succ, Array.replicate_zero, List.push_toArray, List.append_toArray, List.nil_append, List.cons_append]
  gi_wp2
  have HCW := hid hcw
  rw [hcw] at hcc hw0 hww
  rw [hco] at hcc hw1 hww
  have hst := HST.out
  rw [hcw, hco] at hst
  have HST := hid hst
  clear hst hcw hco hW0 hW1 g0 g1 hz hz1 g01
  refine wpIn_loop_ghost_k (fun k a' w' => ∃ u8 u9 u10 u11 u12 u13 : Value, ∃ (Ds : List Nat) (lv ov : Value) (y outs : List Int), (k = y.length ∧ y.length ≤ 100 ∧ Hid (∀ z ∈ y, 0 ≤ z ∧ z < (N : Int)) ∧ Hid (F = outs ++ firstN D N y.length y) ∧ outs.length + y.length = m ∧ Hid (FSt w cw co Ds lv ov y outs w') ∧ W1.heap.size ≤ w'.heap.size) ∧
    a' = { tmps := #[.pointer (some ⟨B, 0, none⟩), .slice xa m xc, undef, .pointer (some ⟨cw, 0, none⟩), .slice none 0 0, .pointer (some ⟨co, 0, none⟩), undef, undef, u8, u9, u10, u11, u12, u13, undef, undef, undef, undef, undef, undef, undef, undef], defers := Ds.map markOf }) m ?start ?round
  case start => exact ⟨_, _, _, _, _, _, [], _, _, xs, [], ⟨HM.out.symm, by rw [HM.out]; exact hlen, HW, HF, by rw [HM.out]; simp, HST, Nat.le_refl _⟩, rfl⟩
  case round =>
    rintro gk a' wr ⟨u8, u9, u10, u11, u12, u13, Ds, lv, ov, y, outs, ⟨hk, hy, HWY, HFY, hsum, HS, hsz⟩, rfl⟩ J K hJ hK
    have HK := hid hk; clear hk
    have ow := HS.out.bw
    have oo := HS.out.bo
    have cw0 : wr.cell? ⟨cw, 0, none⟩ = some lv := cell_of_row _ _ _ _ _ _ ow
    have co0 : wr.cell? ⟨co, 0, none⟩ = some ov := cell_of_row _ _ _ _ _ _ oo
    obtain ⟨⟨la, lc, rfl, hlc⟩, -⟩ := HS.out.word
    obtain ⟨n, hn⟩ : ∃ n, y.length = n := ⟨_, rfl⟩
    rw [hn] at cw0
    by_cases hn0 : 0 < n
    · have hne : y ≠ [] := by intro e; rw [e] at hn; simp at hn; omega
      have hs90 := starts90_any B la n lc wr
      have HS90 := hid hs90
      have HN := hid hn
      have HNE := hid hne
      clear ow oo hs90 hlc hn hne
      gi_wp2_with (refine ⟨trivial, ?_⟩; gi_at_call 90; refine (callsIn_wide.2 HS90.out).mono ?_; rintro e w1 ⟨rfl, hx1, hb1, hb2⟩; have HX1 := hid hx1; have HB1 := hid hb1; have HB2 := hid hb2; clear hx1 hb1 hb2)
      have hs1 := HX1.out.size
      have hS1 := HS.out.grew HX1.out
      have HS1 := hid hS1
      have HL1 := hid (HL.out.grew hS1.below)
      have hseq := starts_stops D B N y wr.heap.size (wr.heap.size + 1) (.slice la n lc) w1 8 (by decide) hN HWY.out hy HL1.out HB1.out HB2.out (fun k _ => w1.heap.size ≤ k) (fun _ _ h => by have := HL1.out.lt; omega) (fun _ h h2 => by have := lt_of_obj h; omega) (fun _ h h2 => by have := lt_of_obj h; omega)
        ((hS1.word.wd.off.re (fun k o ho _ h => by have := lt_of_obj ho; omega)).len HN.out)
      have HSEQ := hid hseq
      have HW1 := hid (show w.heap.size ≤ w1.heap.size by have := hS1.below.size; omega)
      have hwl : cw < w1.heap.size := lt_of_obj hS1.bw
      have hol : co < w1.heap.size := lt_of_obj hS1.bo
      have HOV := hid (show ∀ k, ov.ownBlock = some k → k < w1.heap.size from fun k hk => (hS1.seg.own k hk).2.1)
      have HMK := hid (show ∀ D ∈ Ds, D < w1.heap.size from fun D hD => lt_of_obj (hS1.marks D hD).2)
      have HWC := hid (show w.heap.size ≤ cw ∧ w.heap.size ≤ co by rw [HCW.out]; omega)
      clear hseq hS1
      refine wpIn_rangeFunc_sep (P := Try.prog) rfl (by decide) (gf := 104) (fa := #[]) rfl trivial (enters_of Try.func104 (by kernel_rfl) rfl) HSEQ.out (grew_refl w1) (fun _ _ h => h) (fun _ => rfl)
        (fun pre T W => pre = [] ∧ Grew w1 W ∧ ∀ k, T k → w1.heap.size ≤ k)
        (fun c _ W => c = .exit 2 ∧ w1.heap.size ≤ W.heap.size ∧ ∃ a l lv' ov', starts D N y = a :: l ∧ FSt w cw co Ds lv' ov' (rem D y a) (outs ++ [a]) W)
        ?hI ?hIx ?hHas ⟨rfl, grew_refl _, fun k h => h.elim⟩
        (fun x => { tmps := #[.pointer (some ⟨B, 0, none⟩), .slice xa m xc, undef, .pointer (some ⟨cw, 0, none⟩), .slice none 0 0, .pointer (some ⟨co, 0, none⟩), .int .i64 x.1, x.2, .slice la n lc, .int .i64 (n : Int), .bool true, .pointer (some ⟨B, 0, none⟩), .slice la n lc, .func (.func 104) #[] #[.pointer (some ⟨wr.heap.size, 0, none⟩), .pointer (some ⟨wr.heap.size + 1, 0, none⟩)], .int .i64 x.1, x.2, undef, undef, undef, undef, undef, undef], defers := [] })
        ?assign ?body ?done ?stop
      case hI =>
        rintro pre T W W' ⟨rfl, hg, hT⟩ hk T' hT'
        refine ⟨rfl, hg.trans (hk.below hg.size (fun k o h => h.elim (hT k) (fun h => h.1))), fun k h => ?_⟩
        rcases hT' k h with h | h
        · exact hT k h
        · have := hg.size; omega
      case hIx =>
        rintro c pre W W' ⟨rfl, hz, a, l, lv', ov', h1, h2⟩ hk
        exact ⟨rfl, Nat.le_trans hz hk.size, a, l, lv', ov', h1, h2.calls HW1.out hk HMK.out⟩
      case hHas =>
        rintro pre x W W' hh hk
        exact hh.keeps hk (fun k c fr hm => by cases hm.2.2)
      case assign =>
        rintro l ⟨xa, xv⟩ W K hK
        dsimp only [encS]
        gi_wp2
        exact hK
      case body =>
        rintro l pre T ⟨a, xv⟩ W ⟨rfl, hg, hT0⟩ hh hT hlt
        have hat := hh.at'
        have hleft := hh.left
        have hS := HS1.out.grew hg
        have ow := hS.bw
        have oo := hS.bo
        have cw0 : W.cell? ⟨cw, 0, none⟩ = some (.slice la y.length lc) := cell_of_row _ _ _ _ _ _ ow
        rw [HN.out] at cw0
        have co0 : W.cell? ⟨co, 0, none⟩ = some ov := cell_of_row _ _ _ _ _ _ oo
        have fw0 := frozen_obj ow 0
        have fo0 := frozen_obj oo 0
        obtain ⟨oa, oc, hov, _⟩ := hS.seg.shape
        subst hov
        obtain ⟨⟨ra, rc, hxv, _⟩, _⟩ := id hleft
        simp only at hxv
        subst hxv
        have hc9 : outs.length < 1000000000 := by omega
        have HS2 := hid hS; have HAT := hid hat; have HLF := hid hleft; have HGW := hid hg
        clear hS hat hh hleft ow oo hg
        gi_wp2_with (gi_at_builtin; refine wpListIn_append_one rfl _ _ 25 rfl w.heap.size 3 Try.underlying25 Try.info3 rfl (by decide) _ outs.length _ rfl (HS2.out.seg.alloc _) _ _ _ rfl (one_new _ _ _) rfl hc9 ?_ ?_; (have := HS2.out.below.size; simp only [World.size_alloc]; omega); intro v4 w4 hown4 hgrow4 hblk4; have hk4 : Keeps (fun k o => (Value.slice oa outs.length oc).ownBlock = some k ∧ ∃ cur, o = .cells cur 3 (0, 0)) W w4 := ((Keeps.refl _ W).alloc _).grown hgrow4 (fun k o e ho => by obtain ⟨_, _, cur, hcur⟩ := HS2.out.seg.own k e; have h2 : (W.alloc (.cells #[.int .i64 a] 3)).heap[k]? = some (.cells cur 3 (0, 0)) := (Below.heap_alloc _ _ k (lt_of_obj hcur)).trans hcur; rw [h2] at ho; cases ho; exact ⟨e, _, rfl⟩); have ob4 := hk4.obj _ _ HS2.out.bo (fun ⟨_, cur, h⟩ => by cases h); have ow4 := hk4.obj _ _ HS2.out.bw (fun ⟨_, cur, h⟩ => by cases h); have c4 : w4.cell? ⟨co, 0, none⟩ = some _ := cell_of_row _ _ _ _ _ _ ob4; have f4 := frozen_obj ob4 0; have d4 : w4.cell? ⟨cw, 0, none⟩ = some _ := cell_of_row _ _ _ _ _ _ ow4; have e4 := frozen_obj ow4 0; have HK4 := hid hk4; have HOWN4 := hid hown4; have HBLK4 := hid hblk4; obtain ⟨a4, c4', rfl, _⟩ := hown4.shape; clear ob4 ow4 hk4 hown4 hblk4 hgrow4)
        obtain ⟨hst, hkp⟩ := FSt.step HS2.out hcc HWC.out.1 HWC.out.2 (n₀ := w1.heap.size) (by rw [List.map_append]; exact HOWN4.out) HK4.out (fun k hk => by
          rcases HBLK4.out with h | h
          · exact .inl (h.symm.trans hk)
          · have e := h.symm.trans hk; simp at e; exact .inr (by omega)) HLF.out HOV.out
        refine ⟨hkp.mono (fun k o hm => .inr hm.1), rfl, by have := HGW.out.size; have := hkp.size; omega, ?_⟩
        exact ⟨a, ⟨_, HAT.out⟩, _, _, hst⟩
      case done =>
        rintro D' xs' T W hD hS' ⟨rfl, _⟩ hK'
        exact absurd hS'.symm (starts_ne HWY.out HNE.out)
      case stop =>
        rintro D' c pre W hD ⟨rfl, hz, a, l, lv', ov', h1, h2⟩ hK'
        have hmem : a ∈ starts D N y := by rw [h1]; simp
        have hfs := (mem_starts.1 hmem).2
        obtain ⟨i, hi⟩ := Option.isSome_iff_exists.1 hfs
        have hrl := rem_length hfs
        have hfc := firstN_cons (m := n - 1) h1 hi (by rw [HN.out]; omega)
        rw [← free_pos hi] at hfc
        have hz2 : W1.heap.size ≤ W.heap.size := by omega
        have HFC := hid hfc; have HRL := hid hrl; have H2 := hid h2; have HKM := hid hK'; have HD := hid hD
        clear hmem hfs hi hrl hfc h1 h2 hK' hD
        gi_wp2
        refine Handed.intro (rem D y a).length ?measure ?_
        rotate_left
        · first | gi_step | go_step
          refine ⟨_, _, _, _, _, _, D' :: Ds, lv', ov', rem D y a, outs ++ [a], ?_, rfl⟩
          refine ⟨rfl, by have := HRL.out; have := HN.out; omega, hid (fun z hz => HWY.out z (rem_sub hz)), hid (by rw [HFY.out, HFC.out]; simp), by have := HRL.out; have := HN.out; simp only [List.length_append, List.length_cons, List.length_nil]; omega, hid ⟨H2.out.below, H2.out.bw, H2.out.bo, H2.out.seg, H2.out.word, fun D2 hD2 => ?_, ?_⟩, hz2⟩
          · rcases List.mem_cons.1 hD2 with rfl | hD2
            · exact ⟨Nat.le_trans HW1.out HD.out, HKM.out⟩
            · exact H2.out.marks D2 hD2
          · exact List.nodup_cons.2 ⟨fun h => by have := HMK.out _ h; have := HD.out; omega, H2.out.nodup⟩
        · rw [HK.out]; have := HRL.out; omega
    · obtain rfl : n = 0 := by omega
      have hy0 : y = [] := List.length_eq_zero_iff.1 hn
      subst hy0
      have hpF : F = outs := by rw [HFY.out]; simp [firstN]
      have hS := HS.out
      obtain ⟨oa, oc, rfl, _⟩ := hS.seg.shape
      subst hpF
      gi_wp2
      refine leaves_marks w.heap.size Ds wr hS.marks hS.nodup (fun W' hk => ⟨_, results_tmp rfl _ _ _, _, rfl, ?_, ?_⟩)
      · exact hS.seg.keeps hk (fun k o _ ⟨cur, ho⟩ hm => by rw [ho] at hm; cases hm.2)
      · exact hS.below.trans (hk.below hS.below.size (fun k o hm => hm.1))

end Go.Proofs.Ytddnpooffcjhnaa
