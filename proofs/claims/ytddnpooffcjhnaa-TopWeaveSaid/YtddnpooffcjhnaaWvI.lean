/- Walks: what starts returns is ranged over: the first letters, in order, each with what is left. Walk: first, of the program. Walk: keyOf; words as keys of a map. -/
import Derived.Test.YtddnpooffcjhnaaWvN
import Derived.Test.YtddnpooffcjhnaaWvM
import Derived.Test.YtddnpooffcjhnaaRangeSepM
import Derived.RangeFuncNested
import Derived.Shelf.Abstract
import Derived.Shelf.RegionOpen
import Derived.TacticsInMore
import Derived.LoopNIn
import Derived.LoopIn
import Derived.Sort.LoopGhostIn
import Derived.Test.YtddnpooffcjhnaaInLaws
namespace Go.Lin.Wv

/-- A letter, and the slice of what is left. -/
abbrev SX := Int × Value
def encS (x : SX) : Array Value := #[.int .i64 x.1, x.2]

/-- Cells of ints. -/
def IntCells (_ : Nat) (o : Obj) : Prop := ∃ c fr, o = .cells c 3 fr

theorem free_pos {D : Int → Int → Bool} {j : Int} {w : List Int} {i : Nat} (h : free D w j = some i) : rem D w j = w.eraseIdx i := by unfold rem; rw [h]

theorem starts_prefix {D : Int → Int → Bool} {w : List Int} {j : Nat} : ∀ {n : Nat}, j ≤ n → ∃ t, starts D n w = starts D j w ++ t
  | 0, h => ⟨[], by obtain rfl : j = 0 := by omega
                    simp⟩
  | n + 1, h => by
    by_cases he : j = n + 1
    · subst he; exact ⟨[], by simp⟩
    · obtain ⟨t, ht⟩ := starts_prefix (D := D) (w := w) (j := j) (n := n) (by omega)
      rw [starts_succ, ht]
      split
      · exact ⟨t ++ [(n : Int)], by simp⟩
      · exact ⟨t, rfl⟩

theorem starts_split {D : Int → Int → Bool} {n a : Nat} {w : List Int} {i : Nat} (ha : a < n) (hf : free D w a = some i) : starts D n w = starts D a w ++ (a : Int) :: (starts D n w).drop ((starts D a w).length + 1) := by
  obtain ⟨t, ht⟩ := starts_prefix (D := D) (w := w) (j := a + 1) (n := n) (by omega)
  have h2 : starts D (a + 1) w = starts D a w ++ [(a : Int)] := by rw [starts_succ, hf]; rfl
  rw [ht, h2]
  have : (starts D a w ++ [(a : Int)] ++ t).drop ((starts D a w).length + 1) = t := by
    rw [List.drop_append_of_le_length (by simp)]
    simp
  rw [this]
  simp

end Go.Lin.Wv
namespace Go.Proofs.Ytddnpooffcjhnaa
open Go Go.RowKit Go.Lin Go.Lin.Wv Go.Maps
attribute [local go_sem] Oper.semAt_some

theorem cell_keeps {w w' : World} {may : Nat → Obj → Prop} (hk : Keeps may w w') {b o : Nat} {v : Value} (hm : ∀ x, w.heap[b]? = some x → ¬ may b x) (h : w.cell? ⟨b, o, none⟩ = some v) : w'.cell? ⟨b, o, none⟩ = some v := by
  have hlt := World.block_lt_of_cell? w _ h
  simp only at hlt
  have ho : w.heap[b]? = some w.heap[b] := Array.getElem?_eq_getElem hlt
  exact cell_of_obj ho (hk.obj _ _ ho (hm _ ho)) h

theorem Loom.keeps {w w' : World} {B : Nat} {D : Int → Int → Bool} {N : Nat} {may : Nat → Obj → Prop} (h : Loom w B D N) (hk : Keeps may w w') (hm : ∀ x, w.heap[B]? = some x → ¬ may B x) : Loom w' B D N :=
  ⟨Nat.lt_of_lt_of_le h.lt hk.size, cell_keeps hk hm h.c0, fun a b ha hb => cell_keeps hk hm (h.cs a b ha hb)⟩

theorem fn100 : Fence.wide.fn 100 := trivial
theorem skip_fn {f : FuncId} (hf : Fence.wide.fn f) {K : Act → World → Prop} {a : Act} {w : World} (h : K a w) : Fence.wide.fn f ∧ K a w := ⟨hf, h⟩
theorem skip_none {K : Act → World → Prop} {a : Act} {w : World} (h : K a w) : (∀ f, (none : Option FuncId) = some f → Fence.wide.fn f) ∧ K a w := ⟨fun _ h => (by cases h), h⟩

/-- What is told of x when it is handed over behind pre. -/
structure HasS (n₀ : Nat) (D : Int → Int → Bool) (N : Nat) (xs : List Int) (pre : List SX) (x : SX) (W : World) : Prop where
  mem : x.1 ∈ starts D N xs
  at' : starts D N xs = pre.map (·.1) ++ x.1 :: (starts D N xs).drop (pre.length + 1)
  left : WdOff (fun k o => IntCells k o ∧ n₀ ≤ k) W x.2 (rem D xs x.1)

theorem HasS.keeps {n₀ : Nat} {D : Int → Int → Bool} {N : Nat} {xs : List Int} {pre : List SX} {x : SX} {W W' : World} {may : Nat → Obj → Prop} (h : HasS n₀ D N xs pre x W) (hk : Keeps may W W') (hm : ∀ k c fr, ¬ may k (.cells c 3 fr)) : HasS n₀ D N xs pre x W' :=
  ⟨h.mem, h.at', h.left.keeps hk (fun k _ ⟨⟨c, fr, ho⟩, _⟩ hmm => hm k c fr (ho ▸ hmm))⟩

theorem wdOff_of_seg {w : World} {base : Nat} {v : Value} {n : Nat} {xs : List Int} (h : Seg w base 3 1 v n (xs.map (.int .i64))) : WdOff (fun k o => IntCells k o ∧ base ≤ k) w v xs := by
  obtain ⟨a, c, h1, h2, _⟩ := IsWd.of_seg h
  exact ⟨⟨a, c, h1, h2⟩, Reads.mono h.isInts (fun _ o h => let ⟨hb, cur, ho⟩ := h; ⟨⟨cur, _, ho⟩, hb⟩)⟩

set_option maxHeartbeats 4000000 in
set_option maxRecDepth 100000 in
theorem starts_stops (D : Int → Int → Bool) (B N : Nat) (xs : List Int) (c1 c2 : Nat) (wv : Value) (w : World) (nf : Nat) (hnf : 3 ≤ nf) (hN : N ≤ 6) (hw : ∀ z ∈ xs, 0 ≤ z ∧ z < (N : Int)) (hlen : xs.length ≤ 100) (hL : Loom w B D N)
    (h1 : w.cell? ⟨c1, 0, none⟩ = some (.pointer (some ⟨B, 0, none⟩))) (h2 : w.cell? ⟨c2, 0, none⟩ = some wv) (may : Nat → Obj → Prop) (hmB : ∀ x, w.heap[B]? = some x → ¬ may B x) (hm1 : ∀ x, w.heap[c1]? = some x → ¬ may c1 x) (hm2 : ∀ x, w.heap[c2]? = some x → ¬ may c2 x) (hx : WdOff (fun k o => ¬ may k o) w wv xs) :
    SeqT Fence.wide nf Try.prog 104 #[] #[.pointer (some ⟨c1, 0, none⟩), .pointer (some ⟨c2, 0, none⟩)] encS may (HasS w.heap.size D N xs) (fun ys => ys.map (·.1) = starts D N xs) w := by
  intro l J Jx W hgW hJ hY h0
  have hz1 := World.block_lt_of_cell? w _ h1
  have hz2 := World.block_lt_of_cell? w _ h2
  simp only at hz1 hz2
  have HJ := hid hJ; have HY := hid hY; have HL := hid hL; have HX := hid hx; have HW := hid hw
  have HJ0 := hid h0
  have HWS := hgW.size
  have kB := (hgW.cell (p := ⟨B, 0, none⟩) hL.lt).trans hL.c0
  have k1 := (hgW.cell (p := ⟨c1, 0, none⟩) hz1).trans h1
  have k2 := (hgW.cell (p := ⟨c2, 0, none⟩) hz2).trans h2
  have hBl := hL.lt
  clear hJ hY hL hx hw h0
  have hn1 : 1 ≤ nf := by omega
  refine callsIn_of_wp Try.func104 rfl trivial ?_ rfl
  simp only [Try.ntmps104, List.size_toArray, List.length_cons, List.length_nil, Nat.reduceAdd, Nat.reduceSub, Array.replicate_succ, Array.replicate_zero, List.push_toArray, List.append_toArray, List.nil_append, List.cons_append]
  gi_wp2
  gi_loopg [4, 5, 10] N (fun g _ _ i wr => ∃ (a : Nat) (pre : List SX) (T : Nat → Prop), a ≤ N ∧ i = .int .i64 (a : Int) ∧ Hid (g = N - a) ∧ Hid (J pre T wr) ∧ Hid (Keeps (fun k o => may k o) w wr) ∧ Hid (∀ k, T k → w.heap.size ≤ k ∧ k < wr.heap.size) ∧ Hid (pre.map (·.1) = starts D a xs))
  case atStart => exact ⟨0, [], _, by omega, rfl, hid rfl, HJ0, hid hgW.keeps, hid (fun k h => h.elim), hid rfl⟩
  case round =>
    clear HJ0
    obtain ⟨a, pre, T, ha, rfl, HG, HJd, HB, HT, HP⟩ := hrel
    rename World => wr
    have hs := HB.out.size
    have kB' := (HL.out.keeps HB.out hmB).c0
    have k1' := cell_keeps HB.out hm1 h1
    have k2' := cell_keeps HB.out hm2 h2
    by_cases hlt : a < N
    · have hst := start_any B N a wv xs wr hN hlt HW.out (HL.out.keeps HB.out hmB) (HX.out.keeps HB.out (fun _ _ h hn => h hn)).wd.ints
      cases hf : free D xs a with
      | none =>
        rw [hf] at hst
        rw [show ix none = -1 from rfl] at hst
        have HST := hid hst
        have HSU := hid (show starts D (a + 1) xs = starts D a xs by rw [starts_succ, hf]; rfl)
        clear hst hf
        gi_wp2_with (first | (refine ⟨trivial, ?_⟩; gi_at_call 99; refine (callsIn_wide.2 HST.out).mono ?_; rintro e w1 ⟨rfl, hx1⟩; have HX1 := hid hx1; clear hx1) | (with_reducible refine skip_fn fn100 ?_) | (with_reducible refine skip_none ?_))
        gi_roundg (N - (a + 1))
        case measure => have := HG.out; omega
        case rel =>
          exact ⟨a + 1, pre, T, by omega, by go_num, hid rfl, hid (HJ.out _ _ _ _ HJd.out HX1.out.keeps _ (fun k h => ⟨.inl h, by have := HT.out k h; have := HX1.out.size; omega⟩)), hid (HB.out.trans HX1.out.keeps), hid (fun k h => by have := HT.out k h; have := HX1.out.size; omega), hid (by rw [HSU.out]; exact HP.out)⟩
      | some i =>
        rw [hf] at hst
        rw [show ix (some i) = (i : Int) from rfl] at hst
        have HST := hid hst
        obtain ⟨hil, _⟩ := free_lt hf
        have hmem : (a : Int) ∈ starts D N xs := mem_starts.2 ⟨by omega, by rw [hf]; rfl⟩
        have HMEM := hid hmem
        have HSU := hid (show starts D (a + 1) xs = starts D a xs ++ [(a : Int)] by rw [starts_succ, hf]; rfl)
        have HREM := hid (free_pos hf)
        have HAT := hid (show starts D N xs = pre.map (·.1) ++ (a : Int) :: (starts D N xs).drop (pre.length + 1) by
          have hpl : pre.length = (starts D a xs).length := by rw [← HP.out, List.length_map]
          rw [HP.out, hpl]
          exact starts_split hlt hf)
        have hi0 : (0 : Int) ≤ (i : Int) := by omega
        clear hst hf hmem
        gi_wp2_with (first
          | (refine ⟨trivial, ?_⟩; gi_at_call 99; refine (callsIn_wide.2 HST.out).mono ?_; rintro e w1 ⟨rfl, hx1⟩; have HX1 := hid hx1; have m2 := (hx1.cell (p := ⟨c2, 0, none⟩) (by show c2 < _; omega)).trans k2'; clear hx1)
          | (refine ⟨trivial, ?_⟩; gi_at_call 100; refine (callsIn_wide.2 (without_any wv xs i w1 hil hlen ((HX.out.keeps HB.out (fun _ _ h hn => h hn)).wd.grew HX1.out))).mono ?_; rintro e w2 ⟨lv, rfl, hs2, hx2⟩; have HS2 := hid hs2; have HX2 := hid (grew_trans HX1.out hx2)
             have hJ1 : J pre (fun k => T k ∨ (wr.heap.size ≤ k ∧ k < w2.heap.size)) w2 := HJ.out pre T wr w2 HJd.out HX2.out.keeps _ (fun k h => by
               rcases h with h | h
               · have := HT.out k h; have := HX2.out.size; exact ⟨.inl h, by omega⟩
               · exact ⟨.inr h.1, h.2⟩)
             have hh1 : HasS w.heap.size D N xs pre ((a : Int), lv) w2 := ⟨HMEM.out, HAT.out, by rw [HREM.out]; exact wdOff_of_seg (HS2.out.mono (by have := HX1.out.size; omega))⟩
             have hy := HY.out pre _ ((a : Int), lv) w2 hJ1 hh1
             dsimp only [encS] at hy
             obtain ⟨fn, tmps, assign, body, hy, hR⟩ := hy
             clear hs2 hx2 hJ1 hh1))
        refine hR.mono ?_
        rintro e W3 (⟨rfl, hJ3, hk3⟩ | ⟨rfl, hJx3⟩)
        · clear hy hR
          have hb3 : Keeps (fun k o => may k o) w W3 := (HB.out.trans HX2.out.keeps).trans (hk3.mono (fun k o h => h.2))
          have HB3 := hid hb3; have HJ3 := hid hJ3
          have HZ3 := hid hk3.size
          clear hb3 hJ3 hk3
          gi_wp2
          gi_roundg (N - (a + 1))
          case measure => have := HG.out; omega
          case rel =>
            refine ⟨a + 1, pre ++ [((a : Int), lv)], _, by omega, by go_num, hid rfl, HJ3, HB3, hid (fun k h => ?_), hid (by rw [HSU.out, List.map_append, HP.out]; rfl)⟩
            have := HZ3.out
            rcases h with h | h
            · have := HT.out k h; have := HX2.out.size; omega
            · omega
        · clear hy hR
          have HJX := hid hJx3
          gi_wp2
          refine bodyPost_ret (results_none rfl _ _ _) rfl ?_
          exact ⟨⟨_, rfl⟩, .inr ⟨_, _, HJX.out⟩⟩
    · obtain rfl : a = N := by omega
      gi_wp2
      go_end0
      exact ⟨⟨_, rfl⟩, .inl ⟨pre, T, HP.out, HJd.out⟩⟩

/-- starts. -/
theorem starts90_any (B : Nat) (wa : Option Addr) (wn wc : Nat) (w : World) : Calls Try.prog 90 #[.pointer (some ⟨B, 0, none⟩), .slice wa wn wc] w fun e w' => e = .returned (.func (.func 104) #[] #[.pointer (some ⟨w.heap.size, 0, none⟩), .pointer (some ⟨w.heap.size + 1, 0, none⟩)]) ∧ Grew w w' ∧
    w'.cell? ⟨w.heap.size, 0, none⟩ = some (.pointer (some ⟨B, 0, none⟩)) ∧ w'.cell? ⟨w.heap.size + 1, 0, none⟩ = some (.slice wa wn wc) := by
  obtain ⟨W0, hW0, g0, k0, hz⟩ := box1 w (.pointer (some ⟨B, 0, none⟩)) 58
  obtain ⟨W1, hW1, g1, k1, hz1⟩ := box1 W0 (.slice wa wn wc) 25
  have hs : W0.heap.size = w.heap.size + 1 := by rw [← hW0]; simp
  have HS := hid hs
  have HG := hid (grew_trans g0 g1)
  have HK := hid ((g1.cell (p := ⟨w.heap.size, 0, none⟩) hz).trans k0)
  have HK1 := hid k1
  clear hs
  go_enter Try.func90, Try.ntmps90
  go_wp2
  go_ret
  exact ⟨by rw [HS.out]; rfl, HG.out, HK.out, by rw [← HS.out]; exact HK1.out⟩

end Go.Proofs.Ytddnpooffcjhnaa
namespace Go.Lin
open Go Go.RowKit
variable {F : Fence} {n : Nat} {P : Program}

def markOf (D : Nat) : Deferred := { target := .collected D, args := #[] }

/-- A function leaves with marks among its deferred calls. -/
theorem leaves_marks {fn : Func} {tmps : Array Value} {R : Ending → World → Prop} (base : Nat) : ∀ (Ds : List Nat) (W : World), (∀ D ∈ Ds, base ≤ D ∧ W.heap[D]? = some (.deferred (some []))) → Ds.Nodup →
    (∀ W', Keeps (fun k o => base ≤ k ∧ o.isCells = false) W W' → ∃ v, (results fn tmps).run P W' = .ok v W' ∧ R (.returned v) W') → LeavesInM F n P fn tmps R (Ds.map markOf) .returning W
  | [], W, _, _, h => h W (Keeps.refl _ W)
  | D :: Ds, W, hD, hn, h => by
    obtain ⟨hb, ho⟩ := hD D (by simp)
    have hkp := keeps_putObj (may := fun k o => base ≤ k ∧ o.isCells = false) W (.deferred none) ho ⟨hb, rfl⟩
    refine ⟨by simp, .inl ⟨D, _, rfl, run_takeDeferred ho, leaves_marks base Ds _ (fun D' hD' => ?_) (List.nodup_cons.1 hn).2 (fun W' hk => h W' (hkp.trans hk))⟩⟩
    obtain ⟨hb', ho'⟩ := hD D' (by simp [hD'])
    have hne : D' ≠ D := fun e => (List.nodup_cons.1 hn).1 (e ▸ hD')
    exact ⟨hb', (World.putObj_heap_other hne).trans ho'⟩

end Go.Lin
namespace Go.Proofs.Ytddnpooffcjhnaa
open Go Go.RowKit Go.Lin Go.Lin.Wv Go.Maps
attribute [local go_sem] Oper.semAt_some

theorem frozen_obj {w : World} {k : Nat} {c : Array Value} {t : TypeId} (h : w.heap[k]? = some (.cells c t (0, 0))) (j : Nat) : w.frozen? ⟨k, j, none⟩ = false := by
  unfold World.frozen?
  simp only [h]
  simp

/-- The state of first: the cells of w and out, what is read there; the marks. -/
structure FSt (w0 : World) (cw co : Nat) (Ds : List Nat) (lv ov : Value) (y outs : List Int) (W : World) : Prop where
  below : Below w0.heap.size w0 W
  bw : W.heap[cw]? = some (.cells #[lv] 25 (0, 0))
  bo : W.heap[co]? = some (.cells #[ov] 25 (0, 0))
  seg : Seg W w0.heap.size 3 1 ov outs.length (outs.map (.int .i64))
  word : WdOff (fun k o => (w0.heap.size ≤ k → IntCells k o) ∧ ov.ownBlock ≠ some k) W lv y
  marks : ∀ D ∈ Ds, w0.heap.size ≤ D ∧ W.heap[D]? = some (.deferred (some []))
  nodup : Ds.Nodup

theorem FSt.grew {w0 : World} {cw co : Nat} {Ds : List Nat} {lv ov : Value} {y outs : List Int} {W W' : World} (h : FSt w0 cw co Ds lv ov y outs W) (hg : Grew W W') : FSt w0 cw co Ds lv ov y outs W' :=
  ⟨h.below.trans (hg.mono h.below.size), (hg.block _ (lt_of_obj h.bw)).trans h.bw, (hg.block _ (lt_of_obj h.bo)).trans h.bo, h.seg.grew hg, h.word.grew hg, fun D hD => ⟨(h.marks D hD).1, (hg.block _ (lt_of_obj (h.marks D hD).2)).trans (h.marks D hD).2⟩, h.nodup⟩

theorem WdOff.len {S : Nat → Obj → Prop} {w : World} {a : Option Addr} {c n : Nat} {xs : List Int} (h : WdOff S w (.slice a xs.length c) xs) (hn : xs.length = n) : WdOff S w (.slice a n c) xs := by subst hn; exact h

/-- Records of loops may turn. -/
theorem FSt.calls {w0 : World} {cw co : Nat} {Ds : List Nat} {lv ov : Value} {y outs : List Int} {W W' : World} {b : Nat} (h : FSt w0 cw co Ds lv ov y outs W) (hb : w0.heap.size ≤ b) (hk : Keeps (fun k o => b ≤ k ∧ o.isCells = false) W W') (hD : ∀ D ∈ Ds, D < b) : FSt w0 cw co Ds lv ov y outs W' :=
  ⟨h.below.trans (hk.below h.below.size (fun k o hm => by omega)), hk.obj _ _ h.bw (fun hm => by cases hm.2), hk.obj _ _ h.bo (fun hm => by cases hm.2), h.seg.keeps hk (fun k o _ ⟨cur, ho⟩ hm => by rw [ho] at hm; cases hm.2),
    h.word.keeps hk (fun k o ho hm => by obtain ⟨c, fr, ho2⟩ := ho.1 (by omega); rw [ho2] at hm; cases hm.2), fun D hm => ⟨(h.marks D hm).1, hk.obj _ _ (h.marks D hm).2 (fun hn => by have := hD D hm; omega)⟩, h.nodup⟩

theorem keeps_setCell {may : Nat → Obj → Prop} (W : World) (b : Nat) (v : Value) (hm : ∀ o, W.heap[b]? = some o → may b o) : Keeps may W (W.setCell ⟨b, 0, none⟩ v) :=
  (Keeps.refl may W).grown (grownBy_setCell' W b v) (fun k o e ho => by cases e; exact hm _ ho)

/-- A letter is taken: out is longer, w is what is left. -/
theorem FSt.step {w0 : World} {cw co : Nat} {Ds : List Nat} {lv ov : Value} {y outs : List Int} {W : World} (h : FSt w0 cw co Ds lv ov y outs W) (hne : cw ≠ co) (hcw : w0.heap.size ≤ cw) (hco : w0.heap.size ≤ co) {w4 : World} {v4 xv : Value} {a : Int} {y' : List Int} {n₀ : Nat}
    (hown : Seg w4 w0.heap.size 3 1 v4 (outs.length + 1) ((outs ++ [a]).map (.int .i64))) (hk4 : Keeps (fun k o => ov.ownBlock = some k ∧ ∃ cur, o = .cells cur 3 (0, 0)) W w4) (hblk : ∀ k, v4.ownBlock = some k → ov.ownBlock = some k ∨ W.heap.size ≤ k)
    (hleft : WdOff (fun k o => IntCells k o ∧ n₀ ≤ k) W xv y') (hn₀ : ∀ k, ov.ownBlock = some k → k < n₀) :
    FSt w0 cw co Ds xv v4 y' (outs ++ [a]) ((w4.setCell ⟨co, 0, none⟩ v4).setCell ⟨cw, 0, none⟩ xv) ∧
      Keeps (fun k o => o.isCells = true ∧ w0.heap.size ≤ k ∧ (ov.ownBlock = some k ∨ k = cw ∨ k = co)) W ((w4.setCell ⟨co, 0, none⟩ v4).setCell ⟨cw, 0, none⟩ xv) := by
  have o1 : w4.heap[co]? = some (.cells #[ov] 25 (0, 0)) := hk4.obj _ _ h.bo (fun ⟨_, cur, e⟩ => by cases e)
  have o2 : w4.heap[cw]? = some (.cells #[lv] 25 (0, 0)) := hk4.obj _ _ h.bw (fun ⟨_, cur, e⟩ => by cases e)
  have o3 : (w4.setCell ⟨co, 0, none⟩ v4).heap[co]? = some (.cells #[v4] 25 (0, 0)) := by rw [heap_setCell_same _ _ _ _ _ _ o1]; rfl
  have o4 : (w4.setCell ⟨co, 0, none⟩ v4).heap[cw]? = some (.cells #[lv] 25 (0, 0)) := by rw [heap_setCell_other _ _ _ _ hne]; exact o2
  have k1 : Keeps (fun k o => (k = cw ∨ k = co) ∧ ∃ c, o = .cells c 25 (0, 0)) w4 (w4.setCell ⟨co, 0, none⟩ v4) := keeps_setCell _ _ _ (fun o ho => by rw [o1] at ho; cases ho; exact ⟨.inr rfl, _, rfl⟩)
  have k2 : Keeps (fun k o => (k = cw ∨ k = co) ∧ ∃ c, o = .cells c 25 (0, 0)) (w4.setCell ⟨co, 0, none⟩ v4) ((w4.setCell ⟨co, 0, none⟩ v4).setCell ⟨cw, 0, none⟩ xv) := keeps_setCell _ _ _ (fun o ho => by rw [o4] at ho; cases ho; exact ⟨.inl rfl, _, rfl⟩)
  have k12 := k1.trans k2
  have hown' := fun k hk => (h.seg.own k hk).1
  have hall : Keeps (fun k o => o.isCells = true ∧ w0.heap.size ≤ k ∧ (ov.ownBlock = some k ∨ k = cw ∨ k = co)) W ((w4.setCell ⟨co, 0, none⟩ v4).setCell ⟨cw, 0, none⟩ xv) :=
    (hk4.mono (fun k o hm => ⟨by obtain ⟨_, cur, rfl⟩ := hm; rfl, hown' k hm.1, .inl hm.1⟩)).trans (k12.mono (fun k o hm => ⟨by obtain ⟨_, c, rfl⟩ := hm; rfl, by rcases hm.1 with rfl | rfl <;> assumption, .inr hm.1⟩))
  refine ⟨⟨h.below.trans (hall.below h.below.size (fun k o hm => hm.2.1)), ?_, ?_, ?_, ?_, fun D hD => ⟨(h.marks D hD).1, hall.obj _ _ (h.marks D hD).2 (fun hm => by cases hm.1)⟩, h.nodup⟩, hall⟩
  · rw [heap_setCell_same _ _ _ _ _ _ o4]; rfl
  · rw [heap_setCell_other _ _ _ _ (Ne.symm hne)]; exact o3
  · rw [show (outs ++ [a]).length = outs.length + 1 by simp]
    exact hown.keeps k12 (fun k o _ ⟨cur, ho⟩ ⟨_, c, e⟩ => by rw [ho] at e; cases e)
  · refine WdOff.re (S := fun k o => (IntCells k o ∧ n₀ ≤ k) ∧ k < W.heap.size) ?_ (fun k o _ hk => ⟨fun _ => hk.1.1, fun e => ?_⟩)
    · refine WdOff.keeps ?_ k12 (fun k o hk hm => by obtain ⟨⟨⟨c, fr, ho⟩, _⟩, _⟩ := hk; obtain ⟨_, c', e⟩ := hm; rw [ho] at e; cases e)
      refine WdOff.keeps ?_ hk4 (fun k o hk hm => by have := hn₀ k hm.1; have := hk.1.2; omega)
      exact hleft.re (fun k o ho hk => ⟨hk, lt_of_obj ho⟩)
    · rcases hblk k e with h2 | h2
      · have := hn₀ k h2; have := hk.1.2; omega
      · have := hk.2; omega

set_option maxHeartbeats 8000000 in
set_option maxRecDepth 100000 in
theorem first_any (D : Int → Int → Bool) (B N : Nat) (xs : List Int) (wv : Value) (w : World) (hN : N ≤ 6) (hw : ∀ z ∈ xs, 0 ≤ z ∧ z < (N : Int)) (hlen : xs.length ≤ 100) (hL : Loom w B D N) (hx : IsWd w wv xs) :
    Calls Try.prog 67 #[.pointer (some ⟨B, 0, none⟩), wv] w fun e w' => ∃ u, e = .returned u ∧ Seg w' w.heap.size 3 1 u (first D N xs).length ((first D N xs).map (.int .i64)) ∧ Grew w w' := by
  obtain ⟨F, hF⟩ : ∃ F, first D N xs = F := ⟨_, rfl⟩
  rw [hF]
  obtain ⟨xa, xc, rfl, hxc, hxi⟩ := hx
  have HW := hid hw; have HL := hid hL
  have HF := hid (show F = [] ++ firstN D N xs.length xs from by rw [← hF]; rfl)
  obtain ⟨W0, hW0, g0, k0, hz⟩ := box1 w (.slice xa xs.length xc) 25
  obtain ⟨W1, hW1, g1, k1, hz1⟩ := box1 W0 (.slice none 0 0) 25
  have ow : W1.heap[w.heap.size]? = some (.cells #[.slice xa xs.length xc] 25 (0, 0)) := (g1.block _ hz).trans (by rw [← hW0]; exact heap_alloc_new w _)
  have oo : W1.heap[W0.heap.size]? = some (.cells #[.slice none 0 0] 25 (0, 0)) := by rw [← hW1]; exact heap_alloc_new W0 _
  have g01 := grew_trans g0 g1
  have hcc : w.heap.size ≠ W0.heap.size := by omega
  have hst : FSt w w.heap.size W0.heap.size [] (.slice xa xs.length xc) (.slice none 0 0) xs [] W1 := by
    refine ⟨g01, ow, oo, Seg.nil _ _ _ _, ?_, fun D h => (by cases h), List.nodup_nil⟩
    refine WdOff.re (S := fun k _ => k < w.heap.size) ?_ (fun k o _ hk => ⟨fun h => by omega, by simp [Value.ownBlock]⟩)
    refine WdOff.grew ?_ g01
    refine ⟨⟨xa, xc, rfl, hxc⟩, ?_⟩
    obtain ⟨a, c, h1, h2, h3⟩ := hxi
    exact ⟨a, c, h1, h2, fun i hi => by
      obtain ⟨b, off, o, e1, e2, _, e4⟩ := h3 i hi
      exact ⟨b, off, o, e1, e2, lt_of_obj e2, e4⟩⟩
  have HST := hid hst
  have HG01 := hid g01
  have hw0 : w.heap.size < W1.heap.size := by omega
  have hw1 : W0.heap.size < W1.heap.size := hz1
  have hww : w.heap.size ≤ W0.heap.size := g0.size
  obtain ⟨cw, hcw⟩ : ∃ c, w.heap.size = c := ⟨_, rfl⟩
  obtain ⟨co, hco⟩ : ∃ c, W0.heap.size = c := ⟨_, rfl⟩
  obtain ⟨m, hm⟩ : ∃ m, xs.length = m := ⟨_, rfl⟩
  have HM := hid hm
  rw [hm] at hW0 hlen ⊢
  clear hst ow oo k0 k1 hF hw hL hxi hm hxc
  refine (callsIn_wide (n := 9)).1 ?_
  refine callsIn_of_wp_marks Try.func67 rfl trivial ?_ rfl
  simp only [Try.ntmps67, List.size_toArray, List.length_cons, List.length_nil, Nat.reduceAdd, Nat.reduceSub, Array.replicate_succ, Array.replicate_zero, List.push_toArray, List.append_toArray, List.nil_append, List.cons_append]
  gi_wp2
  have HCW := hid hcw
  rw [hcw] at hcc hw0 hww
  rw [hco] at hcc hw1 hww
  have hst := HST.out
  rw [hcw, hco] at hst
  have HST := hid hst
  clear hst hcw hco hW0 hW1 g0 g1 hz hz1 g01
  refine wpIn_loop_ghost_k (fun k a' w' => ∃ u8 u9 u10 u11 u12 u13 : Value, ∃ (Ds : List Nat) (lv ov : Value) (y outs : List Int), (k = y.length ∧ y.length ≤ 100 ∧ Hid (∀ z ∈ y, 0 ≤ z ∧ z < (N : Int)) ∧ Hid (F = outs ++ firstN D N y.length y) ∧ outs.length + y.length = m ∧ Hid (FSt w cw co Ds lv ov y outs w') ∧ W1.heap.size ≤ w'.heap.size) ∧
    a' = { tmps := #[.pointer (some ⟨B, 0, none⟩), .slice xa m xc, undef, .pointer (some ⟨cw, 0, none⟩), .slice none 0 0, .pointer (some ⟨co, 0, none⟩), undef, undef, u8, u9, u10, u11, u12, u13, undef, undef, undef, undef, undef, undef, undef, undef], defers := Ds.map markOf }) m ?start ?round
  case start => exact ⟨_, _, _, _, _, _, [], _, _, xs, [], ⟨HM.out.symm, by rw [HM.out]; exact hlen, HW, HF, by rw [HM.out]; simp, HST, Nat.le_refl _⟩, rfl⟩
  case round =>
    rintro gk a' wr ⟨u8, u9, u10, u11, u12, u13, Ds, lv, ov, y, outs, ⟨hk, hy, HWY, HFY, hsum, HS, hsz⟩, rfl⟩ J K hJ hK
    have HK := hid hk; clear hk
    have ow := HS.out.bw
    have oo := HS.out.bo
    have cw0 : wr.cell? ⟨cw, 0, none⟩ = some lv := cell_of_row _ _ _ _ _ _ ow
    have co0 : wr.cell? ⟨co, 0, none⟩ = some ov := cell_of_row _ _ _ _ _ _ oo
    obtain ⟨⟨la, lc, rfl, hlc⟩, -⟩ := HS.out.word
    obtain ⟨n, hn⟩ : ∃ n, y.length = n := ⟨_, rfl⟩
    rw [hn] at cw0
    by_cases hn0 : 0 < n
    · have hne : y ≠ [] := by intro e; rw [e] at hn; simp at hn; omega
      have hs90 := starts90_any B la n lc wr
      have HS90 := hid hs90
      have HN := hid hn
      have HNE := hid hne
      clear ow oo hs90 hlc hn hne
      gi_wp2_with (refine ⟨trivial, ?_⟩; gi_at_call 90; refine (callsIn_wide.2 HS90.out).mono ?_; rintro e w1 ⟨rfl, hx1, hb1, hb2⟩; have HX1 := hid hx1; have HB1 := hid hb1; have HB2 := hid hb2; clear hx1 hb1 hb2)
      have hs1 := HX1.out.size
      have hS1 := HS.out.grew HX1.out
      have HS1 := hid hS1
      have HL1 := hid (HL.out.grew hS1.below)
      have hseq := starts_stops D B N y wr.heap.size (wr.heap.size + 1) (.slice la n lc) w1 8 (by decide) hN HWY.out hy HL1.out HB1.out HB2.out (fun k _ => w1.heap.size ≤ k) (fun _ _ h => by have := HL1.out.lt; omega) (fun _ h h2 => by have := lt_of_obj h; omega) (fun _ h h2 => by have := lt_of_obj h; omega)
        ((hS1.word.wd.off.re (fun k o ho _ h => by have := lt_of_obj ho; omega)).len HN.out)
      have HSEQ := hid hseq
      have HW1 := hid (show w.heap.size ≤ w1.heap.size by have := hS1.below.size; omega)
      have hwl : cw < w1.heap.size := lt_of_obj hS1.bw
      have hol : co < w1.heap.size := lt_of_obj hS1.bo
      have HOV := hid (show ∀ k, ov.ownBlock = some k → k < w1.heap.size from fun k hk => (hS1.seg.own k hk).2.1)
      have HMK := hid (show ∀ D ∈ Ds, D < w1.heap.size from fun D hD => lt_of_obj (hS1.marks D hD).2)
      have HWC := hid (show w.heap.size ≤ cw ∧ w.heap.size ≤ co by rw [HCW.out]; omega)
      clear hseq hS1
      refine wpIn_rangeFunc_sep (P := Try.prog) rfl (by decide) (gf := 104) (fa := #[]) rfl trivial (enters_of Try.func104 (by kernel_rfl) rfl) HSEQ.out (grew_refl w1) (fun _ _ h => h) (fun _ => rfl)
        (fun pre T W => pre = [] ∧ Grew w1 W ∧ ∀ k, T k → w1.heap.size ≤ k)
        (fun c _ W => c = .exit 2 ∧ w1.heap.size ≤ W.heap.size ∧ ∃ a l lv' ov', starts D N y = a :: l ∧ FSt w cw co Ds lv' ov' (rem D y a) (outs ++ [a]) W)
        ?hI ?hIx ?hHas ⟨rfl, grew_refl _, fun k h => h.elim⟩
        (fun x => { tmps := #[.pointer (some ⟨B, 0, none⟩), .slice xa m xc, undef, .pointer (some ⟨cw, 0, none⟩), .slice none 0 0, .pointer (some ⟨co, 0, none⟩), .int .i64 x.1, x.2, .slice la n lc, .int .i64 (n : Int), .bool true, .pointer (some ⟨B, 0, none⟩), .slice la n lc, .func (.func 104) #[] #[.pointer (some ⟨wr.heap.size, 0, none⟩), .pointer (some ⟨wr.heap.size + 1, 0, none⟩)], .int .i64 x.1, x.2, undef, undef, undef, undef, undef, undef], defers := [] })
        ?assign ?body ?done ?stop
      case hI =>
        rintro pre T W W' ⟨rfl, hg, hT⟩ hk T' hT'
        refine ⟨rfl, hg.trans (hk.below hg.size (fun k o h => h.elim (hT k) (fun h => h.1))), fun k h => ?_⟩
        rcases hT' k h with h | h
        · exact hT k h
        · have := hg.size; omega
      case hIx =>
        rintro c pre W W' ⟨rfl, hz, a, l, lv', ov', h1, h2⟩ hk
        exact ⟨rfl, Nat.le_trans hz hk.size, a, l, lv', ov', h1, h2.calls HW1.out hk HMK.out⟩
      case hHas =>
        rintro pre x W W' hh hk
        exact hh.keeps hk (fun k c fr hm => by cases hm.2.2)
      case assign =>
        rintro l ⟨xa, xv⟩ W K hK
        dsimp only [encS]
        gi_wp2
        exact hK
      case body =>
        rintro l pre T ⟨a, xv⟩ W ⟨rfl, hg, hT0⟩ hh hT hlt
        have hat := hh.at'
        have hleft := hh.left
        have hS := HS1.out.grew hg
        have ow := hS.bw
        have oo := hS.bo
        have cw0 : W.cell? ⟨cw, 0, none⟩ = some (.slice la y.length lc) := cell_of_row _ _ _ _ _ _ ow
        rw [HN.out] at cw0
        have co0 : W.cell? ⟨co, 0, none⟩ = some ov := cell_of_row _ _ _ _ _ _ oo
        have fw0 := frozen_obj ow 0
        have fo0 := frozen_obj oo 0
        obtain ⟨oa, oc, hov, _⟩ := hS.seg.shape
        subst hov
        obtain ⟨⟨ra, rc, hxv, _⟩, _⟩ := id hleft
        simp only at hxv
        subst hxv
        have hc9 : outs.length < 1000000000 := by omega
        have HS2 := hid hS; have HAT := hid hat; have HLF := hid hleft; have HGW := hid hg
        clear hS hat hh hleft ow oo hg
        gi_wp2_with (gi_at_builtin; refine wpListIn_append_one rfl _ _ 25 rfl w.heap.size 3 Try.underlying25 Try.info3 rfl (by decide) _ outs.length _ rfl (HS2.out.seg.alloc _) _ _ _ rfl (one_new _ _ _) rfl hc9 ?_ ?_; (have := HS2.out.below.size; simp only [World.size_alloc]; omega); intro v4 w4 hown4 hgrow4 hblk4; have hk4 : Keeps (fun k o => (Value.slice oa outs.length oc).ownBlock = some k ∧ ∃ cur, o = .cells cur 3 (0, 0)) W w4 := ((Keeps.refl _ W).alloc _).grown hgrow4 (fun k o e ho => by obtain ⟨_, _, cur, hcur⟩ := HS2.out.seg.own k e; have h2 : (W.alloc (.cells #[.int .i64 a] 3)).heap[k]? = some (.cells cur 3 (0, 0)) := (Below.heap_alloc _ _ k (lt_of_obj hcur)).trans hcur; rw [h2] at ho; cases ho; exact ⟨e, _, rfl⟩); have ob4 := hk4.obj _ _ HS2.out.bo (fun ⟨_, cur, h⟩ => by cases h); have ow4 := hk4.obj _ _ HS2.out.bw (fun ⟨_, cur, h⟩ => by cases h); have c4 : w4.cell? ⟨co, 0, none⟩ = some _ := cell_of_row _ _ _ _ _ _ ob4; have f4 := frozen_obj ob4 0; have d4 : w4.cell? ⟨cw, 0, none⟩ = some _ := cell_of_row _ _ _ _ _ _ ow4; have e4 := frozen_obj ow4 0; have HK4 := hid hk4; have HOWN4 := hid hown4; have HBLK4 := hid hblk4; obtain ⟨a4, c4', rfl, _⟩ := hown4.shape; clear ob4 ow4 hk4 hown4 hblk4 hgrow4)
        obtain ⟨hst, hkp⟩ := FSt.step HS2.out hcc HWC.out.1 HWC.out.2 (n₀ := w1.heap.size) (by rw [List.map_append]; exact HOWN4.out) HK4.out (fun k hk => by
          rcases HBLK4.out with h | h
          · exact .inl (h.symm.trans hk)
          · have e := h.symm.trans hk; simp at e; exact .inr (by omega)) HLF.out HOV.out
        refine ⟨hkp.mono (fun k o hm => .inr hm.1), rfl, by have := HGW.out.size; have := hkp.size; omega, ?_⟩
        exact ⟨a, ⟨_, HAT.out⟩, _, _, hst⟩
      case done =>
        rintro D' xs' T W hD hS' ⟨rfl, _⟩ hK'
        exact absurd hS'.symm (starts_ne HWY.out HNE.out)
      case stop =>
        rintro D' c pre W hD ⟨rfl, hz, a, l, lv', ov', h1, h2⟩ hK'
        have hmem : a ∈ starts D N y := by rw [h1]; simp
        have hfs := (mem_starts.1 hmem).2
        obtain ⟨i, hi⟩ := Option.isSome_iff_exists.1 hfs
        have hrl := rem_length hfs
        have hfc := firstN_cons (m := n - 1) h1 hi (by rw [HN.out]; omega)
        rw [← free_pos hi] at hfc
        have hz2 : W1.heap.size ≤ W.heap.size := by omega
        have HFC := hid hfc; have HRL := hid hrl; have H2 := hid h2; have HKM := hid hK'; have HD := hid hD
        clear hmem hfs hi hrl hfc h1 h2 hK' hD
        gi_wp2
        refine Handed.intro (rem D y a).length ?measure ?_
        rotate_left
        · first | gi_step | go_step
          refine ⟨_, _, _, _, _, _, D' :: Ds, lv', ov', rem D y a, outs ++ [a], ?_, rfl⟩
          refine ⟨rfl, by have := HRL.out; have := HN.out; omega, hid (fun z hz => HWY.out z (rem_sub hz)), hid (by rw [HFY.out, HFC.out]; simp), by have := HRL.out; have := HN.out; simp only [List.length_append, List.length_cons, List.length_nil]; omega, hid ⟨H2.out.below, H2.out.bw, H2.out.bo, H2.out.seg, H2.out.word, fun D2 hD2 => ?_, ?_⟩, hz2⟩
          · rcases List.mem_cons.1 hD2 with rfl | hD2
            · exact ⟨Nat.le_trans HW1.out HD.out, HKM.out⟩
            · exact H2.out.marks D2 hD2
          · exact List.nodup_cons.2 ⟨fun h => by have := HMK.out _ h; have := HD.out; omega, H2.out.nodup⟩
        · rw [HK.out]; have := HRL.out; omega
    · obtain rfl : n = 0 := by omega
      have hy0 : y = [] := List.length_eq_zero_iff.1 hn
      subst hy0
      have hpF : F = outs := by rw [HFY.out]; simp [firstN]
      have hS := HS.out
      obtain ⟨oa, oc, rfl, _⟩ := hS.seg.shape
      subst hpF
      gi_wp2
      refine leaves_marks w.heap.size Ds wr hS.marks hS.nodup (fun W' hk => ⟨_, results_tmp rfl _ _ _, _, rfl, ?_, ?_⟩)
      · exact hS.seg.keeps hk (fun k o _ ⟨cur, ho⟩ hm => by rw [ho] at hm; cases hm.2)
      · exact hS.below.trans (hk.below hS.below.size (fun k o hm => hm.1))

end Go.Proofs.Ytddnpooffcjhnaa
namespace Go.Lin.Wv
open Go Go.RowKit

def keyCells (xs : List Int) : List Value := xs.map (fun a => .int .i64 (a + 1)) ++ List.replicate (10 - xs.length) (.int .i64 0)
def keyV (xs : List Int) : Value := .agg (keyCells xs).toArray

theorem keyCells_length {xs : List Int} (h : xs.length ≤ 10) : (keyCells xs).length = 10 := by
  unfold keyCells; simp; omega

theorem keyCells_succ {xs : List Int} {j : Nat} (hj : j < xs.length) (h : xs.length ≤ 10) : (keyCells (xs.take j)).set j (.int .i64 (nth xs j + 1)) = keyCells (xs.take (j + 1)) := by
  obtain ⟨ys, hys⟩ : ∃ ys, xs.take j = ys := ⟨_, rfl⟩
  have hl : ys.length = j := by rw [← hys, List.length_take]; omega
  unfold keyCells
  rw [take_succ_nth hj, hys, List.map_append, List.length_append, hl, List.length_singleton, List.set_append_right _ _ (by simp; omega), List.append_assoc, List.length_map, hl, Nat.sub_self]
  rw [show 10 - j = (10 - (j + 1)) + 1 by omega, List.replicate_succ]
  rfl

theorem keyCells_inj {xs ys : List Int} (hx : ∀ z ∈ xs, 0 ≤ z) (hy : ∀ z ∈ ys, 0 ≤ z) (h : keyCells xs = keyCells ys) : xs = ys := by
  have key : ∀ (xs ys : List Int), (∀ z ∈ xs, 0 ≤ z) → (∀ z ∈ ys, 0 ≤ z) → ∀ m n, xs.map (fun a => Value.int .i64 (a + 1)) ++ List.replicate m (.int .i64 0) = ys.map (fun a => Value.int .i64 (a + 1)) ++ List.replicate n (.int .i64 0) → xs = ys := by
    intro xs
    induction xs with
    | nil =>
      intro ys hx hy m n h
      cases ys with
      | nil => rfl
      | cons y ys =>
        cases m with
        | zero => simp at h
        | succ m =>
          simp [List.replicate_succ] at h
          have := hy y (by simp)
          omega
    | cons x xs ih =>
      intro ys hx hy m n h
      cases ys with
      | nil =>
        cases n with
        | zero => simp at h
        | succ n =>
          simp [List.replicate_succ] at h
          have := hx x (by simp)
          omega
      | cons y ys =>
        simp only [List.map_cons, List.cons_append, List.cons.injEq, Value.int.injEq, true_and] at h
        rw [show x = y by omega, ih ys (fun z hz => hx z (by simp [hz])) (fun z hz => hy z (by simp [hz])) m n h.2]
  exact key xs ys hx hy _ _ h

theorem ten_of {l : List Int} (h : l.length = 10) : ∃ a0 a1 a2 a3 a4 a5 a6 a7 a8 a9, l = [a0, a1, a2, a3, a4, a5, a6, a7, a8, a9] := by
  rcases l with _ | ⟨a0, _ | ⟨a1, _ | ⟨a2, _ | ⟨a3, _ | ⟨a4, _ | ⟨a5, _ | ⟨a6, _ | ⟨a7, _ | ⟨a8, _ | ⟨a9, _ | ⟨b, l⟩⟩⟩⟩⟩⟩⟩⟩⟩⟩⟩ <;> simp at h
  exact ⟨a0, a1, a2, a3, a4, a5, a6, a7, a8, a9, rfl⟩

theorem keyCells_ints {xs : List Int} (h : xs.length ≤ 10) : ∃ a0 a1 a2 a3 a4 a5 a6 a7 a8 a9 : Int, keyCells xs = [.int .i64 a0, .int .i64 a1, .int .i64 a2, .int .i64 a3, .int .i64 a4, .int .i64 a5, .int .i64 a6, .int .i64 a7, .int .i64 a8, .int .i64 a9] ∧
    ∀ a ∈ [a0, a1, a2, a3, a4, a5, a6, a7, a8, a9], a = 0 ∨ ∃ z ∈ xs, a = z + 1 := by
  have hk : keyCells xs = (xs.map (· + 1) ++ List.replicate (10 - xs.length) 0).map (Value.int .i64) := by
    unfold keyCells; simp [List.map_replicate, Function.comp_def]
  obtain ⟨a0, a1, a2, a3, a4, a5, a6, a7, a8, a9, hl⟩ := ten_of (l := xs.map (· + 1) ++ List.replicate (10 - xs.length) 0) (by simp; omega)
  refine ⟨a0, a1, a2, a3, a4, a5, a6, a7, a8, a9, by rw [hk, hl]; rfl, fun a ha => ?_⟩
  rw [← hl] at ha
  rcases List.mem_append.1 ha with ha | ha
  · obtain ⟨z, hz, rfl⟩ := List.mem_map.1 ha
    exact .inr ⟨z, hz, rfl⟩
  · exact .inl (List.eq_of_mem_replicate ha)

end Go.Lin.Wv
namespace Go.Proofs.Ytddnpooffcjhnaa
open Go Go.RowKit Go.Lin Go.Lin.Wv Go.Maps

theorem results_key {t : Tmp} {fn : Func} {tmps : Array Value} {p : Nat} {W : World} {a0 a1 a2 a3 a4 a5 a6 a7 a8 a9 : Int} (h : fn.results = #[.cell t 98]) (h1 : tmps[t]?.getD undef = .pointer (some ⟨p, 0, none⟩))
    (hc : W.heap[p]? = some (.cells #[.int .i64 a0, .int .i64 a1, .int .i64 a2, .int .i64 a3, .int .i64 a4, .int .i64 a5, .int .i64 a6, .int .i64 a7, .int .i64 a8, .int .i64 a9] 98 (0, 0))) : (results fn tmps).run Try.prog W = .ok (.agg #[.int .i64 a0, .int .i64 a1, .int .i64 a2, .int .i64 a3, .int .i64 a4, .int .i64 a5, .int .i64 a6, .int .i64 a7, .int .i64 a8, .int .i64 a9]) W := by
  have c : ∀ i, W.cell? ⟨p, i, none⟩ = (#[.int .i64 a0, .int .i64 a1, .int .i64 a2, .int .i64 a3, .int .i64 a4, .int .i64 a5, .int .i64 a6, .int .i64 a7, .int .i64 a8, .int .i64 a9] : Array Value)[i]? := fun i => cell_of_row _ _ _ _ _ _ hc
  simp [results, h, h1, go_sem, c, Try.isAgg98]

set_option maxHeartbeats 4000000 in
set_option maxRecDepth 20000 in
theorem keyOf_any (wv : Value) (xs : List Int) (w : World) (hlen : xs.length ≤ 10) (hw : ∀ z ∈ xs, 0 ≤ z ∧ z < 6) (hx : IsInts Any w wv xs) :
    Calls Try.prog 103 #[wv] w fun e w' => e = .returned (keyV xs) ∧ Grew w w' := by
  obtain ⟨va, vc, rfl, hm, hc⟩ := hx
  obtain ⟨m, hmm⟩ : ∃ m, xs.length = m := ⟨_, rfl⟩
  rw [hmm] at hm hc hlen ⊢
  have HM := hid hmm; have HC := hid hc; have HW := hid hw
  obtain ⟨W0, hW0⟩ : ∃ W0, w.alloc (.cells #[.int .i64 0, .int .i64 0, .int .i64 0, .int .i64 0, .int .i64 0, .int .i64 0, .int .i64 0, .int .i64 0, .int .i64 0, .int .i64 0] 98) = W0 := ⟨_, rfl⟩
  obtain ⟨W1, hW1⟩ : ∃ W1, W0.alloc (.cells #[.int .i64 0, .int .i64 0, .int .i64 0, .int .i64 0, .int .i64 0, .int .i64 0, .int .i64 0, .int .i64 0, .int .i64 0, .int .i64 0] 98) = W1 := ⟨_, rfl⟩
  have g0 : Grew w W0 := by rw [← hW0]; exact grew_alloc (grew_refl _) _
  have g1 : Grew W0 W1 := by rw [← hW1]; exact grew_alloc (grew_refl _) _
  have o0 : W0.heap[w.heap.size]? = some (.cells #[.int .i64 0, .int .i64 0, .int .i64 0, .int .i64 0, .int .i64 0, .int .i64 0, .int .i64 0, .int .i64 0, .int .i64 0, .int .i64 0] 98 (0, 0)) := by rw [← hW0]; exact heap_alloc_new w _
  have o1 : W1.heap[W0.heap.size]? = some (.cells #[.int .i64 0, .int .i64 0, .int .i64 0, .int .i64 0, .int .i64 0, .int .i64 0, .int .i64 0, .int .i64 0, .int .i64 0, .int .i64 0] 98 (0, 0)) := by rw [← hW1]; exact heap_alloc_new W0 _
  have hz0 := lt_of_obj o0
  have O0 := hid ((g1.block _ hz0).trans o0); have O1 := hid o1
  have G01 := hid (grew_trans g0 g1)
  have hs0 := g0.size
  clear hmm hc hw o0 o1
  go_enter Try.func103, Try.ntmps103
  go_wp2
  go_loopg [4, 5, 8] m (fun k _ _ i wr => ∃ j : Nat, j ≤ m ∧ i = .int .i64 j ∧ k = m - j ∧ Hid (wr.heap[W0.heap.size]? = some (.cells (keyCells (xs.take j)).toArray 98 (0, 0))) ∧ Hid (Keeps (fun k _ => k = W0.heap.size) W1 wr))
  case atStart => exact ⟨0, by omega, rfl, rfl, O1, hid (Keeps.refl _ _)⟩
  case round =>
    obtain ⟨j, hj, rfl, hk, HO, HG⟩ := hrel
    have HK := hid hk; clear hk
    rename World => wr
    by_cases hlt : j < m
    · obtain ⟨b, off, o, hva, hob, -, hcc⟩ := HC.out j hlt
      subst hva
      have hbl := lt_of_obj hob
      have hob2 := HG.out.obj _ _ ((G01.out.block _ hbl).trans hob) (by omega)
      have hcw := cell_of_obj hob hob2 hcc
      have hbw := lt_of_obj hob2
      have hjx : j < xs.length := by rw [HM.out]; exact hlt
      obtain ⟨h0, h6⟩ := HW.out (nth xs j) (by rw [nth_lt hjx]; exact List.getElem_mem _)
      have hset := keyCells_succ hjx (by rw [HM.out]; exact hlen)
      obtain ⟨y, hy⟩ : ∃ y, nth xs j = y := ⟨_, rfl⟩
      rw [hy] at hset h0 h6
      replace hcw : wr.cell? ⟨b, off + j, none⟩ = some (Value.int .i64 (nth xs j)) := hcw
      rw [hy] at hcw
      have hwr : IntKind.i64.wrap (y + 1) = y + 1 := IntWalk.i64_in _ (by omega)
      have hkl := keyCells_length (xs := xs.take j) (by rw [List.length_take]; omega)
      have hcj : wr.cell? ⟨W0.heap.size, j, none⟩ = some ((keyCells (xs.take j))[j]'(by omega)) := by
        rw [cell_of_row _ _ _ _ _ _ HO.out]; simp
      have hfj := frozen_obj HO.out j
      have hj0 : (0 : Int) ≤ (j : Int) := by omega
      have hj10 : (j : Int) < 10 := by omega
      have hzl := lt_of_obj HO.out
      have HSET := hid hset
      clear hob hob2 hcc hy hset h0 h6
      go_wp2
      go_roundg (m - (j + 1))
      case measure => have := HK.out; omega
      case rel =>
        refine ⟨j + 1, by omega, by go_num, rfl, hid ?_, hid (HG.out.trans ?_)⟩
        · rw [heap_setCell_same _ _ _ _ _ _ HO.out, List.setIfInBounds_toArray, HSET.out]
        · exact ⟨rfl, rfl, rfl, by simp, fun k o h hn => by rw [heap_setCell_other _ _ _ _ hn]; exact h⟩
    · obtain rfl : m = j := by omega
      have ho := HO.out
      rw [List.take_of_length_le (by rw [HM.out]; exact Nat.le_refl _)] at ho
      obtain ⟨a0, a1, a2, a3, a4, a5, a6, a7, a8, a9, hl, -⟩ := keyCells_ints (xs := xs) (by rw [HM.out]; exact hlen)
      have HV := hid (show keyV xs = .agg #[.int .i64 a0, .int .i64 a1, .int .i64 a2, .int .i64 a3, .int .i64 a4, .int .i64 a5, .int .i64 a6, .int .i64 a7, .int .i64 a8, .int .i64 a9] by unfold keyV; rw [hl])
      rw [hl] at ho
      have c : ∀ i, wr.cell? ⟨W0.heap.size, i, none⟩ = (#[.int .i64 a0, .int .i64 a1, .int .i64 a2, .int .i64 a3, .int .i64 a4, .int .i64 a5, .int .i64 a6, .int .i64 a7, .int .i64 a8, .int .i64 a9] : Array Value)[i]? := fun i => cell_of_row _ _ _ _ _ _ ho
      have d0 := c 0; have d1 := c 1; have d2 := c 2; have d3 := c 3; have d4 := c 4; have d5 := c 5; have d6 := c 6; have d7 := c 7; have d8 := c 8; have d9 := c 9
      simp only [List.getElem?_toArray, List.getElem?_cons_zero, List.getElem?_cons_succ] at d0 d1 d2 d3 d4 d5 d6 d7 d8 d9
      have ho2 := HG.out.obj _ _ O0.out (by omega)
      have HO2 := hid ho2
      have e : ∀ i, wr.cell? ⟨w.heap.size, i, none⟩ = _ := fun i => cell_of_row _ _ _ _ _ _ ho2
      have e0 := e 0; have e1 := e 1; have e2 := e 2; have e3 := e 3; have e4 := e 4; have e5 := e 5; have e6 := e 6; have e7 := e 7; have e8 := e 8; have e9 := e 9
      simp only [List.getElem?_toArray, List.getElem?_cons_zero, List.getElem?_cons_succ] at e0 e1 e2 e3 e4 e5 e6 e7 e8 e9
      have fz : ∀ i, wr.frozen? ⟨w.heap.size, i, none⟩ = false := fun i => frozen_obj ho2 i
      clear c e ho ho2 hl HO
      go_wp2
      have hset : ∀ (W : World) (c : Array Value) (i : Nat) (v : Value), W.heap[w.heap.size]? = some (.cells c 98 (0, 0)) → (W.setCell ⟨w.heap.size, i, none⟩ v).heap[w.heap.size]? = some (.cells (c.setIfInBounds i v) 98 (0, 0)) := fun W c i v h => heap_setCell_same _ _ _ _ _ _ h
      have q0 := hset _ _ 0 (.int .i64 a0) HO2.out
      have q1 := hset _ _ 1 (.int .i64 a1) q0
      have q2 := hset _ _ 2 (.int .i64 a2) q1
      have q3 := hset _ _ 3 (.int .i64 a3) q2
      have q4 := hset _ _ 4 (.int .i64 a4) q3
      have q5 := hset _ _ 5 (.int .i64 a5) q4
      have q6 := hset _ _ 6 (.int .i64 a6) q5
      have q7 := hset _ _ 7 (.int .i64 a7) q6
      have q8 := hset _ _ 8 (.int .i64 a8) q7
      have q9 := hset _ _ 9 (.int .i64 a9) q8
      simp only [List.setIfInBounds_toArray, List.set_cons_zero, List.set_cons_succ] at q9
      have Q9 := hid q9
      clear q0 q1 q2 q3 q4 q5 q6 q7 q8 q9
      refine ⟨rfl, _, results_key rfl rfl Q9.out, by rw [HV.out], ?_⟩
      have hs : ∀ (W : World) (i : Nat) (v : Value), Keeps (fun k _ => k = W0.heap.size ∨ k = w.heap.size) W (W.setCell ⟨w.heap.size, i, none⟩ v) := fun W i v => ⟨rfl, rfl, rfl, by simp, fun k o h hn => by rw [heap_setCell_other _ _ _ _ (fun e => hn (.inr e))]; exact h⟩
      have hk := (HG.out.mono (may' := fun k _ => k = W0.heap.size ∨ k = w.heap.size) (fun k o e => .inl e)).trans ((((((((((hs _ 0 (.int .i64 a0)).trans (hs _ 1 (.int .i64 a1))).trans (hs _ 2 (.int .i64 a2))).trans (hs _ 3 (.int .i64 a3))).trans (hs _ 4 (.int .i64 a4))).trans (hs _ 5 (.int .i64 a5))).trans (hs _ 6 (.int .i64 a6))).trans (hs _ 7 (.int .i64 a7))).trans (hs _ 8 (.int .i64 a8))).trans (hs _ 9 (.int .i64 a9)))
      exact G01.out.trans (hk.below G01.out.size (fun k o e => by omega))

end Go.Proofs.Ytddnpooffcjhnaa
