/- Walks: what starts returns is ranged over: the first letters, in order, each with what is left. Walk: first, of the program. Walk: keyOf; words as keys of a map. Words as keys of a map; what the known sizes say. Walk: size. Walk: size. Walks: Size, Awake. Walks of the reference: Valid, asked. Walks of the reference: asked, limited; what exported functions answer. Walks of the program: rest, formed. What exported functions answer: Joined, Begins, Rest, First, of the program and of the reference. -/
import Derived.Test.YtmohnddglmolgaaGreatDoorKwA
import Derived.Test.YtmohnddglmolgaaGreatDoorWvM
import Derived.Test.YtmohnddglmolgaaGreatDoorRangeSepM
import Derived.RangeFuncNested
import Derived.Shelf.Abstract
import Derived.Shelf.RegionOpen
import Derived.TacticsInMore
import Derived.LoopNIn
import Derived.LoopIn
import Derived.Sort.LoopGhostIn
import Derived.Test.YtmohnddglmolgaaGreatDoorInLaws
import Derived.Test.YtmohnddglmolgaaGreatDoorOMaps
import Derived.Test.YtmohnddglmolgaaGreatDoorRoundHeld
import Derived.Stop.BytesEq
namespace Go.Lin.Wv

/-- A letter, and the slice of what is left. -/
abbrev SX := Int × Value
def encS (x : SX) : Array Value := #[.int .i64 x.1, x.2]

/-- Cells of ints. -/
def IntCells (_ : Nat) (o : Obj) : Prop := ∃ c fr, o = .cells c 3 fr

theorem free_pos {D : Int → Int → Bool} {j : Int} {w : List Int} {i : Nat} (h : free D w j = some i) : rem D w j = w.eraseIdx i := by unfold rem; rw [h]

theorem starts_prefix {D : Int → Int → Bool} {w : List Int} {j : Nat} : ∀ {n : Nat}, j ≤ n → ∃ t, starts D n w = starts D j w ++ t
  | 0, h => ⟨[], by obtain rfl : j = 0 := by omega
                    simp⟩
  | n + 1, h => by
    by_cases he : j = n + 1
    · subst he; exact ⟨[], by simp⟩
    · obtain ⟨t, ht⟩ := starts_prefix (D := D) (w := w) (j := j) (n := n) (by omega)
      rw [starts_succ, ht]
      split
      · exact ⟨t ++ [(n : Int)], by simp⟩
      · exact ⟨t, rfl⟩

theorem starts_split {D : Int → Int → Bool} {n a : Nat} {w : List Int} {i : Nat} (ha : a < n) (hf : free D w a = some i) : starts D n w = starts D a w ++ (a : Int) :: (starts D n w).drop ((starts D a w).length + 1) := by
  obtain ⟨t, ht⟩ := starts_prefix (D := D) (w := w) (j := a + 1) (n := n) (by omega)
  have h2 : starts D (a + 1) w = starts D a w ++ [(a : Int)] := by rw [starts_succ, hf]; rfl
  rw [ht, h2]
  have : (starts D a w ++ [(a : Int)] ++ t).drop ((starts D a w).length + 1) = t := by
    rw [List.drop_append_of_le_length (by simp)]
    simp
  rw [this]
  simp

end Go.Lin.Wv
namespace Go.Proofs.YtmohnddglmolgaaGreatDoor.Kw
open Go Go.RowKit Go.Lin Go.Lin.Wv Go.Maps
attribute [local go_sem] Oper.semAt_some

theorem cell_keeps {w w' : World} {may : Nat → Obj → Prop} (hk : Keeps may w w') {b o : Nat} {v : Value} (hm : ∀ x, w.heap[b]? = some x → ¬ may b x) (h : w.cell? ⟨b, o, none⟩ = some v) : w'.cell? ⟨b, o, none⟩ = some v := by
  have hlt := World.block_lt_of_cell? w _ h
  simp only at hlt
  have ho : w.heap[b]? = some w.heap[b] := Array.getElem?_eq_getElem hlt
  exact cell_of_obj ho (hk.obj _ _ ho (hm _ ho)) h

theorem Loom.keeps {w w' : World} {B : Nat} {D : Int → Int → Bool} {N : Nat} {may : Nat → Obj → Prop} (h : Loom w B D N) (hk : Keeps may w w') (hm : ∀ x, w.heap[B]? = some x → ¬ may B x) : Loom w' B D N :=
  ⟨Nat.lt_of_lt_of_le h.lt hk.size, cell_keeps hk hm h.c0, fun a b ha hb => cell_keeps hk hm (h.cs a b ha hb)⟩

theorem fn100 : Fence.wide.fn 180 := trivial
theorem skip_fn {f : FuncId} (hf : Fence.wide.fn f) {K : Act → World → Prop} {a : Act} {w : World} (h : K a w) : Fence.wide.fn f ∧ K a w := ⟨hf, h⟩
theorem skip_none {K : Act → World → Prop} {a : Act} {w : World} (h : K a w) : (∀ f, (none : Option FuncId) = some f → Fence.wide.fn f) ∧ K a w := ⟨fun _ h => (by cases h), h⟩

/-- What is told of x when it is handed over behind pre. -/
structure HasS (n₀ : Nat) (D : Int → Int → Bool) (N : Nat) (xs : List Int) (pre : List SX) (x : SX) (W : World) : Prop where
  mem : x.1 ∈ starts D N xs
  at' : starts D N xs = pre.map (·.1) ++ x.1 :: (starts D N xs).drop (pre.length + 1)
  left : WdOff (fun k o => IntCells k o ∧ n₀ ≤ k) W x.2 (rem D xs x.1)

theorem HasS.keeps {n₀ : Nat} {D : Int → Int → Bool} {N : Nat} {xs : List Int} {pre : List SX} {x : SX} {W W' : World} {may : Nat → Obj → Prop} (h : HasS n₀ D N xs pre x W) (hk : Keeps may W W') (hm : ∀ k c fr, ¬ may k (.cells c 3 fr)) : HasS n₀ D N xs pre x W' :=
  ⟨h.mem, h.at', h.left.keeps hk (fun k _ ⟨⟨c, fr, ho⟩, _⟩ hmm => hm k c fr (ho ▸ hmm))⟩

theorem wdOff_of_seg {w : World} {base : Nat} {v : Value} {n : Nat} {xs : List Int} (h : Seg w base 3 1 v n (xs.map (.int .i64))) : WdOff (fun k o => IntCells k o ∧ base ≤ k) w v xs := by
  obtain ⟨a, c, h1, h2, _⟩ := IsWd.of_seg h
  exact ⟨⟨a, c, h1, h2⟩, Reads.mono h.isInts (fun _ o h => let ⟨hb, cur, ho⟩ := h; ⟨⟨cur, _, ho⟩, hb⟩)⟩

set_option maxHeartbeats 4000000 in
set_option maxRecDepth 100000 in
theorem starts_stops (D : Int → Int → Bool) (B N : Nat) (xs : List Int) (c1 c2 : Nat) (wv : Value) (w : World) (nf : Nat) (hnf : 3 ≤ nf) (hN : N ≤ 6) (hw : ∀ z ∈ xs, 0 ≤ z ∧ z < (N : Int)) (hlen : xs.length ≤ 100) (hL : Loom w B D N)
    (h1 : w.cell? ⟨c1, 0, none⟩ = some (.pointer (some ⟨B, 0, none⟩))) (h2 : w.cell? ⟨c2, 0, none⟩ = some wv) (may : Nat → Obj → Prop) (hmB : ∀ x, w.heap[B]? = some x → ¬ may B x) (hm1 : ∀ x, w.heap[c1]? = some x → ¬ may c1 x) (hm2 : ∀ x, w.heap[c2]? = some x → ¬ may c2 x) (hx : WdOff (fun k o => ¬ may k o) w wv xs) :
    SeqT Fence.wide nf Tryz.prog 178 #[] #[.pointer (some ⟨c1, 0, none⟩), .pointer (some ⟨c2, 0, none⟩)] encS may (HasS w.heap.size D N xs) (fun ys => ys.map (·.1) = starts D N xs) w := by
  intro l J Jx W hgW hJ hY h0
  have hz1 := World.block_lt_of_cell? w _ h1
  have hz2 := World.block_lt_of_cell? w _ h2
  simp only at hz1 hz2
  have HJ := hid hJ; have HY := hid hY; have HL := hid hL; have HX := hid hx; have HW := hid hw
  have HJ0 := hid h0
  have HWS := hgW.size
  have kB := (hgW.cell (p := ⟨B, 0, none⟩) hL.lt).trans hL.c0
  have k1 := (hgW.cell (p := ⟨c1, 0, none⟩) hz1).trans h1
  have k2 := (hgW.cell (p := ⟨c2, 0, none⟩) hz2).trans h2
  have hBl := hL.lt
  clear hJ hY hL hx hw h0
  have hn1 : 1 ≤ nf := by omega
  refine callsIn_of_wp Tryz.func178 rfl trivial ?_ rfl
  simp only [Tryz.ntmps178, List.size_toArray, List.length_cons, List.length_nil, Nat.reduceAdd, Nat.reduceSub, Array.replicate_succ, Array.replicate_zero, List.push_toArray, List.append_toArray, List.nil_append, List.cons_append]
  gi_wp2
  gi_loopg [4, 5, 10] N (fun g _ _ i wr => ∃ (a : Nat) (pre : List SX) (T : Nat → Prop), a ≤ N ∧ i = .int .i64 (a : Int) ∧ Hid (g = N - a) ∧ Hid (J pre T wr) ∧ Hid (Keeps (fun k o => may k o) w wr) ∧ Hid (∀ k, T k → w.heap.size ≤ k ∧ k < wr.heap.size) ∧ Hid (pre.map (·.1) = starts D a xs))
  case atStart => exact ⟨0, [], _, by omega, rfl, hid rfl, HJ0, hid hgW.keeps, hid (fun k h => h.elim), hid rfl⟩
  case round =>
    clear HJ0
    obtain ⟨a, pre, T, ha, rfl, HG, HJd, HB, HT, HP⟩ := hrel
    rename World => wr
    have hs := HB.out.size
    have kB' := (HL.out.keeps HB.out hmB).c0
    have k1' := cell_keeps HB.out hm1 h1
    have k2' := cell_keeps HB.out hm2 h2
    by_cases hlt : a < N
    · have hst := start_any B N a wv xs wr hN hlt HW.out (HL.out.keeps HB.out hmB) (HX.out.keeps HB.out (fun _ _ h hn => h hn)).wd.ints
      cases hf : free D xs a with
      | none =>
        rw [hf] at hst
        rw [show ix none = -1 from rfl] at hst
        have HST := hid hst
        have HSU := hid (show starts D (a + 1) xs = starts D a xs by rw [starts_succ, hf]; rfl)
        clear hst hf
        gi_wp2_with (first | (refine ⟨trivial, ?_⟩; gi_at_call 179; refine (callsIn_wide.2 HST.out).mono ?_; rintro e w1 ⟨rfl, hx1⟩; have HX1 := hid hx1; clear hx1) | (with_reducible refine skip_fn fn100 ?_) | (with_reducible refine skip_none ?_))
        gi_roundg (N - (a + 1))
        case measure => have := HG.out; omega
        case rel =>
          exact ⟨a + 1, pre, T, by omega, by go_num, hid rfl, hid (HJ.out _ _ _ _ HJd.out HX1.out.keeps _ (fun k h => ⟨.inl h, by have := HT.out k h; have := HX1.out.size; omega⟩)), hid (HB.out.trans HX1.out.keeps), hid (fun k h => by have := HT.out k h; have := HX1.out.size; omega), hid (by rw [HSU.out]; exact HP.out)⟩
      | some i =>
        rw [hf] at hst
        rw [show ix (some i) = (i : Int) from rfl] at hst
        have HST := hid hst
        obtain ⟨hil, _⟩ := free_lt hf
        have hmem : (a : Int) ∈ starts D N xs := mem_starts.2 ⟨by omega, by rw [hf]; rfl⟩
        have HMEM := hid hmem
        have HSU := hid (show starts D (a + 1) xs = starts D a xs ++ [(a : Int)] by rw [starts_succ, hf]; rfl)
        have HREM := hid (free_pos hf)
        have HAT := hid (show starts D N xs = pre.map (·.1) ++ (a : Int) :: (starts D N xs).drop (pre.length + 1) by
          have hpl : pre.length = (starts D a xs).length := by rw [← HP.out, List.length_map]
          rw [HP.out, hpl]
          exact starts_split hlt hf)
        have hi0 : (0 : Int) ≤ (i : Int) := by omega
        clear hst hf hmem
        gi_wp2_with (first
          | (refine ⟨trivial, ?_⟩; gi_at_call 179; refine (callsIn_wide.2 HST.out).mono ?_; rintro e w1 ⟨rfl, hx1⟩; have HX1 := hid hx1; have m2 := (hx1.cell (p := ⟨c2, 0, none⟩) (by show c2 < _; omega)).trans k2'; clear hx1)
          | (refine ⟨trivial, ?_⟩; gi_at_call 180; refine (callsIn_wide.2 (without_any wv xs i w1 hil hlen ((HX.out.keeps HB.out (fun _ _ h hn => h hn)).wd.grew HX1.out))).mono ?_; rintro e w2 ⟨lv, rfl, hs2, hx2⟩; have HS2 := hid hs2; have HX2 := hid (grew_trans HX1.out hx2)
             have hJ1 : J pre (fun k => T k ∨ (wr.heap.size ≤ k ∧ k < w2.heap.size)) w2 := HJ.out pre T wr w2 HJd.out HX2.out.keeps _ (fun k h => by
               rcases h with h | h
               · have := HT.out k h; have := HX2.out.size; exact ⟨.inl h, by omega⟩
               · exact ⟨.inr h.1, h.2⟩)
             have hh1 : HasS w.heap.size D N xs pre ((a : Int), lv) w2 := ⟨HMEM.out, HAT.out, by rw [HREM.out]; exact wdOff_of_seg (HS2.out.mono (by have := HX1.out.size; omega))⟩
             have hy := HY.out pre _ ((a : Int), lv) w2 hJ1 hh1
             dsimp only [encS] at hy
             obtain ⟨fn, tmps, assign, body, hy, hR⟩ := hy
             clear hs2 hx2 hJ1 hh1))
        refine hR.mono ?_
        rintro e W3 (⟨rfl, hJ3, hk3⟩ | ⟨rfl, hJx3⟩)
        · clear hy hR
          have hb3 : Keeps (fun k o => may k o) w W3 := (HB.out.trans HX2.out.keeps).trans (hk3.mono (fun k o h => h.2))
          have HB3 := hid hb3; have HJ3 := hid hJ3
          have HZ3 := hid hk3.size
          clear hb3 hJ3 hk3
          gi_wp2
          gi_roundg (N - (a + 1))
          case measure => have := HG.out; omega
          case rel =>
            refine ⟨a + 1, pre ++ [((a : Int), lv)], _, by omega, by go_num, hid rfl, HJ3, HB3, hid (fun k h => ?_), hid (by rw [HSU.out, List.map_append, HP.out]; rfl)⟩
            have := HZ3.out
            rcases h with h | h
            · have := HT.out k h; have := HX2.out.size; omega
            · omega
        · clear hy hR
          have HJX := hid hJx3
          gi_wp2
          refine bodyPost_ret (results_none rfl _ _ _) rfl ?_
          exact ⟨⟨_, rfl⟩, .inr ⟨_, _, HJX.out⟩⟩
    · obtain rfl : a = N := by omega
      gi_wp2
      go_end0
      exact ⟨⟨_, rfl⟩, .inl ⟨pre, T, HP.out, HJd.out⟩⟩

/-- starts. -/
theorem starts90_any (B : Nat) (wa : Option Addr) (wn wc : Nat) (w : World) : Calls Tryz.prog 156 #[.pointer (some ⟨B, 0, none⟩), .slice wa wn wc] w fun e w' => e = .returned (.func (.func 178) #[] #[.pointer (some ⟨w.heap.size, 0, none⟩), .pointer (some ⟨w.heap.size + 1, 0, none⟩)]) ∧ Grew w w' ∧
    w'.cell? ⟨w.heap.size, 0, none⟩ = some (.pointer (some ⟨B, 0, none⟩)) ∧ w'.cell? ⟨w.heap.size + 1, 0, none⟩ = some (.slice wa wn wc) := by
  obtain ⟨W0, hW0, g0, k0, hz⟩ := box1 w (.pointer (some ⟨B, 0, none⟩)) 191
  obtain ⟨W1, hW1, g1, k1, hz1⟩ := box1 W0 (.slice wa wn wc) 39
  have hs : W0.heap.size = w.heap.size + 1 := by rw [← hW0]; simp
  have HS := hid hs
  have HG := hid (grew_trans g0 g1)
  have HK := hid ((g1.cell (p := ⟨w.heap.size, 0, none⟩) hz).trans k0)
  have HK1 := hid k1
  clear hs
  go_enter Tryz.func156, Tryz.ntmps156
  go_wp2
  go_ret
  exact ⟨by rw [HS.out]; rfl, HG.out, HK.out, by rw [← HS.out]; exact HK1.out⟩

end Go.Proofs.YtmohnddglmolgaaGreatDoor.Kw
namespace Go.Lin
open Go Go.RowKit
variable {F : Fence} {n : Nat} {P : Program}

def markOf (D : Nat) : Deferred := { target := .collected D, args := #[] }

/-- A function leaves with marks among its deferred calls. -/
theorem leaves_marks {fn : Func} {tmps : Array Value} {R : Ending → World → Prop} (base : Nat) : ∀ (Ds : List Nat) (W : World), (∀ D ∈ Ds, base ≤ D ∧ W.heap[D]? = some (.deferred (some []))) → Ds.Nodup →
    (∀ W', Keeps (fun k o => base ≤ k ∧ o.isCells = false) W W' → ∃ v, (results fn tmps).run P W' = .ok v W' ∧ R (.returned v) W') → LeavesInM F n P fn tmps R (Ds.map markOf) .returning W
  | [], W, _, _, h => h W (Keeps.refl _ W)
  | D :: Ds, W, hD, hn, h => by
    obtain ⟨hb, ho⟩ := hD D (by simp)
    have hkp := keeps_putObj (may := fun k o => base ≤ k ∧ o.isCells = false) W (.deferred none) ho ⟨hb, rfl⟩
    refine ⟨by simp, .inl ⟨D, _, rfl, run_takeDeferred ho, leaves_marks base Ds _ (fun D' hD' => ?_) (List.nodup_cons.1 hn).2 (fun W' hk => h W' (hkp.trans hk))⟩⟩
    obtain ⟨hb', ho'⟩ := hD D' (by simp [hD'])
    have hne : D' ≠ D := fun e => (List.nodup_cons.1 hn).1 (e ▸ hD')
    exact ⟨hb', (World.putObj_heap_other hne).trans ho'⟩

end Go.Lin
namespace Go.Proofs.YtmohnddglmolgaaGreatDoor.Kw
open Go Go.RowKit Go.Lin Go.Lin.Wv Go.Maps
attribute [local go_sem] Oper.semAt_some

theorem frozen_obj {w : World} {k : Nat} {c : Array Value} {t : TypeId} (h : w.heap[k]? = some (.cells c t (0, 0))) (j : Nat) : w.frozen? ⟨k, j, none⟩ = false := by
  unfold World.frozen?
  simp only [h]
  simp

/-- The state of first: the cells of w and out, what is read there; the marks. -/
structure FSt (w0 : World) (cw co : Nat) (Ds : List Nat) (lv ov : Value) (y outs : List Int) (W : World) : Prop where
  below : Below w0.heap.size w0 W
  bw : W.heap[cw]? = some (.cells #[lv] 39 (0, 0))
  bo : W.heap[co]? = some (.cells #[ov] 39 (0, 0))
  seg : Seg W w0.heap.size 3 1 ov outs.length (outs.map (.int .i64))
  word : WdOff (fun k o => (w0.heap.size ≤ k → IntCells k o) ∧ ov.ownBlock ≠ some k) W lv y
  marks : ∀ D ∈ Ds, w0.heap.size ≤ D ∧ W.heap[D]? = some (.deferred (some []))
  nodup : Ds.Nodup

theorem FSt.grew {w0 : World} {cw co : Nat} {Ds : List Nat} {lv ov : Value} {y outs : List Int} {W W' : World} (h : FSt w0 cw co Ds lv ov y outs W) (hg : Grew W W') : FSt w0 cw co Ds lv ov y outs W' :=
  ⟨h.below.trans (hg.mono h.below.size), (hg.block _ (lt_of_obj h.bw)).trans h.bw, (hg.block _ (lt_of_obj h.bo)).trans h.bo, h.seg.grew hg, h.word.grew hg, fun D hD => ⟨(h.marks D hD).1, (hg.block _ (lt_of_obj (h.marks D hD).2)).trans (h.marks D hD).2⟩, h.nodup⟩

theorem WdOff.len {S : Nat → Obj → Prop} {w : World} {a : Option Addr} {c n : Nat} {xs : List Int} (h : WdOff S w (.slice a xs.length c) xs) (hn : xs.length = n) : WdOff S w (.slice a n c) xs := by subst hn; exact h

/-- Records of loops may turn. -/
theorem FSt.calls {w0 : World} {cw co : Nat} {Ds : List Nat} {lv ov : Value} {y outs : List Int} {W W' : World} {b : Nat} (h : FSt w0 cw co Ds lv ov y outs W) (hb : w0.heap.size ≤ b) (hk : Keeps (fun k o => b ≤ k ∧ o.isCells = false) W W') (hD : ∀ D ∈ Ds, D < b) : FSt w0 cw co Ds lv ov y outs W' :=
  ⟨h.below.trans (hk.below h.below.size (fun k o hm => by omega)), hk.obj _ _ h.bw (fun hm => by cases hm.2), hk.obj _ _ h.bo (fun hm => by cases hm.2), h.seg.keeps hk (fun k o _ ⟨cur, ho⟩ hm => by rw [ho] at hm; cases hm.2),
    h.word.keeps hk (fun k o ho hm => by obtain ⟨c, fr, ho2⟩ := ho.1 (by omega); rw [ho2] at hm; cases hm.2), fun D hm => ⟨(h.marks D hm).1, hk.obj _ _ (h.marks D hm).2 (fun hn => by have := hD D hm; omega)⟩, h.nodup⟩

theorem keeps_setCell {may : Nat → Obj → Prop} (W : World) (b : Nat) (v : Value) (hm : ∀ o, W.heap[b]? = some o → may b o) : Keeps may W (W.setCell ⟨b, 0, none⟩ v) :=
  (Keeps.refl may W).grown (grownBy_setCell' W b v) (fun k o e ho => by cases e; exact hm _ ho)

/-- A letter is taken: out is longer, w is what is left. -/
theorem FSt.step {w0 : World} {cw co : Nat} {Ds : List Nat} {lv ov : Value} {y outs : List Int} {W : World} (h : FSt w0 cw co Ds lv ov y outs W) (hne : cw ≠ co) (hcw : w0.heap.size ≤ cw) (hco : w0.heap.size ≤ co) {w4 : World} {v4 xv : Value} {a : Int} {y' : List Int} {n₀ : Nat}
    (hown : Seg w4 w0.heap.size 3 1 v4 (outs.length + 1) ((outs ++ [a]).map (.int .i64))) (hk4 : Keeps (fun k o => ov.ownBlock = some k ∧ ∃ cur, o = .cells cur 3 (0, 0)) W w4) (hblk : ∀ k, v4.ownBlock = some k → ov.ownBlock = some k ∨ W.heap.size ≤ k)
    (hleft : WdOff (fun k o => IntCells k o ∧ n₀ ≤ k) W xv y') (hn₀ : ∀ k, ov.ownBlock = some k → k < n₀) :
    FSt w0 cw co Ds xv v4 y' (outs ++ [a]) ((w4.setCell ⟨co, 0, none⟩ v4).setCell ⟨cw, 0, none⟩ xv) ∧
      Keeps (fun k o => o.isCells = true ∧ w0.heap.size ≤ k ∧ (ov.ownBlock = some k ∨ k = cw ∨ k = co)) W ((w4.setCell ⟨co, 0, none⟩ v4).setCell ⟨cw, 0, none⟩ xv) := by
  have o1 : w4.heap[co]? = some (.cells #[ov] 39 (0, 0)) := hk4.obj _ _ h.bo (fun ⟨_, cur, e⟩ => by cases e)
  have o2 : w4.heap[cw]? = some (.cells #[lv] 39 (0, 0)) := hk4.obj _ _ h.bw (fun ⟨_, cur, e⟩ => by cases e)
  have o3 : (w4.setCell ⟨co, 0, none⟩ v4).heap[co]? = some (.cells #[v4] 39 (0, 0)) := by rw [heap_setCell_same _ _ _ _ _ _ o1]; rfl
  have o4 : (w4.setCell ⟨co, 0, none⟩ v4).heap[cw]? = some (.cells #[lv] 39 (0, 0)) := by rw [heap_setCell_other _ _ _ _ hne]; exact o2
  have k1 : Keeps (fun k o => (k = cw ∨ k = co) ∧ ∃ c, o = .cells c 39 (0, 0)) w4 (w4.setCell ⟨co, 0, none⟩ v4) := keeps_setCell _ _ _ (fun o ho => by rw [o1] at ho; cases ho; exact ⟨.inr rfl, _, rfl⟩)
  have k2 : Keeps (fun k o => (k = cw ∨ k = co) ∧ ∃ c, o = .cells c 39 (0, 0)) (w4.setCell ⟨co, 0, none⟩ v4) ((w4.setCell ⟨co, 0, none⟩ v4).setCell ⟨cw, 0, none⟩ xv) := keeps_setCell _ _ _ (fun o ho => by rw [o4] at ho; cases ho; exact ⟨.inl rfl, _, rfl⟩)
  have k12 := k1.trans k2
  have hown' := fun k hk => (h.seg.own k hk).1
  have hall : Keeps (fun k o => o.isCells = true ∧ w0.heap.size ≤ k ∧ (ov.ownBlock = some k ∨ k = cw ∨ k = co)) W ((w4.setCell ⟨co, 0, none⟩ v4).setCell ⟨cw, 0, none⟩ xv) :=
    (hk4.mono (fun k o hm => ⟨by obtain ⟨_, cur, rfl⟩ := hm; rfl, hown' k hm.1, .inl hm.1⟩)).trans (k12.mono (fun k o hm => ⟨by obtain ⟨_, c, rfl⟩ := hm; rfl, by rcases hm.1 with rfl | rfl <;> assumption, .inr hm.1⟩))
  refine ⟨⟨h.below.trans (hall.below h.below.size (fun k o hm => hm.2.1)), ?_, ?_, ?_, ?_, fun D hD => ⟨(h.marks D hD).1, hall.obj _ _ (h.marks D hD).2 (fun hm => by cases hm.1)⟩, h.nodup⟩, hall⟩
  · rw [heap_setCell_same _ _ _ _ _ _ o4]; rfl
  · rw [heap_setCell_other _ _ _ _ (Ne.symm hne)]; exact o3
  · rw [show (outs ++ [a]).length = outs.length + 1 by simp]
    exact hown.keeps k12 (fun k o _ ⟨cur, ho⟩ ⟨_, c, e⟩ => by rw [ho] at e; cases e)
  · refine WdOff.re (S := fun k o => (IntCells k o ∧ n₀ ≤ k) ∧ k < W.heap.size) ?_ (fun k o _ hk => ⟨fun _ => hk.1.1, fun e => ?_⟩)
    · refine WdOff.keeps ?_ k12 (fun k o hk hm => by obtain ⟨⟨⟨c, fr, ho⟩, _⟩, _⟩ := hk; obtain ⟨_, c', e⟩ := hm; rw [ho] at e; cases e)
      refine WdOff.keeps ?_ hk4 (fun k o hk hm => by have := hn₀ k hm.1; have := hk.1.2; omega)
      exact hleft.re (fun k o ho hk => ⟨hk, lt_of_obj ho⟩)
    · rcases hblk k e with h2 | h2
      · have := hn₀ k h2; have := hk.1.2; omega
      · have := hk.2; omega

set_option maxHeartbeats 8000000 in
set_option maxRecDepth 100000 in
theorem first_any (D : Int → Int → Bool) (B N : Nat) (xs : List Int) (wv : Value) (w : World) (hN : N ≤ 6) (hw : ∀ z ∈ xs, 0 ≤ z ∧ z < (N : Int)) (hlen : xs.length ≤ 100) (hL : Loom w B D N) (hx : IsWd w wv xs) :
    Calls Tryz.prog 130 #[.pointer (some ⟨B, 0, none⟩), wv] w fun e w' => ∃ u, e = .returned u ∧ Seg w' w.heap.size 3 1 u (first D N xs).length ((first D N xs).map (.int .i64)) ∧ Grew w w' := by
  obtain ⟨F, hF⟩ : ∃ F, first D N xs = F := ⟨_, rfl⟩
  rw [hF]
  obtain ⟨xa, xc, rfl, hxc, hxi⟩ := hx
  have HW := hid hw; have HL := hid hL
  have HF := hid (show F = [] ++ firstN D N xs.length xs from by rw [← hF]; rfl)
  obtain ⟨W0, hW0, g0, k0, hz⟩ := box1 w (.slice xa xs.length xc) 39
  obtain ⟨W1, hW1, g1, k1, hz1⟩ := box1 W0 (.slice none 0 0) 39
  have ow : W1.heap[w.heap.size]? = some (.cells #[.slice xa xs.length xc] 39 (0, 0)) := (g1.block _ hz).trans (by rw [← hW0]; exact heap_alloc_new w _)
  have oo : W1.heap[W0.heap.size]? = some (.cells #[.slice none 0 0] 39 (0, 0)) := by rw [← hW1]; exact heap_alloc_new W0 _
  have g01 := grew_trans g0 g1
  have hcc : w.heap.size ≠ W0.heap.size := by omega
  have hst : FSt w w.heap.size W0.heap.size [] (.slice xa xs.length xc) (.slice none 0 0) xs [] W1 := by
    refine ⟨g01, ow, oo, Seg.nil _ _ _ _, ?_, fun D h => (by cases h), List.nodup_nil⟩
    refine WdOff.re (S := fun k _ => k < w.heap.size) ?_ (fun k o _ hk => ⟨fun h => by omega, by simp [Value.ownBlock]⟩)
    refine WdOff.grew ?_ g01
    refine ⟨⟨xa, xc, rfl, hxc⟩, ?_⟩
    obtain ⟨a, c, h1, h2, h3⟩ := hxi
    exact ⟨a, c, h1, h2, fun i hi => by
      obtain ⟨b, off, o, e1, e2, _, e4⟩ := h3 i hi
      exact ⟨b, off, o, e1, e2, lt_of_obj e2, e4⟩⟩
  have HST := hid hst
  have HG01 := hid g01
  have hw0 : w.heap.size < W1.heap.size := by omega
  have hw1 : W0.heap.size < W1.heap.size := hz1
  have hww : w.heap.size ≤ W0.heap.size := g0.size
  obtain ⟨cw, hcw⟩ : ∃ c, w.heap.size = c := ⟨_, rfl⟩
  obtain ⟨co, hco⟩ : ∃ c, W0.heap.size = c := ⟨_, rfl⟩
  obtain ⟨m, hm⟩ : ∃ m, xs.length = m := ⟨_, rfl⟩
  have HM := hid hm
  rw [hm] at hW0 hlen ⊢
  clear hst ow oo k0 k1 hF hw hL hxi hm hxc
  refine (callsIn_wide (n := 9)).1 ?_
  refine callsIn_of_wp_marks Tryz.func130 rfl trivial ?_ rfl
  simp only [Tryz.ntmps130, List.size_toArray, List.length_cons, List.length_nil, Nat.reduceAdd, Nat.reduceSub, Array.replicate_succ, Array.replicate_zero, List.push_toArray, List.append_toArray, List.nil_append, List.cons_append]
  gi_wp2
  have HCW := hid hcw
  rw [hcw] at hcc hw0 hww
  rw [hco] at hcc hw1 hww
  have hst := HST.out
  rw [hcw, hco] at hst
  have HST := hid hst
  clear hst hcw hco hW0 hW1 g0 g1 hz hz1 g01
  refine wpIn_loop_ghost_k (fun k a' w' => ∃ u8 u9 u10 u11 u12 u13 : Value, ∃ (Ds : List Nat) (lv ov : Value) (y outs : List Int), (k = y.length ∧ y.length ≤ 100 ∧ Hid (∀ z ∈ y, 0 ≤ z ∧ z < (N : Int)) ∧ Hid (F = outs ++ firstN D N y.length y) ∧ outs.length + y.length = m ∧ Hid (FSt w cw co Ds lv ov y outs w') ∧ W1.heap.size ≤ w'.heap.size) ∧
    a' = { tmps := #[.pointer (some ⟨B, 0, none⟩), .slice xa m xc, undef, .pointer (some ⟨cw, 0, none⟩), .slice none 0 0, .pointer (some ⟨co, 0, none⟩), undef, undef, u8, u9, u10, u11, u12, u13, undef, undef, undef, undef, undef, undef, undef, undef], defers := Ds.map markOf }) m ?start ?round
  case start => exact ⟨_, _, _, _, _, _, [], _, _, xs, [], ⟨HM.out.symm, by rw [HM.out]; exact hlen, HW, HF, by rw [HM.out]; simp, HST, Nat.le_refl _⟩, rfl⟩
  case round =>
    rintro gk a' wr ⟨u8, u9, u10, u11, u12, u13, Ds, lv, ov, y, outs, ⟨hk, hy, HWY, HFY, hsum, HS, hsz⟩, rfl⟩ J K hJ hK
    have HK := hid hk; clear hk
    have ow := HS.out.bw
    have oo := HS.out.bo
    have cw0 : wr.cell? ⟨cw, 0, none⟩ = some lv := cell_of_row _ _ _ _ _ _ ow
    have co0 : wr.cell? ⟨co, 0, none⟩ = some ov := cell_of_row _ _ _ _ _ _ oo
    obtain ⟨⟨la, lc, rfl, hlc⟩, -⟩ := HS.out.word
    obtain ⟨n, hn⟩ : ∃ n, y.length = n := ⟨_, rfl⟩
    rw [hn] at cw0
    by_cases hn0 : 0 < n
    · have hne : y ≠ [] := by intro e; rw [e] at hn; simp at hn; omega
      have hs90 := starts90_any B la n lc wr
      have HS90 := hid hs90
      have HN := hid hn
      have HNE := hid hne
      clear ow oo hs90 hlc hn hne
      gi_wp2_with (refine ⟨trivial, ?_⟩; gi_at_call 156; refine (callsIn_wide.2 HS90.out).mono ?_; rintro e w1 ⟨rfl, hx1, hb1, hb2⟩; have HX1 := hid hx1; have HB1 := hid hb1; have HB2 := hid hb2; clear hx1 hb1 hb2)
      have hs1 := HX1.out.size
      have hS1 := HS.out.grew HX1.out
      have HS1 := hid hS1
      have HL1 := hid (HL.out.grew hS1.below)
      have hseq := starts_stops D B N y wr.heap.size (wr.heap.size + 1) (.slice la n lc) w1 8 (by decide) hN HWY.out hy HL1.out HB1.out HB2.out (fun k _ => w1.heap.size ≤ k) (fun _ _ h => by have := HL1.out.lt; omega) (fun _ h h2 => by have := lt_of_obj h; omega) (fun _ h h2 => by have := lt_of_obj h; omega)
        ((hS1.word.wd.off.re (fun k o ho _ h => by have := lt_of_obj ho; omega)).len HN.out)
      have HSEQ := hid hseq
      have HW1 := hid (show w.heap.size ≤ w1.heap.size by have := hS1.below.size; omega)
      have hwl : cw < w1.heap.size := lt_of_obj hS1.bw
      have hol : co < w1.heap.size := lt_of_obj hS1.bo
      have HOV := hid (show ∀ k, ov.ownBlock = some k → k < w1.heap.size from fun k hk => (hS1.seg.own k hk).2.1)
      have HMK := hid (show ∀ D ∈ Ds, D < w1.heap.size from fun D hD => lt_of_obj (hS1.marks D hD).2)
      have HWC := hid (show w.heap.size ≤ cw ∧ w.heap.size ≤ co by rw [HCW.out]; omega)
      clear hseq hS1
      refine wpIn_rangeFunc_sep (P := Tryz.prog) rfl (by decide) (gf := 178) (fa := #[]) rfl trivial (enters_of Tryz.func178 (by kernel_rfl) rfl) HSEQ.out (grew_refl w1) (fun _ _ h => h) (fun _ => rfl)
        (fun pre T W => pre = [] ∧ Grew w1 W ∧ ∀ k, T k → w1.heap.size ≤ k)
        (fun c _ W => c = .exit 2 ∧ w1.heap.size ≤ W.heap.size ∧ ∃ a l lv' ov', starts D N y = a :: l ∧ FSt w cw co Ds lv' ov' (rem D y a) (outs ++ [a]) W)
        ?hI ?hIx ?hHas ⟨rfl, grew_refl _, fun k h => h.elim⟩
        (fun x => { tmps := #[.pointer (some ⟨B, 0, none⟩), .slice xa m xc, undef, .pointer (some ⟨cw, 0, none⟩), .slice none 0 0, .pointer (some ⟨co, 0, none⟩), .int .i64 x.1, x.2, .slice la n lc, .int .i64 (n : Int), .bool true, .pointer (some ⟨B, 0, none⟩), .slice la n lc, .func (.func 178) #[] #[.pointer (some ⟨wr.heap.size, 0, none⟩), .pointer (some ⟨wr.heap.size + 1, 0, none⟩)], .int .i64 x.1, x.2, undef, undef, undef, undef, undef, undef], defers := [] })
        ?assign ?body ?done ?stop
      case hI =>
        rintro pre T W W' ⟨rfl, hg, hT⟩ hk T' hT'
        refine ⟨rfl, hg.trans (hk.below hg.size (fun k o h => h.elim (hT k) (fun h => h.1))), fun k h => ?_⟩
        rcases hT' k h with h | h
        · exact hT k h
        · have := hg.size; omega
      case hIx =>
        rintro c pre W W' ⟨rfl, hz, a, l, lv', ov', h1, h2⟩ hk
        exact ⟨rfl, Nat.le_trans hz hk.size, a, l, lv', ov', h1, h2.calls HW1.out hk HMK.out⟩
      case hHas =>
        rintro pre x W W' hh hk
        exact hh.keeps hk (fun k c fr hm => by cases hm.2.2)
      case assign =>
        rintro l ⟨xa, xv⟩ W K hK
        dsimp only [encS]
        gi_wp2
        exact hK
      case body =>
        rintro l pre T ⟨a, xv⟩ W ⟨rfl, hg, hT0⟩ hh hT hlt
        have hat := hh.at'
        have hleft := hh.left
        have hS := HS1.out.grew hg
        have ow := hS.bw
        have oo := hS.bo
        have cw0 : W.cell? ⟨cw, 0, none⟩ = some (.slice la y.length lc) := cell_of_row _ _ _ _ _ _ ow
        rw [HN.out] at cw0
        have co0 : W.cell? ⟨co, 0, none⟩ = some ov := cell_of_row _ _ _ _ _ _ oo
        have fw0 := frozen_obj ow 0
        have fo0 := frozen_obj oo 0
        obtain ⟨oa, oc, hov, _⟩ := hS.seg.shape
        subst hov
        obtain ⟨⟨ra, rc, hxv, _⟩, _⟩ := id hleft
        simp only at hxv
        subst hxv
        have hc9 : outs.length < 1000000000 := by omega
        have HS2 := hid hS; have HAT := hid hat; have HLF := hid hleft; have HGW := hid hg
        clear hS hat hh hleft ow oo hg
        gi_wp2_with (gi_at_builtin; refine wpListIn_append_one rfl _ _ 39 rfl w.heap.size 3 Tryz.underlying39 Tryz.info3 rfl (by decide) _ outs.length _ rfl (HS2.out.seg.alloc _) _ _ _ rfl (one_new _ _ _) rfl hc9 ?_ ?_; (have := HS2.out.below.size; simp only [World.size_alloc]; omega); intro v4 w4 hown4 hgrow4 hblk4; have hk4 : Keeps (fun k o => (Value.slice oa outs.length oc).ownBlock = some k ∧ ∃ cur, o = .cells cur 3 (0, 0)) W w4 := ((Keeps.refl _ W).alloc _).grown hgrow4 (fun k o e ho => by obtain ⟨_, _, cur, hcur⟩ := HS2.out.seg.own k e; have h2 : (W.alloc (.cells #[.int .i64 a] 3)).heap[k]? = some (.cells cur 3 (0, 0)) := (Below.heap_alloc _ _ k (lt_of_obj hcur)).trans hcur; rw [h2] at ho; cases ho; exact ⟨e, _, rfl⟩); have ob4 := hk4.obj _ _ HS2.out.bo (fun ⟨_, cur, h⟩ => by cases h); have ow4 := hk4.obj _ _ HS2.out.bw (fun ⟨_, cur, h⟩ => by cases h); have c4 : w4.cell? ⟨co, 0, none⟩ = some _ := cell_of_row _ _ _ _ _ _ ob4; have f4 := frozen_obj ob4 0; have d4 : w4.cell? ⟨cw, 0, none⟩ = some _ := cell_of_row _ _ _ _ _ _ ow4; have e4 := frozen_obj ow4 0; have HK4 := hid hk4; have HOWN4 := hid hown4; have HBLK4 := hid hblk4; obtain ⟨a4, c4', rfl, _⟩ := hown4.shape; clear ob4 ow4 hk4 hown4 hblk4 hgrow4)
        obtain ⟨hst, hkp⟩ := FSt.step HS2.out hcc HWC.out.1 HWC.out.2 (n₀ := w1.heap.size) (by rw [List.map_append]; exact HOWN4.out) HK4.out (fun k hk => by
          rcases HBLK4.out with h | h
          · exact .inl (h.symm.trans hk)
          · have e := h.symm.trans hk; simp at e; exact .inr (by omega)) HLF.out HOV.out
        refine ⟨hkp.mono (fun k o hm => .inr hm.1), rfl, by have := HGW.out.size; have := hkp.size; omega, ?_⟩
        exact ⟨a, ⟨_, HAT.out⟩, _, _, hst⟩
      case done =>
        rintro D' xs' T W hD hS' ⟨rfl, _⟩ hK'
        exact absurd hS'.symm (starts_ne HWY.out HNE.out)
      case stop =>
        rintro D' c pre W hD ⟨rfl, hz, a, l, lv', ov', h1, h2⟩ hK'
        have hmem : a ∈ starts D N y := by rw [h1]; simp
        have hfs := (mem_starts.1 hmem).2
        obtain ⟨i, hi⟩ := Option.isSome_iff_exists.1 hfs
        have hrl := rem_length hfs
        have hfc := firstN_cons (m := n - 1) h1 hi (by rw [HN.out]; omega)
        rw [← free_pos hi] at hfc
        have hz2 : W1.heap.size ≤ W.heap.size := by omega
        have HFC := hid hfc; have HRL := hid hrl; have H2 := hid h2; have HKM := hid hK'; have HD := hid hD
        clear hmem hfs hi hrl hfc h1 h2 hK' hD
        gi_wp2
        refine Handed.intro (rem D y a).length ?measure ?_
        rotate_left
        · first | gi_step | go_step
          refine ⟨_, _, _, _, _, _, D' :: Ds, lv', ov', rem D y a, outs ++ [a], ?_, rfl⟩
          refine ⟨rfl, by have := HRL.out; have := HN.out; omega, hid (fun z hz => HWY.out z (rem_sub hz)), hid (by rw [HFY.out, HFC.out]; simp), by have := HRL.out; have := HN.out; simp only [List.length_append, List.length_cons, List.length_nil]; omega, hid ⟨H2.out.below, H2.out.bw, H2.out.bo, H2.out.seg, H2.out.word, fun D2 hD2 => ?_, ?_⟩, hz2⟩
          · rcases List.mem_cons.1 hD2 with rfl | hD2
            · exact ⟨Nat.le_trans HW1.out HD.out, HKM.out⟩
            · exact H2.out.marks D2 hD2
          · exact List.nodup_cons.2 ⟨fun h => by have := HMK.out _ h; have := HD.out; omega, H2.out.nodup⟩
        · rw [HK.out]; have := HRL.out; omega
    · obtain rfl : n = 0 := by omega
      have hy0 : y = [] := List.length_eq_zero_iff.1 hn
      subst hy0
      have hpF : F = outs := by rw [HFY.out]; simp [firstN]
      have hS := HS.out
      obtain ⟨oa, oc, rfl, _⟩ := hS.seg.shape
      subst hpF
      gi_wp2
      refine leaves_marks w.heap.size Ds wr hS.marks hS.nodup (fun W' hk => ⟨_, results_tmp rfl _ _ _, _, rfl, ?_, ?_⟩)
      · exact hS.seg.keeps hk (fun k o _ ⟨cur, ho⟩ hm => by rw [ho] at hm; cases hm.2)
      · exact hS.below.trans (hk.below hS.below.size (fun k o hm => hm.1))

end Go.Proofs.YtmohnddglmolgaaGreatDoor.Kw
namespace Go.Lin.Wv
open Go Go.RowKit

def keyCells (xs : List Int) : List Value := xs.map (fun a => .int .i64 (a + 1)) ++ List.replicate (10 - xs.length) (.int .i64 0)
def keyV (xs : List Int) : Value := .agg (keyCells xs).toArray

theorem keyCells_length {xs : List Int} (h : xs.length ≤ 10) : (keyCells xs).length = 10 := by
  unfold keyCells; simp; omega

theorem keyCells_succ {xs : List Int} {j : Nat} (hj : j < xs.length) (h : xs.length ≤ 10) : (keyCells (xs.take j)).set j (.int .i64 (nth xs j + 1)) = keyCells (xs.take (j + 1)) := by
  obtain ⟨ys, hys⟩ : ∃ ys, xs.take j = ys := ⟨_, rfl⟩
  have hl : ys.length = j := by rw [← hys, List.length_take]; omega
  unfold keyCells
  rw [take_succ_nth hj, hys, List.map_append, List.length_append, hl, List.length_singleton, List.set_append_right _ _ (by simp; omega), List.append_assoc, List.length_map, hl, Nat.sub_self]
  rw [show 10 - j = (10 - (j + 1)) + 1 by omega, List.replicate_succ]
  rfl

theorem keyCells_inj {xs ys : List Int} (hx : ∀ z ∈ xs, 0 ≤ z) (hy : ∀ z ∈ ys, 0 ≤ z) (h : keyCells xs = keyCells ys) : xs = ys := by
  have key : ∀ (xs ys : List Int), (∀ z ∈ xs, 0 ≤ z) → (∀ z ∈ ys, 0 ≤ z) → ∀ m n, xs.map (fun a => Value.int .i64 (a + 1)) ++ List.replicate m (.int .i64 0) = ys.map (fun a => Value.int .i64 (a + 1)) ++ List.replicate n (.int .i64 0) → xs = ys := by
    intro xs
    induction xs with
    | nil =>
      intro ys hx hy m n h
      cases ys with
      | nil => rfl
      | cons y ys =>
        cases m with
        | zero => simp at h
        | succ m =>
          simp [List.replicate_succ] at h
          have := hy y (by simp)
          omega
    | cons x xs ih =>
      intro ys hx hy m n h
      cases ys with
      | nil =>
        cases n with
        | zero => simp at h
        | succ n =>
          simp [List.replicate_succ] at h
          have := hx x (by simp)
          omega
      | cons y ys =>
        simp only [List.map_cons, List.cons_append, List.cons.injEq, Value.int.injEq, true_and] at h
        rw [show x = y by omega, ih ys (fun z hz => hx z (by simp [hz])) (fun z hz => hy z (by simp [hz])) m n h.2]
  exact key xs ys hx hy _ _ h

theorem ten_of {l : List Int} (h : l.length = 10) : ∃ a0 a1 a2 a3 a4 a5 a6 a7 a8 a9, l = [a0, a1, a2, a3, a4, a5, a6, a7, a8, a9] := by
  rcases l with _ | ⟨a0, _ | ⟨a1, _ | ⟨a2, _ | ⟨a3, _ | ⟨a4, _ | ⟨a5, _ | ⟨a6, _ | ⟨a7, _ | ⟨a8, _ | ⟨a9, _ | ⟨b, l⟩⟩⟩⟩⟩⟩⟩⟩⟩⟩⟩ <;> simp at h
  exact ⟨a0, a1, a2, a3, a4, a5, a6, a7, a8, a9, rfl⟩

theorem keyCells_ints {xs : List Int} (h : xs.length ≤ 10) : ∃ a0 a1 a2 a3 a4 a5 a6 a7 a8 a9 : Int, keyCells xs = [.int .i64 a0, .int .i64 a1, .int .i64 a2, .int .i64 a3, .int .i64 a4, .int .i64 a5, .int .i64 a6, .int .i64 a7, .int .i64 a8, .int .i64 a9] ∧
    ∀ a ∈ [a0, a1, a2, a3, a4, a5, a6, a7, a8, a9], a = 0 ∨ ∃ z ∈ xs, a = z + 1 := by
  have hk : keyCells xs = (xs.map (· + 1) ++ List.replicate (10 - xs.length) 0).map (Value.int .i64) := by
    unfold keyCells; simp [List.map_replicate, Function.comp_def]
  obtain ⟨a0, a1, a2, a3, a4, a5, a6, a7, a8, a9, hl⟩ := ten_of (l := xs.map (· + 1) ++ List.replicate (10 - xs.length) 0) (by simp; omega)
  refine ⟨a0, a1, a2, a3, a4, a5, a6, a7, a8, a9, by rw [hk, hl]; rfl, fun a ha => ?_⟩
  rw [← hl] at ha
  rcases List.mem_append.1 ha with ha | ha
  · obtain ⟨z, hz, rfl⟩ := List.mem_map.1 ha
    exact .inr ⟨z, hz, rfl⟩
  · exact .inl (List.eq_of_mem_replicate ha)

end Go.Lin.Wv
namespace Go.Proofs.YtmohnddglmolgaaGreatDoor.Kw
open Go Go.RowKit Go.Lin Go.Lin.Wv Go.Maps

theorem results_key {t : Tmp} {fn : Func} {tmps : Array Value} {p : Nat} {W : World} {a0 a1 a2 a3 a4 a5 a6 a7 a8 a9 : Int} (h : fn.results = #[.cell t 226]) (h1 : tmps[t]?.getD undef = .pointer (some ⟨p, 0, none⟩))
    (hc : W.heap[p]? = some (.cells #[.int .i64 a0, .int .i64 a1, .int .i64 a2, .int .i64 a3, .int .i64 a4, .int .i64 a5, .int .i64 a6, .int .i64 a7, .int .i64 a8, .int .i64 a9] 226 (0, 0))) : (results fn tmps).run Tryz.prog W = .ok (.agg #[.int .i64 a0, .int .i64 a1, .int .i64 a2, .int .i64 a3, .int .i64 a4, .int .i64 a5, .int .i64 a6, .int .i64 a7, .int .i64 a8, .int .i64 a9]) W := by
  have c : ∀ i, W.cell? ⟨p, i, none⟩ = (#[.int .i64 a0, .int .i64 a1, .int .i64 a2, .int .i64 a3, .int .i64 a4, .int .i64 a5, .int .i64 a6, .int .i64 a7, .int .i64 a8, .int .i64 a9] : Array Value)[i]? := fun i => cell_of_row _ _ _ _ _ _ hc
  simp [results, h, h1, go_sem, c, Tryz.isAgg226]

set_option maxHeartbeats 4000000 in
set_option maxRecDepth 20000 in
theorem keyOf_any (wv : Value) (xs : List Int) (w : World) (hlen : xs.length ≤ 10) (hw : ∀ z ∈ xs, 0 ≤ z ∧ z < 6) (hx : IsInts Any w wv xs) :
    Calls Tryz.prog 155 #[wv] w fun e w' => e = .returned (keyV xs) ∧ Grew w w' := by
  obtain ⟨va, vc, rfl, hm, hc⟩ := hx
  obtain ⟨m, hmm⟩ : ∃ m, xs.length = m := ⟨_, rfl⟩
  rw [hmm] at hm hc hlen ⊢
  have HM := hid hmm; have HC := hid hc; have HW := hid hw
  obtain ⟨W0, hW0⟩ : ∃ W0, w.alloc (.cells #[.int .i64 0, .int .i64 0, .int .i64 0, .int .i64 0, .int .i64 0, .int .i64 0, .int .i64 0, .int .i64 0, .int .i64 0, .int .i64 0] 226) = W0 := ⟨_, rfl⟩
  obtain ⟨W1, hW1⟩ : ∃ W1, W0.alloc (.cells #[.int .i64 0, .int .i64 0, .int .i64 0, .int .i64 0, .int .i64 0, .int .i64 0, .int .i64 0, .int .i64 0, .int .i64 0, .int .i64 0] 226) = W1 := ⟨_, rfl⟩
  have g0 : Grew w W0 := by rw [← hW0]; exact grew_alloc (grew_refl _) _
  have g1 : Grew W0 W1 := by rw [← hW1]; exact grew_alloc (grew_refl _) _
  have o0 : W0.heap[w.heap.size]? = some (.cells #[.int .i64 0, .int .i64 0, .int .i64 0, .int .i64 0, .int .i64 0, .int .i64 0, .int .i64 0, .int .i64 0, .int .i64 0, .int .i64 0] 226 (0, 0)) := by rw [← hW0]; exact heap_alloc_new w _
  have o1 : W1.heap[W0.heap.size]? = some (.cells #[.int .i64 0, .int .i64 0, .int .i64 0, .int .i64 0, .int .i64 0, .int .i64 0, .int .i64 0, .int .i64 0, .int .i64 0, .int .i64 0] 226 (0, 0)) := by rw [← hW1]; exact heap_alloc_new W0 _
  have hz0 := lt_of_obj o0
  have O0 := hid ((g1.block _ hz0).trans o0); have O1 := hid o1
  have G01 := hid (grew_trans g0 g1)
  have hs0 := g0.size
  clear hmm hc hw o0 o1
  go_enter Tryz.func155, Tryz.ntmps155
  go_wp2
  go_loopg [4, 5, 8] m (fun k _ _ i wr => ∃ j : Nat, j ≤ m ∧ i = .int .i64 j ∧ k = m - j ∧ Hid (wr.heap[W0.heap.size]? = some (.cells (keyCells (xs.take j)).toArray 226 (0, 0))) ∧ Hid (Keeps (fun k _ => k = W0.heap.size) W1 wr))
  case atStart => exact ⟨0, by omega, rfl, rfl, O1, hid (Keeps.refl _ _)⟩
  case round =>
    obtain ⟨j, hj, rfl, hk, HO, HG⟩ := hrel
    have HK := hid hk; clear hk
    rename World => wr
    by_cases hlt : j < m
    · obtain ⟨b, off, o, hva, hob, -, hcc⟩ := HC.out j hlt
      subst hva
      have hbl := lt_of_obj hob
      have hob2 := HG.out.obj _ _ ((G01.out.block _ hbl).trans hob) (by omega)
      have hcw := cell_of_obj hob hob2 hcc
      have hbw := lt_of_obj hob2
      have hjx : j < xs.length := by rw [HM.out]; exact hlt
      obtain ⟨h0, h6⟩ := HW.out (nth xs j) (by rw [nth_lt hjx]; exact List.getElem_mem _)
      have hset := keyCells_succ hjx (by rw [HM.out]; exact hlen)
      obtain ⟨y, hy⟩ : ∃ y, nth xs j = y := ⟨_, rfl⟩
      rw [hy] at hset h0 h6
      replace hcw : wr.cell? ⟨b, off + j, none⟩ = some (Value.int .i64 (nth xs j)) := hcw
      rw [hy] at hcw
      have hwr : IntKind.i64.wrap (y + 1) = y + 1 := IntWalk.i64_in _ (by omega)
      have hkl := keyCells_length (xs := xs.take j) (by rw [List.length_take]; omega)
      have hcj : wr.cell? ⟨W0.heap.size, j, none⟩ = some ((keyCells (xs.take j))[j]'(by omega)) := by
        rw [cell_of_row _ _ _ _ _ _ HO.out]; simp
      have hfj := frozen_obj HO.out j
      have hj0 : (0 : Int) ≤ (j : Int) := by omega
      have hj10 : (j : Int) < 10 := by omega
      have hzl := lt_of_obj HO.out
      have HSET := hid hset
      clear hob hob2 hcc hy hset h0 h6
      go_wp2
      go_roundg (m - (j + 1))
      case measure => have := HK.out; omega
      case rel =>
        refine ⟨j + 1, by omega, by go_num, rfl, hid ?_, hid (HG.out.trans ?_)⟩
        · rw [heap_setCell_same _ _ _ _ _ _ HO.out, List.setIfInBounds_toArray, HSET.out]
        · exact ⟨rfl, rfl, rfl, by simp, fun k o h hn => by rw [heap_setCell_other _ _ _ _ hn]; exact h⟩
    · obtain rfl : m = j := by omega
      have ho := HO.out
      rw [List.take_of_length_le (by rw [HM.out]; exact Nat.le_refl _)] at ho
      obtain ⟨a0, a1, a2, a3, a4, a5, a6, a7, a8, a9, hl, -⟩ := keyCells_ints (xs := xs) (by rw [HM.out]; exact hlen)
      have HV := hid (show keyV xs = .agg #[.int .i64 a0, .int .i64 a1, .int .i64 a2, .int .i64 a3, .int .i64 a4, .int .i64 a5, .int .i64 a6, .int .i64 a7, .int .i64 a8, .int .i64 a9] by unfold keyV; rw [hl])
      rw [hl] at ho
      have c : ∀ i, wr.cell? ⟨W0.heap.size, i, none⟩ = (#[.int .i64 a0, .int .i64 a1, .int .i64 a2, .int .i64 a3, .int .i64 a4, .int .i64 a5, .int .i64 a6, .int .i64 a7, .int .i64 a8, .int .i64 a9] : Array Value)[i]? := fun i => cell_of_row _ _ _ _ _ _ ho
      have d0 := c 0; have d1 := c 1; have d2 := c 2; have d3 := c 3; have d4 := c 4; have d5 := c 5; have d6 := c 6; have d7 := c 7; have d8 := c 8; have d9 := c 9
      simp only [List.getElem?_toArray, List.getElem?_cons_zero, List.getElem?_cons_succ] at d0 d1 d2 d3 d4 d5 d6 d7 d8 d9
      have ho2 := HG.out.obj _ _ O0.out (by omega)
      have HO2 := hid ho2
      have e : ∀ i, wr.cell? ⟨w.heap.size, i, none⟩ = _ := fun i => cell_of_row _ _ _ _ _ _ ho2
      have e0 := e 0; have e1 := e 1; have e2 := e 2; have e3 := e 3; have e4 := e 4; have e5 := e 5; have e6 := e 6; have e7 := e 7; have e8 := e 8; have e9 := e 9
      simp only [List.getElem?_toArray, List.getElem?_cons_zero, List.getElem?_cons_succ] at e0 e1 e2 e3 e4 e5 e6 e7 e8 e9
      have fz : ∀ i, wr.frozen? ⟨w.heap.size, i, none⟩ = false := fun i => frozen_obj ho2 i
      clear c e ho ho2 hl HO
      go_wp2
      have hset : ∀ (W : World) (c : Array Value) (i : Nat) (v : Value), W.heap[w.heap.size]? = some (.cells c 226 (0, 0)) → (W.setCell ⟨w.heap.size, i, none⟩ v).heap[w.heap.size]? = some (.cells (c.setIfInBounds i v) 226 (0, 0)) := fun W c i v h => heap_setCell_same _ _ _ _ _ _ h
      have q0 := hset _ _ 0 (.int .i64 a0) HO2.out
      have q1 := hset _ _ 1 (.int .i64 a1) q0
      have q2 := hset _ _ 2 (.int .i64 a2) q1
      have q3 := hset _ _ 3 (.int .i64 a3) q2
      have q4 := hset _ _ 4 (.int .i64 a4) q3
      have q5 := hset _ _ 5 (.int .i64 a5) q4
      have q6 := hset _ _ 6 (.int .i64 a6) q5
      have q7 := hset _ _ 7 (.int .i64 a7) q6
      have q8 := hset _ _ 8 (.int .i64 a8) q7
      have q9 := hset _ _ 9 (.int .i64 a9) q8
      simp only [List.setIfInBounds_toArray, List.set_cons_zero, List.set_cons_succ] at q9
      have Q9 := hid q9
      clear q0 q1 q2 q3 q4 q5 q6 q7 q8 q9
      refine ⟨rfl, _, results_key rfl rfl Q9.out, by rw [HV.out], ?_⟩
      have hs : ∀ (W : World) (i : Nat) (v : Value), Keeps (fun k _ => k = W0.heap.size ∨ k = w.heap.size) W (W.setCell ⟨w.heap.size, i, none⟩ v) := fun W i v => ⟨rfl, rfl, rfl, by simp, fun k o h hn => by rw [heap_setCell_other _ _ _ _ (fun e => hn (.inr e))]; exact h⟩
      have hk := (HG.out.mono (may' := fun k _ => k = W0.heap.size ∨ k = w.heap.size) (fun k o e => .inl e)).trans ((((((((((hs _ 0 (.int .i64 a0)).trans (hs _ 1 (.int .i64 a1))).trans (hs _ 2 (.int .i64 a2))).trans (hs _ 3 (.int .i64 a3))).trans (hs _ 4 (.int .i64 a4))).trans (hs _ 5 (.int .i64 a5))).trans (hs _ 6 (.int .i64 a6))).trans (hs _ 7 (.int .i64 a7))).trans (hs _ 8 (.int .i64 a8))).trans (hs _ 9 (.int .i64 a9)))
      exact G01.out.trans (hk.below G01.out.size (fun k o e => by omega))

end Go.Proofs.YtmohnddglmolgaaGreatDoor.Kw
namespace Go.Proofs.YtmohnddglmolgaaGreatDoor.Kw
open Go Go.RowKit Go.Lin Go.Lin.Wv Go.Maps
attribute [local go_sem] Oper.semAt_some

theorem keyed98 : Keyed Tryz.prog 226 := Keyed.of_law (deep_law_laid Tryz.laidOut (m := 3) (by decide) (of_decide_eq_true (by kernel_rfl)) (by kernel_rfl) (by kernel_rfl))
theorem zero3 (w : World) : (zeroValue 3).run Tryz.prog w = .ok (.int .i64 0) w := by kernel_rfl

theorem key98 (xs : List Int) (hlen : xs.length ≤ 10) (hw : ∀ z ∈ xs, 0 ≤ z ∧ z < 6) : ∃ l, keyOf Tryz.prog 226 (keyV xs) = some l := by
  obtain ⟨a0, a1, a2, a3, a4, a5, a6, a7, a8, a9, hl, ha⟩ := keyCells_ints hlen
  have u98 := Tryz.underlying226
  have u3 := Tryz.underlying3
  have c98 : Tryz.prog.cellsOf 226 = 10 := by kernel_rfl
  have c3 : Tryz.prog.cellsOf 3 = 1 := by kernel_rfl
  have kt : Tryz.prog.keyType 226 = true := by kernel_rfl
  have hsz : ∃ m, Tryz.prog.types.size + 1 = m + 2 := ⟨Tryz.prog.types.size - 1, by have : 1 ≤ Tryz.prog.types.size := of_decide_eq_true (by kernel_rfl); omega⟩
  obtain ⟨m, hm⟩ := hsz
  have wf : ∀ a ∈ [a0, a1, a2, a3, a4, a5, a6, a7, a8, a9], (Lit.int .i64 a).wf = true := fun a h => WalkArith.wf_i64 (by
    rcases ha a h with rfl | ⟨z, hz, rfl⟩
    · omega
    · have := hw z hz; omega)
  have e1 : ∀ a ∈ [a0, a1, a2, a3, a4, a5, a6, a7, a8, a9], Tryz.prog.keyLits (m + 1) 3 [.int .i64 a] = some [.int .i64 a] := fun a h => by
    unfold Program.keyLits; rw [u3]; simp only [wf a h, and_self, if_true]
  have e3 : ∃ ls, Tryz.prog.keyLits (m + 2) 226 [.int .i64 a0, .int .i64 a1, .int .i64 a2, .int .i64 a3, .int .i64 a4, .int .i64 a5, .int .i64 a6, .int .i64 a7, .int .i64 a8, .int .i64 a9] = some ls := by
    refine ⟨[.int .i64 a0, .int .i64 a1, .int .i64 a2, .int .i64 a3, .int .i64 a4, .int .i64 a5, .int .i64 a6, .int .i64 a7, .int .i64 a8, .int .i64 a9], ?_⟩
    unfold Program.keyLits; rw [u98]
    simp only [c98, c3, List.length_cons, List.length_nil, if_true]
    rw [show List.range 10 = [0, 1, 2, 3, 4, 5, 6, 7, 8, 9] from rfl]
    simp only [List.mapM_cons, List.mapM_nil, Nat.mul_one, List.drop_zero, List.drop_succ_cons, List.take_succ_cons, List.take_zero]
    rw [e1 a0 (by simp), e1 a1 (by simp), e1 a2 (by simp), e1 a3 (by simp), e1 a4 (by simp), e1 a5 (by simp), e1 a6 (by simp), e1 a7 (by simp), e1 a8 (by simp), e1 a9 (by simp)]
    rfl
  obtain ⟨ls, e3⟩ := e3
  have hf : (keyV xs).formed Tryz.prog 226 = true := by
    unfold keyV Value.formed; rw [u98, hl]; simp only [c98]; rfl
  refine ⟨.string (keyBytes ls), ?_⟩
  unfold keyOf
  rw [u98]
  simp only [kt, hf, Bool.and_self, if_true, hm]
  unfold keyV
  rw [hl]
  simp only [Value.cells]
  rw [e3]
  rfl

/-- What is known is right. -/
def Known (D : Int → Int → Bool) (N : Nat) (S : Value → Option Nat) : Prop := ∀ k v, S k = some v → ∃ ys : List Int, k = keyV ys ∧ ys.length ≤ 10 ∧ (∀ z ∈ ys, 0 ≤ z ∧ z < (N : Int)) ∧ v = sizeM D N ys

theorem Known.at' {D : Int → Int → Bool} {N : Nat} {S : Value → Option Nat} (h : Known D N S) {xs : List Int} (hw : ∀ z ∈ xs, 0 ≤ z ∧ z < (N : Int)) {v : Nat} (hS : S (keyV xs) = some v) : v = sizeM D N xs := by
  obtain ⟨ys, h1, h2, h3, h4⟩ := h _ _ hS
  unfold keyV at h1
  simp only [Value.agg.injEq] at h1
  have h5 : keyCells xs = keyCells ys := by have := congrArg Array.toList h1; simpa using this
  rw [h4, ← keyCells_inj (fun z hz => (hw z hz).1) (fun z hz => (h3 z hz).1) h5]

/-- One key more. -/
noncomputable def putS (S : Value → Option Nat) (k0 : Value) (v : Nat) : Value → Option Nat := fun k => @ite _ (k = k0) (Classical.propDecidable _) (some v) (S k)

theorem putS_same (S : Value → Option Nat) (k0 : Value) (v : Nat) : putS S k0 v k0 = some v := by unfold putS; rw [if_pos rfl]
theorem putS_other (S : Value → Option Nat) (k0 : Value) (v : Nat) {k : Value} (h : k ≠ k0) : putS S k0 v k = S k := by unfold putS; rw [if_neg h]

theorem Known.put {D : Int → Int → Bool} {N : Nat} {S : Value → Option Nat} (h : Known D N S) {xs : List Int} (hl : xs.length ≤ 10) (hw : ∀ z ∈ xs, 0 ≤ z ∧ z < (N : Int)) : Known D N (putS S (keyV xs) (sizeM D N xs)) := by
  intro k v hk
  by_cases e : k = keyV xs
  · subst e
    rw [putS_same] at hk
    cases hk
    exact ⟨xs, rfl, hl, hw, rfl⟩
  · rw [putS_other _ _ _ e] at hk
    exact h k v hk

end Go.Proofs.YtmohnddglmolgaaGreatDoor.Kw
namespace Go.Proofs.YtmohnddglmolgaaGreatDoor.Kw
open Go Go.RowKit Go.Lin Go.Lin.Wv Go.Maps
attribute [local go_sem] Oper.semAt_some

theorem wd_off {w : World} {v : Value} {xs : List Int} {may : Nat → Obj → Prop} (h : IsWd w v xs) (hm : ∀ b o off x, w.heap[b]? = some o → w.cell? ⟨b, off, none⟩ = some x → ¬ may b o) : WdOff (fun k o => ¬ may k o) w v xs := by
  obtain ⟨a, c, h1, h2, a', c', h3, h4, h5⟩ := h
  refine ⟨⟨a, c, h1, h2⟩, a', c', h3, h4, fun i hi => ?_⟩
  obtain ⟨b, off, o, e1, e2, _, e4⟩ := h5 i hi
  exact ⟨b, off, o, e1, e2, hm _ _ _ _ e2 e4, e4⟩

/-- A block that is a map has no cells. -/
theorem not_map {w : World} {b : Nat} {o : Obj} {off : Nat} {x : Value} (h : w.heap[b]? = some o) (hc : w.cell? ⟨b, off, none⟩ = some x) : ¬ ∃ es c, o = .map es c := by
  rintro ⟨es, c, rfl⟩
  unfold World.cell? at hc
  simp only [h] at hc
  cases hc

theorem keeps_old {may : Nat → Obj → Prop} {w W : World} (h : Keeps (fun i o => w.heap.size ≤ i ∨ may i o) w W) : Keeps may w W :=
  ⟨h.os, h.tape, h.output, h.size, fun k o ho hn => h.obj k o ho (fun hm => by
    rcases hm with hm | hm
    · have := lt_of_obj ho; omega
    · exact hn hm)⟩

/-- How many words are behind the first letters that have come. -/
def sumS (D : Int → Int → Bool) (N : Nat) (xs : List Int) (l : List Int) : Nat := (l.map fun a => sizeM D N (rem D xs a)).sum

theorem sumS_snoc {D : Int → Int → Bool} {N : Nat} {xs l : List Int} {a : Int} : sumS D N xs (l ++ [a]) = sumS D N xs l + sizeM D N (rem D xs a) := by
  unfold sumS; simp

def MapAt (bm : Nat) : Nat → Obj → Prop := fun i o => i = bm ∧ ∃ es c, o = .map es c

/-- What the loop keeps. -/
structure ZI (D : Int → Int → Bool) (N : Nat) (xs : List Int) (bm c8 n0 K : Nat) (wl : World) (pre : List SX) (T : Nat → Prop) (W : World) : Prop where
  num : W.heap[c8]? = some (.cells #[.int .i64 (sumS D N xs (pre.map (·.1)) : Nat)] 3 (0, 0))
  map : ∃ nn S', OMap W Tryz.prog 226 3 bm nn id S' ∧ Known D N S' ∧ nn ≤ n0 + pre.length * K
  keep : Keeps (fun i o => i = c8 ∨ MapAt bm i o) wl W
  far : ∀ t, T t → wl.heap.size ≤ t
  pref : pre.map (·.1) = (starts D N xs).take pre.length

theorem ZI.keeps {D : Int → Int → Bool} {N : Nat} {xs : List Int} {bm c8 n0 K : Nat} {wl : World} {pre : List SX} {T T' : Nat → Prop} {W W' : World} (h : ZI D N xs bm c8 n0 K wl pre T W) (h8 : c8 < wl.heap.size) (hb : bm < wl.heap.size)
    (hk : Keeps (fun k o => T k ∨ (wl.heap.size ≤ k ∧ o.isCells = false)) W W') (hT : ∀ k, T' k → T k ∨ W.heap.size ≤ k) : ZI D N xs bm c8 n0 K wl pre T' W' := by
  have hb' : Below wl.heap.size W W' := hk.below h.keep.size (fun k o hm => hm.elim (h.far k) (fun h => h.1))
  refine ⟨(hb'.block _ h8).trans h.num, ?_, ?_, fun t ht => ?_, h.pref⟩
  · obtain ⟨nn, S', h1, h2, h3⟩ := h.map
    exact ⟨nn, S', h1.keeps hk (fun es c hm => by rcases hm with hm | hm; have := h.far _ hm; omega; omega), h2, h3⟩
  · refine ⟨hb'.os.trans h.keep.os, hb'.tape.trans h.keep.tape, hb'.output.trans h.keep.output, Nat.le_trans h.keep.size hb'.size, fun k o ho hn => (hb'.block k (lt_of_obj ho)).trans (h.keep.obj k o ho hn)⟩
  · rcases hT t ht with h2 | h2
    · exact h.far t h2
    · have := h.keep.size; omega

theorem sumS_le {D : Int → Int → Bool} {N : Nat} (hN : N ≤ 6) {xs : List Int} (hx : xs.length ≤ 10) (l : List Int) : sumS D N xs l ≤ l.length * 60466176 := by
  unfold sumS
  have h := sum_le (l := l.map fun a => sizeM D N (rem D xs a)) (b := 60466176) (fun y hy => by
    obtain ⟨a, _, rfl⟩ := List.mem_map.1 hy
    refine sizeM_le hN ?_
    unfold rem
    split
    · rw [List.length_eraseIdx]; split <;> omega
    · exact hx)
  rwa [List.length_map] at h

set_option maxHeartbeats 8000000 in
set_option maxRecDepth 100000 in
theorem size_any (D : Int → Int → Bool) (hr : ∀ a, D a a = true) (hsym : ∀ a b, D a b = D b a) (B N bm : Nat) (hN : N ≤ 6) : ∀ (k : Nat) (xs : List Int) (wv : Value) (w : World) (n : Nat) (S : Value → Option Nat), xs.length = k → k ≤ 10 → n + 7 ^ k ≤ 1000000000000 →
    (∀ z ∈ xs, 0 ≤ z ∧ z < (N : Int)) → Loom w B D N → IsWd w wv xs → OMap w Tryz.prog 226 3 bm n id S → Known D N S →
    Calls Tryz.prog 129 #[.pointer (some ⟨B, 0, none⟩), wv, .map (some bm)] w fun e w' => e = .returned (.int .i64 (sizeM D N xs : Nat)) ∧ ∃ n' S', n' ≤ n + 7 ^ k ∧ OMap w' Tryz.prog 226 3 bm n' id S' ∧ Known D N S' ∧ Keeps (MapAt bm) w w' := by
  intro k
  induction k with
  | zero =>
    intro xs wv w n S hk hk10 hn hw hL hx hm hS
    obtain rfl : xs = [] := List.length_eq_zero_iff.1 hk
    obtain ⟨xa, xc, rfl, _, _⟩ := hx
    obtain ⟨W0, hW0, g0, k0, hz⟩ := box1 w (.pointer (some ⟨B, 0, none⟩)) 191
    obtain ⟨W1, hW1, g1, k1, hz1⟩ := box1 W0 (.map (some bm)) 195
    have HG := hid (grew_trans g0 g1)
    have HM := hid hm; have HS := hid hS
    clear hm hS hL hw
    go_enter Tryz.func129, Tryz.ntmps129
    go_wp2
    go_ret
    exact ⟨by rw [sizeM_nil]; rfl, n, S, by omega, HM.out.grew HG.out, HS.out, HG.out.keeps⟩
  | succ k ih =>
    intro xs wv w n S hk hk10 hn hw hL hx hm hS
    obtain ⟨m, hmk⟩ : ∃ m, m = k + 1 := ⟨_, rfl⟩
    rw [← hmk] at hk hk10 hn ⊢
    have hm0 : 0 < m := by omega
    have hmz : ((m : Int) == 0) = false := by simp; omega
    have HMK := hid hmk
    obtain ⟨xa, xc, rfl, hxc, hxi⟩ := hx
    obtain ⟨a0, a1, a2, a3, a4, a5, a6, a7, a8, a9, hl, -⟩ := keyCells_ints (xs := xs) (by omega)
    have hkv : keyV xs = .agg #[.int .i64 a0, .int .i64 a1, .int .i64 a2, .int .i64 a3, .int .i64 a4, .int .i64 a5, .int .i64 a6, .int .i64 a7, .int .i64 a8, .int .i64 a9] := by unfold keyV; rw [hl]
    have hw6 : ∀ z ∈ xs, 0 ≤ z ∧ z < 6 := fun z hz => by have := hw z hz; omega
    obtain ⟨kl, hkl⟩ := key98 xs (by omega) hw6
    have HKL := hid hkl; have HW := hid hw; have HW6 := hid hw6; have HX := hid hxi
    have HM := hid hm; have HS := hid hS; have HL := hid hL; have IH := hid ih
    obtain ⟨W0, hW0, g0, k0, hz⟩ := box1 w (.pointer (some ⟨B, 0, none⟩)) 191
    obtain ⟨W1, hW1, g1, k1, hz1⟩ := box1 W0 (.map (some bm)) 195
    have g01 := grew_trans g0 g1
    have HG01 := hid g01
    have hkey := keyOf_any (.slice xa xs.length xc) xs W1 (by omega) hw6 (Reads.grew hxi g01)
    rw [hkv, hk] at hkey
    have HKEY := hid hkey
    have HKV := hid hkv
    have q0 := (g1.cell (p := ⟨w.heap.size, 0, none⟩) hz).trans k0
    have HKX := hid hk
    have HXW := hid (show IsWd w (.slice xa m xc) xs from ⟨xa, xc, by rw [hk], hxc, by rw [← hk]; exact hxi⟩)
    have hsz0 := g0.size
    rw [hk]
    rw [hk] at hxc
    clear hkl hw hw6 hm hS hL ih hl hkey hkv g0 k0 hmk hk hxi g01
    refine (callsIn_wide (n := 9)).1 ?_
    refine callsIn_of_wp_marks Tryz.func129 rfl trivial ?_ rfl
    simp only [Tryz.ntmps129, List.size_toArray, List.length_cons, List.length_nil, Nat.reduceAdd, Nat.reduceSub, Array.replicate_succ, Array.replicate_zero, List.push_toArray, List.append_toArray, List.nil_append, List.cons_append]
    cases hq : S (keyV xs) with
    | some v =>
      have HQ := hid hq
      have HV := hid (HS.out.at' HW.out hq)
      clear hq
      gi_wp2_with (refine ⟨trivial, ?_⟩; gi_at_call 155; refine (callsIn_wide.2 HKEY.out).mono ?_; rintro e w1 ⟨rfl, hx1⟩; obtain ⟨W2, hW2⟩ : ∃ W2, w1.alloc (.cells #[.int .i64 a0, .int .i64 a1, .int .i64 a2, .int .i64 a3, .int .i64 a4, .int .i64 a5, .int .i64 a6, .int .i64 a7, .int .i64 a8, .int .i64 a9] 226) = W2 := ⟨_, rfl⟩; have g2 : Grew w1 W2 := (by rw [← hW2]; exact grew_alloc (grew_refl _) _); have hg12 := grew_trans hx1 g2; have j0 := (hg12.cell (p := ⟨w.heap.size, 0, none⟩) (Nat.lt_of_lt_of_le hz g1.size)).trans q0; have j1 := (hg12.cell (p := ⟨W0.heap.size, 0, none⟩) hz1).trans k1; have od : W2.heap[w1.heap.size]? = some (.cells #[.int .i64 a0, .int .i64 a1, .int .i64 a2, .int .i64 a3, .int .i64 a4, .int .i64 a5, .int .i64 a6, .int .i64 a7, .int .i64 a8, .int .i64 a9] 226 (0, 0)) := (by rw [← hW2]; exact heap_alloc_new w1 _); have dd : ∀ i, W2.cell? ⟨w1.heap.size, i, none⟩ = (#[.int .i64 a0, .int .i64 a1, .int .i64 a2, .int .i64 a3, .int .i64 a4, .int .i64 a5, .int .i64 a6, .int .i64 a7, .int .i64 a8, .int .i64 a9] : Array Value)[i]? := fun i => cell_of_row _ _ _ _ _ _ od; have d0 := dd 0; have d1 := dd 1; have d2 := dd 2; have d3 := dd 3; have d4 := dd 4; have d5 := dd 5; have d6 := dd 6; have d7 := dd 7; have d8 := dd 8; have d9 := dd 9; simp only [List.getElem?_toArray, List.getElem?_cons_zero, List.getElem?_cons_succ] at d0 d1 d2 d3 d4 d5 d6 d7 d8 d9; clear dd; have hlk := (HM.out.grew (grew_trans HG01.out hg12)).look_ok (x := keyV xs) keyed98 Tryz.underlying195 Tryz.underlying3 (zero3 W2) HKL.out; rw [HQ.out] at hlk; simp only [id] at hlk; rw [HKV.out] at hlk; simp only [Option.getD_some, Option.isSome_some] at hlk; have HX1 := hid hx1; have G2 := hid hg12; have OD := hid od; clear hx1 g2 hg12 od)
      refine leaves_marks w.heap.size [] _ (fun _ h => (by cases h)) List.nodup_nil (fun W' hkk => ⟨_, results_tmp rfl _ _ _, ?_⟩)
      have hg : Grew w (W2.alloc (.cells #[.int .i64 (v : Int)] 3)) := grew_alloc (grew_trans HG01.out G2.out) _
      have hkp := (Grew.keeps (may := fun k o => w.heap.size ≤ k ∧ o.isCells = false) hg).trans hkk
      refine ⟨by rw [← HV.out]; rfl, n, S, Nat.le_add_right _ _, HM.out.keeps hkp (fun es c hm => by have := HM.out.lt; omega), HS.out, ?_⟩
      have hb := hkp.below (B := w.heap.size) (Nat.le_refl _) (fun k o hm => hm.1)
      exact Grew.keeps hb
    | none =>
      have HQ := hid hq
      clear hq
      gi_wp2_with (first
        | (refine ⟨trivial, ?_⟩; gi_at_call 155; refine (callsIn_wide.2 HKEY.out).mono ?_; rintro e w1 ⟨rfl, hx1⟩; obtain ⟨W2, hW2⟩ : ∃ W2, w1.alloc (.cells #[.int .i64 a0, .int .i64 a1, .int .i64 a2, .int .i64 a3, .int .i64 a4, .int .i64 a5, .int .i64 a6, .int .i64 a7, .int .i64 a8, .int .i64 a9] 226) = W2 := ⟨_, rfl⟩; have g2 : Grew w1 W2 := (by rw [← hW2]; exact grew_alloc (grew_refl _) _); have hg12 := grew_trans hx1 g2; have j0 := (hg12.cell (p := ⟨w.heap.size, 0, none⟩) (Nat.lt_of_lt_of_le hz g1.size)).trans q0; have j1 := (hg12.cell (p := ⟨W0.heap.size, 0, none⟩) hz1).trans k1; have od : W2.heap[w1.heap.size]? = some (.cells #[.int .i64 a0, .int .i64 a1, .int .i64 a2, .int .i64 a3, .int .i64 a4, .int .i64 a5, .int .i64 a6, .int .i64 a7, .int .i64 a8, .int .i64 a9] 226 (0, 0)) := (by rw [← hW2]; exact heap_alloc_new w1 _); have dd : ∀ i, W2.cell? ⟨w1.heap.size, i, none⟩ = (#[.int .i64 a0, .int .i64 a1, .int .i64 a2, .int .i64 a3, .int .i64 a4, .int .i64 a5, .int .i64 a6, .int .i64 a7, .int .i64 a8, .int .i64 a9] : Array Value)[i]? := fun i => cell_of_row _ _ _ _ _ _ od; have d0 := dd 0; have d1 := dd 1; have d2 := dd 2; have d3 := dd 3; have d4 := dd 4; have d5 := dd 5; have d6 := dd 6; have d7 := dd 7; have d8 := dd 8; have d9 := dd 9; simp only [List.getElem?_toArray, List.getElem?_cons_zero, List.getElem?_cons_succ] at d0 d1 d2 d3 d4 d5 d6 d7 d8 d9; clear dd; have hlk := (HM.out.grew (grew_trans HG01.out hg12)).look_ok (x := keyV xs) keyed98 Tryz.underlying195 Tryz.underlying3 (zero3 W2) HKL.out; rw [HQ.out] at hlk; simp only [id] at hlk; rw [HKV.out] at hlk; simp only [Option.getD_none, Option.isSome_none] at hlk; have hzz := Nat.lt_of_lt_of_le (Nat.lt_of_lt_of_le hz g1.size) hg12.size; have hzz1 := Nat.lt_of_lt_of_le hz1 hg12.size; have OD := hid od; have G2 := hid hg12; have hw12 := hx1.size; have hw23 := g2.size; have HJ0 := hid j0; have HJ1 := hid j1; clear hx1 g2 hg12 od)
        | (refine ⟨trivial, ?_⟩; gi_at_call 156; refine (callsIn_wide.2 (starts90_any B xa m xc _)).mono ?_; rintro e w4 ⟨rfl, hx4, hb1, hb2⟩; have HX4 := hid hx4; have HB1 := hid hb1; have HB2 := hid hb2; clear hx4 hb1 hb2))
      have hg24 : Grew W2 w4 := (grew_alloc (grew_refl W2) (.cells #[.int .i64 0] 3)).trans (HX4.out.mono (by simp))
      have b1 : w4.cell? ⟨W2.heap.size + 1, 0, none⟩ = some (.pointer (some ⟨B, 0, none⟩)) := by have h := HB1.out; rw [World.size_alloc] at h; exact h
      have b2 : w4.cell? ⟨W2.heap.size + 1 + 1, 0, none⟩ = some (.slice xa m xc) := by have h := HB2.out; rw [World.size_alloc] at h; exact h
      have o8 : w4.heap[W2.heap.size]? = some (.cells #[.int .i64 0] 3 (0, 0)) := (HX4.out.block _ (by simp)).trans (heap_alloc_new W2 _)
      have hgw : Grew w w4 := grew_trans HG01.out (grew_trans G2.out hg24)
      have hs4 : W2.heap.size + 1 ≤ w4.heap.size := by have := HX4.out.size; simpa using this
      have hwW2 : w.heap.size < W2.heap.size := hzz
      have hBw := HL.out.lt
      have hbm := HM.out.lt
      have j04 := (hg24.cell (p := ⟨w.heap.size, 0, none⟩) hzz).trans HJ0.out
      have j14 := (hg24.cell (p := ⟨W0.heap.size, 0, none⟩) hzz1).trans HJ1.out
      have HGW := hid hgw; have HJ04 := hid j04; have HJ14 := hid j14
      have OD4 := hid ((hg24.block _ (lt_of_obj OD.out)).trans OD.out)
      have hw1l := lt_of_obj OD4.out
      have hmobj := hid ((HM.out.grew hgw).obj)
      have hseq := starts_stops D B N xs (W2.heap.size + 1) (W2.heap.size + 1 + 1) (.slice xa m xc) w4 8 (by decide) hN HW.out (by rw [HKX.out]; omega) (HL.out.grew hgw) b1 b2
        (fun i o => i = W2.heap.size ∨ MapAt bm i o ∨ w4.heap.size ≤ i) (fun o ho h => by
          rcases h with h | ⟨_, h⟩ | h
          · omega
          · exact not_map ho (HL.out.grew hgw).c0 h
          · omega) (fun o ho h => by
          rcases h with h | ⟨h, _⟩ | h
          · omega
          · omega
          · have := lt_of_obj ho; omega) (fun o ho h => by
          rcases h with h | ⟨h, _⟩ | h
          · omega
          · omega
          · have := lt_of_obj ho; omega)
        (WdOff.grew (wd_off HXW.out (fun b o off x e1 e2 h => by
          have hlt := lt_of_obj e1
          rcases h with h | ⟨_, h⟩ | h
          · omega
          · exact not_map e1 e2 h
          · have := hgw.size; omega)) hgw)
      have HSEQ := hid hseq
      have h8l : W2.heap.size < w4.heap.size := by omega
      have hbl : bm < w4.heap.size := by have := hgw.size; omega
      have O8 := hid o8
      clear hseq o8 b1 b2 hg24 j04 j14
      refine wpIn_rangeFunc_sep (P := Tryz.prog) rfl (by decide) (gf := 178) (fa := #[]) rfl trivial (enters_of Tryz.func178 (by kernel_rfl) rfl) HSEQ.out (grew_refl w4) (fun _ _ h => .inr (.inr h)) (fun _ => rfl)
        (fun pre T W => ZI D N xs bm W2.heap.size n (7 ^ k) w4 pre T W)
        (fun _ _ _ => False)
        (fun pre T W W' h hk T' hT => h.keeps h8l hbl hk hT) (fun _ _ _ _ h _ => h.elim) (fun pre x W W' hh hk => hh.keeps hk (fun k c fr hm => by cases hm.2.2))
        ⟨O8.out, ⟨n, S, HM.out.grew hgw, HS.out, by simp⟩, Keeps.refl _ _, fun _ h => h.elim, rfl⟩
        (fun x => { tmps := #[.pointer (some ⟨B, 0, none⟩), .slice xa m xc, .map (some bm), .pointer (some ⟨w.heap.size, 0, none⟩), undef, .pointer (some ⟨W0.heap.size, 0, none⟩), .int .i64 0, .pointer (some ⟨w1.heap.size, 0, none⟩), .pointer (some ⟨W2.heap.size, 0, none⟩), .bool false, undef, x.2, .slice xa m xc, .int .i64 (m : Int), .bool false, .slice xa m xc, .agg #[.int .i64 a0, .int .i64 a1, .int .i64 a2, .int .i64 a3, .int .i64 a4, .int .i64 a5, .int .i64 a6, .int .i64 a7, .int .i64 a8, .int .i64 a9], .tuple #[.int .i64 0, .bool false], .map (some bm), .agg #[.int .i64 a0, .int .i64 a1, .int .i64 a2, .int .i64 a3, .int .i64 a4, .int .i64 a5, .int .i64 a6, .int .i64 a7, .int .i64 a8, .int .i64 a9], .tuple #[.int .i64 0, .bool false], .int .i64 0, .bool false, .bool false, .bool true, .pointer (some ⟨B, 0, none⟩), .slice xa m xc, .func (.func 178) #[] #[.pointer (some ⟨W2.heap.size + 1, 0, none⟩), .pointer (some ⟨W2.heap.size + 1 + 1, 0, none⟩)], .int .i64 x.1, x.2, undef, undef, undef, undef, undef, undef, undef, undef, undef, undef, undef, undef], defers := [] })
        ?assign ?body ?done (fun _ _ _ _ _ h _ => h.elim)
      case assign =>
        rintro l ⟨a, xv⟩ W K hK
        dsimp only [encS]
        gi_wp2
        exact hK
      case body =>
        rintro l pre T ⟨a, xv⟩ W hI hh hT hlt
        have hfs := (mem_starts.1 hh.mem).2
        have hrl := rem_length hfs
        rw [HKX.out] at hrl
        simp only at hfs hrl
        have hat := hh.at'
        simp only at hat
        have hpl : pre.length < 6 := by
          have h1 := congrArg List.length hat
          have h2 := starts_length (D := D) N xs
          simp at h1
          omega
        obtain ⟨s, hs⟩ : ∃ s, sumS D N xs (pre.map (·.1)) = s := ⟨_, rfl⟩
        have hsle := sumS_le (D := D) hN (xs := xs) (by rw [HKX.out]; omega) (pre.map (·.1))
        rw [List.length_map, hs] at hsle
        have hnum := hI.num
        rw [hs] at hnum
        have c8 : W.cell? ⟨W2.heap.size, 0, none⟩ = some (.int .i64 (s : Int)) := cell_of_row _ _ _ _ _ _ hnum
        have f8 := frozen_obj hnum 0
        have l8 := lt_of_obj hnum
        have c3 : W.cell? ⟨w.heap.size, 0, none⟩ = some (.pointer (some ⟨B, 0, none⟩)) := cell_keeps hI.keep (fun o ho h => by
          rcases h with h | ⟨_, h⟩
          · omega
          · exact not_map ho HJ04.out h) HJ04.out
        have c5 : W.cell? ⟨W0.heap.size, 0, none⟩ = some (.map (some bm)) := cell_keeps hI.keep (fun o ho h => by
          rcases h with h | ⟨_, h⟩
          · omega
          · exact not_map ho HJ14.out h) HJ14.out
        have hLW : Loom W B D N := (HL.out.grew HGW.out).keeps hI.keep (fun o ho h => by
          rcases h with h | ⟨_, h⟩
          · omega
          · exact not_map ho (HL.out.grew HGW.out).c0 h)
        have hleft := hh.left.wd
        simp only at hleft
        obtain ⟨nn, S', hm1, hm2, hm3⟩ := hI.map
        have hmx : Tryz.prog.follows .mixedOrders = true := by kernel_rfl
        have HI := hid hI; have HAT := hid hat; have HLF := hid hleft; have HS1 := hid hs; have HM1 := hid hm1; have HK2 := hid hm2; have HLW := hid hLW; have HNUM := hid hnum
        clear hI hh hat hfs hleft hs hm1 hm2 hLW hnum
        gi_wp2
        refine wpIn_region_gate (fun w' => w'.cell? ⟨W2.heap.size, 0, none⟩ = some (.int .i64 (s : Int)) ∧ w'.cell? ⟨w.heap.size, 0, none⟩ = some (.pointer (some ⟨B, 0, none⟩)) ∧ w'.cell? ⟨W0.heap.size, 0, none⟩ = some (.map (some bm))) 8 hmx ?_
        have hS0 : W.drew.cell? ⟨W2.heap.size, 0, none⟩ = some (.int .i64 (s : Int)) ∧ W.drew.cell? ⟨w.heap.size, 0, none⟩ = some (.pointer (some ⟨B, 0, none⟩)) ∧ W.drew.cell? ⟨W0.heap.size, 0, none⟩ = some (.map (some bm)) := ⟨c8, c3, c5⟩
        refine wpAnyG_take (i := 0) [7] rfl (by kernel_rfl) (by kernel_rfl) (by kernel_rfl) (by kernel_rfl) (by kernel_rfl) (by kernel_rfl) (fun _ _ _ h => h) (fun _ => rfl) (v := .int .i64 (s : Int)) (fun w' h => ?_) (fun _ => rfl) (by assumption) ?_
        · (obtain ⟨h1, h2, h3⟩ := h; go_simp)
        simp only [Act.put, List.setIfInBounds_toArray, List.set_cons_zero, List.set_cons_succ]
        refine wpAnyG_take (i := 1) [7, 6] rfl (by kernel_rfl) (by kernel_rfl) (by kernel_rfl) (by kernel_rfl) (by kernel_rfl) (by kernel_rfl) (fun _ _ _ h => h) (fun _ => rfl) (v := .pointer (some ⟨B, 0, none⟩)) (fun w' h => ?_) (fun _ => rfl) (by assumption) ?_
        · (obtain ⟨h1, h2, h3⟩ := h; go_simp)
        simp only [Act.put, List.setIfInBounds_toArray, List.set_cons_zero, List.set_cons_succ]
        refine wpAnyG_take (i := 2) [7, 6, 4] rfl (by kernel_rfl) (by kernel_rfl) (by kernel_rfl) (by kernel_rfl) (by kernel_rfl) (by kernel_rfl) (fun _ _ _ h => h) (fun _ => rfl) (v := .pointer (some ⟨B, 0, none⟩)) (fun w' h => ?_) (fun _ => rfl) (by assumption) ?_
        · (obtain ⟨h1, h2, h3⟩ := h; go_simp)
        simp only [Act.put, List.setIfInBounds_toArray, List.set_cons_zero, List.set_cons_succ]
        refine wpAnyG_take (i := 3) [7, 6, 4] rfl (by kernel_rfl) (by kernel_rfl) (by kernel_rfl) (by kernel_rfl) (by kernel_rfl) (by kernel_rfl) (fun _ _ _ h => h) (fun _ => rfl) (v := xv) (fun w' h => ?_) (fun _ => rfl) (by assumption) ?_
        · (go_simp)
        simp only [Act.put, List.setIfInBounds_toArray, List.set_cons_zero, List.set_cons_succ]
        refine wpAnyG_take (i := 5) [7, 6] rfl (by kernel_rfl) (by kernel_rfl) (by kernel_rfl) (by kernel_rfl) (by kernel_rfl) (by kernel_rfl) (fun _ _ _ h => h) (fun _ => rfl) (v := .map (some bm)) (fun w' h => ?_) (fun _ => rfl) (by assumption) ?_
        · (obtain ⟨h1, h2, h3⟩ := h; go_simp)
        simp only [Act.put, List.setIfInBounds_toArray, List.set_cons_zero, List.set_cons_succ]
        have hfirst := first_any D B N (rem D xs a) xv W.drew hN (fun z hz => HW.out z (rem_sub hz)) (by omega) (HLW.out.grew (grew_drew (grew_refl _))) (HLF.out.grew (grew_drew (grew_refl _)))
        have HF := hid hfirst
        clear hfirst
        refine wpAnyG_one (i := 4) rfl (by kernel_rfl) ?_
        obtain ⟨left, hleft⟩ : ∃ left, rem D xs a = left := ⟨_, rfl⟩
        have HLEFT := hid hleft
        have hlw : ∀ z ∈ left, 0 ≤ z ∧ z < (N : Int) := fun z hz => HW.out z (rem_sub (hleft ▸ hz))
        rw [hleft] at HF hrl
        have hal := alike_first hsym hlw
        have hfl : (first D N left).length = k := by rw [← hal.length hr]; have := HMK.out; omega
        have hfw : ∀ z ∈ first D N left, 0 ≤ z ∧ z < (N : Int) := fun z hz => hlw z ((hal.perm hr).mem_iff.2 hz)
        have hsz : sizeM D N (first D N left) = sizeM D N left := (sizeM_alike hr hsym N hal).symm
        have hzle : sizeM D N left ≤ 60466176 := sizeM_le hN (by omega)
        obtain ⟨P, hP⟩ : ∃ P, 7 ^ k = P := ⟨_, rfl⟩
        have hmP : 7 ^ m = 7 * P := by rw [HMK.out, Nat.pow_succ, hP, Nat.mul_comm]
        have hpP : pre.length * P ≤ 5 * P := Nat.mul_le_mul_right _ (by omega)
        rw [hP] at hm3
        rw [hmP] at hn
        have hnn : nn + 7 ^ k ≤ 1000000000000 := by rw [hP]; omega
        obtain ⟨z, hz⟩ : ∃ z, sizeM D N left = z := ⟨_, rfl⟩
        rw [hz] at hzle hsz
        have hwr : IntKind.i64.wrap ((s : Int) + (z : Int)) = (s : Int) + (z : Int) := IntWalk.i64_in _ (by omega)
        have l3 := World.block_lt_of_cell? W _ c3
        have l5 := World.block_lt_of_cell? W _ c5
        simp only at l3 l5
        have HFL := hid hfl; have HFW := hid hfw; have HSZ := hid hsz; have HZ := hid hz; have HNN := hid hnn
        have hc8b : W2.heap.size ≠ bm := by omega
        clear hal hfl hfw hlw hsz hleft hz hnn
        gi_wp2_with (refine ⟨trivial, ?_⟩; gi_at_call 130; refine (CallsIn.inRound l (callsIn_wide.2 HF.out)).mono ?_; rintro e w6 ⟨uv, rfl, hs6, hx6⟩; have HS6 := hid hs6; have HX6 := hid (grew_trans (grew_drew (grew_refl W)) hx6); clear hs6 hx6)
        have d8 := (HX6.out.cell (p := ⟨W2.heap.size, 0, none⟩) l8).trans c8
        have d3 := (HX6.out.cell (p := ⟨w.heap.size, 0, none⟩) l3).trans c3
        have d5 := (HX6.out.cell (p := ⟨W0.heap.size, 0, none⟩) l5).trans c5
        refine ⟨fun _ => ⟨d8, d3, d5⟩, ?_⟩
        have hrec := IH.out (first D N left) uv w6 nn S' HFL.out (by have := HMK.out; omega) HNN.out HFW.out (HLW.out.grew HX6.out) (IsWd.of_seg HS6.out) (HM1.out.grew HX6.out) HK2.out
        rw [HSZ.out] at hrec
        have HREC := hid hrec
        clear hrec
        refine wpAnyG_one (i := 6) rfl (by kernel_rfl) ?_
        gi_wp2_with (refine ⟨trivial, ?_⟩; gi_at_call 129; refine (CallsIn.inRound l (callsIn_wide.2 HREC.out)).mono ?_; rintro e w7 ⟨rfl, n7, S7, hn7, hm7, hk7, hkp7⟩; have HN7 := hid hn7; have HM7 := hid hm7; have HK7 := hid hk7; have HKP7 := hid hkp7; clear hn7 hm7 hk7 hkp7)
        have hob6 := (HX6.out.block _ l8).trans HNUM.out
        have hob7 := HKP7.out.obj _ _ hob6 (fun h => hc8b h.1)
        have e8 : w7.cell? ⟨W2.heap.size, 0, none⟩ = some (.int .i64 (s : Int)) := cell_of_row _ _ _ _ _ _ hob7
        have e3 : w7.cell? ⟨w.heap.size, 0, none⟩ = some (.pointer (some ⟨B, 0, none⟩)) := cell_keeps HKP7.out (fun o ho h => not_map ho d3 h.2) d3
        have e5 : w7.cell? ⟨W0.heap.size, 0, none⟩ = some (.map (some bm)) := cell_keeps HKP7.out (fun o ho h => not_map ho d5 h.2) d5
        have g8 := frozen_obj hob7 0
        have HOB7 := hid hob7
        clear hob6 hob7
        refine ⟨fun _ => ⟨e8, e3, e5⟩, ?_⟩
        refine wpAnyG_one (i := 7) rfl (by kernel_rfl) ?_
        gi_wp2
        refine ⟨fun _ => ⟨e8, e3, e5⟩, ?_⟩
        refine wpAnyG_one (i := 8) rfl (by kernel_rfl) ?_
        gi_wp2
        refine ⟨gate_done (by kernel_rfl), ?_⟩
        refine wpAnyG_done (by kernel_rfl) ?_ _
        simp only [NoP]
        gi_wp2
        have hmT : ¬ T bm := fun h => by have := HI.out.far _ h; omega
        have h8T : ¬ T W2.heap.size := fun h => by have := HI.out.far _ h; omega
        have hks := keeps_setCell (may := fun k o => k = W2.heap.size) w7 W2.heap.size (.int .i64 ((s : Int) + (z : Int))) (fun _ _ => rfl)
        have hkall : Keeps (fun i o => i = W2.heap.size ∨ MapAt bm i o) W (w7.setCell ⟨W2.heap.size, 0, none⟩ (.int .i64 ((s : Int) + (z : Int)))) := (HX6.out.keeps.trans (HKP7.out.mono (fun _ _ h => .inr h))).trans (hks.mono (fun _ _ h => .inl h))
        refine ⟨hkall.mono (fun i o h => ?_), ?_, ?_, HI.out.keep.trans hkall, HI.out.far, ?_⟩
        · rcases h with rfl | h
          · exact ⟨h8T, .inl rfl, .inl h8l⟩
          · exact ⟨fun hT => hmT (h.1 ▸ hT), .inr (.inl h), .inl (by rw [h.1]; exact hbl)⟩
        · rw [heap_setCell_same _ _ _ _ _ _ HOB7.out, List.map_append, List.map_cons, List.map_nil, sumS_snoc, HS1.out, HLEFT.out, HZ.out]
          simp
        · refine ⟨n7, S7, HM7.out.keeps hks (fun es c h => hc8b h.symm), HK7.out, ?_⟩
          have h1 := HN7.out
          rw [hP] at h1 ⊢
          rw [List.length_append, List.length_singleton, Nat.add_mul, Nat.one_mul]
          omega
        · have h1 := HAT.out
          rw [List.map_append, List.length_append, List.length_singleton, List.map_cons, List.map_nil, h1]
          rw [List.take_append, List.take_of_length_le (by simp), List.length_map, show pre.length + 1 - pre.length = 1 by omega]
          rfl
      case done =>
        rintro D' xs' T W hD hS' hI hK'
        have hnum := hI.num
        have hsum : sumS D N xs (xs'.map (·.1)) = sizeM D N xs := by
          have hne : xs ≠ [] := by intro e; have := HKX.out; rw [e] at this; simp at this; omega
          rw [hS', sizeM_step hne]; rfl
        rw [hsum] at hnum
        have hzle : sizeM D N xs ≤ 60466176 := sizeM_le hN (by rw [HKX.out]; omega)
        obtain ⟨z, hz⟩ : ∃ z, sizeM D N xs = z := ⟨_, rfl⟩
        rw [hz] at hnum hzle
        have c8 : W.cell? ⟨W2.heap.size, 0, none⟩ = some (.int .i64 (z : Int)) := cell_of_row _ _ _ _ _ _ hnum
        have c5 : W.cell? ⟨W0.heap.size, 0, none⟩ = some (.map (some bm)) := cell_keeps hI.keep (fun o ho h => by
          rcases h with h | ⟨_, h⟩
          · omega
          · exact not_map ho HJ14.out h) HJ14.out
        have hw1W2 := lt_of_obj OD.out
        have od : W.heap[w1.heap.size]? = some (.cells #[.int .i64 a0, .int .i64 a1, .int .i64 a2, .int .i64 a3, .int .i64 a4, .int .i64 a5, .int .i64 a6, .int .i64 a7, .int .i64 a8, .int .i64 a9] 226 (0, 0)) := hI.keep.obj _ _ OD4.out (fun h => by
          rcases h with h | ⟨_, es, c, h⟩
          · omega
          · cases h)
        have dd : ∀ i, W.cell? ⟨w1.heap.size, i, none⟩ = (#[.int .i64 a0, .int .i64 a1, .int .i64 a2, .int .i64 a3, .int .i64 a4, .int .i64 a5, .int .i64 a6, .int .i64 a7, .int .i64 a8, .int .i64 a9] : Array Value)[i]? := fun i => cell_of_row _ _ _ _ _ _ od
        have d0 := dd 0
        have d1 := dd 1
        have d2 := dd 2
        have d3 := dd 3
        have d4 := dd 4
        have d5 := dd 5
        have d6 := dd 6
        have d7 := dd 7
        have d8 := dd 8
        have d9 := dd 9
        simp only [List.getElem?_toArray, List.getElem?_cons_zero, List.getElem?_cons_succ] at d0 d1 d2 d3 d4 d5 d6 d7 d8 d9
        obtain ⟨nn, S', hm1, hm2, hm3⟩ := hI.map
        have hpl : xs'.length ≤ 6 := by
          have h1 := congrArg List.length hS'
          have h2 := starts_length (D := D) N xs
          rw [List.length_map] at h1
          omega
        obtain ⟨P, hP⟩ : ∃ P, 7 ^ k = P := ⟨_, rfl⟩
        have hmP : 7 ^ m = 7 * P := by rw [HMK.out, Nat.pow_succ, hP, Nat.mul_comm]
        have hP1 : 1 ≤ P := by rw [← hP]; exact Nat.pow_pos (by omega)
        have hpP : xs'.length * P ≤ 6 * P := Nat.mul_le_mul_right _ hpl
        rw [hP] at hm3
        rw [hmP] at hn
        have HMP := hid hmP
        obtain ⟨W', hupd, hmap', hgrow'⟩ := hm1.update keyed98 (t := 195) Tryz.underlying195 Tryz.underlying3 (by unfold maxLen; omega) (x := keyV xs) HKL.out (fun y h => h) (e := z) (by omega) (S' := putS S' (keyV xs) z) (putS_same _ _ _) (fun y hy => putS_other _ _ _ hy)
        simp only [id] at hupd
        rw [HKV.out] at hupd
        have hkw : Keeps (MapAt bm) W W' := by
          obtain ⟨es, c, hobj⟩ := hm1.obj
          exact (Keeps.refl _ W).grown hgrow' (fun k o e ho => by cases e; rw [hobj] at ho; cases ho; exact ⟨rfl, _, _, rfl⟩)
        have e8 : W'.cell? ⟨W2.heap.size, 0, none⟩ = some (.int .i64 (z : Int)) := cell_keeps hkw (fun o ho h => not_map ho c8 h.2) c8
        have hK2 := hkw.obj _ _ hK' (fun h => by obtain ⟨_, es, c, h⟩ := h; cases h)
        have HMM := hid hmap'; have HKN := hid (hm2.put (xs := xs) (by rw [HKX.out]; omega) HW.out)
        have HKW := hid hkw; have HIK := hid hI.keep
        have hl8 := lt_of_obj hnum
        have HZZ := hid hz
        have hD0 : w.heap.size ≤ D' := by have := HGW.out.size; omega
        clear hmap' hm1 hm2 hI od dd hS' hnum hK' hgrow' hkw hz hsum
        gi_wp2
        refine leaves_marks w.heap.size [D'] W' (fun D2 h => by obtain rfl := List.mem_singleton.1 h; exact ⟨hD0, hK2⟩) (by simp) (fun W9 hkk => ⟨_, results_tmp rfl _ _ _, by rw [HZZ.out]; rfl, nn + 1, putS S' (keyV xs) z, by rw [HMP.out]; omega, HMM.out.keeps hkk (fun es c hm => by have := hm.1; omega), by rw [← HZZ.out]; exact HKN.out, ?_⟩)
        refine keeps_old ((HGW.out.keeps.trans (HIK.out.mono (fun i o h => ?_))).trans ((HKW.out.mono (fun i o h => .inr h)).trans (hkk.mono (fun i o h => .inl h.1))))
        rcases h with rfl | h
        · exact .inl (by omega)
        · exact .inr h

end Go.Proofs.YtmohnddglmolgaaGreatDoor.Kw
namespace Go.Proofs.YtmohnddglmolgaaGreatDoor.Kw
open Go Go.RowKit Go.Lin Go.Lin.Wv Go.Maps
attribute [local go_sem] Oper.semAt_some

theorem isWd_slice {w : World} {v : Value} {xs : List Int} (h : IsWd w v xs) : ∃ a c, v = .slice a xs.length c := let ⟨a, c, h, _⟩ := h; ⟨a, c, h⟩

/-- One word, laid as the list of words. -/
theorem rows_one {w : World} {v : Value} {xs : List Int} (h : IsInts Any w v xs) (ty : TypeId) : IsRows Any (w.alloc (.cells #[v] ty)) (.slice (some ⟨w.heap.size, 0, none⟩) 1 1) [xs] := by
  refine ⟨fun _ => v, ⟨_, _, rfl, by simp, fun i hi => ?_⟩, fun i hi => ?_⟩
  · obtain rfl : i = 0 := by simp at hi; omega
    exact ⟨_, _, _, rfl, heap_alloc_new w _, trivial, by simp⟩
  · obtain rfl : i = 0 := by simp at hi; omega
    exact Reads.grew h (grew_alloc (grew_refl w) _)

theorem rows_two {w : World} {v u : Value} {xs ys : List Int} (h : IsInts Any w v xs) (h2 : IsInts Any w u ys) (ty : TypeId) : IsRows Any (w.alloc (.cells #[v, u] ty)) (.slice (some ⟨w.heap.size, 0, none⟩) 2 2) [xs, ys] :=
  two_rows (by simp) (by simp) (Reads.grew h (grew_alloc (grew_refl w) _)) (Reads.grew h2 (grew_alloc (grew_refl w) _))

theorem rows_none (w : World) : IsRows Any w (.slice none 0 0) [] := ⟨fun _ => undef, Reads.nil _ _ _ _ _, fun i hi => by simp at hi⟩

theorem wrong_one {L : Lt} {xs : List Int} (h : wrong L [xs] = 0) : valid L = true ∧ isW L xs = true := by
  unfold wrong at h
  split at h
  · split at h
    · rename_i h1 h2; exact ⟨h1, by simpa using h2⟩
    · cases h
  · cases h

theorem wrong_two {L : Lt} {xs ys : List Int} (h : wrong L [xs, ys] = 0) : valid L = true ∧ isW L xs = true ∧ isW L ys = true := by
  unfold wrong at h
  split at h
  · split at h
    · rename_i h1 h2; simp at h2; exact ⟨h1, h2⟩
    · cases h
  · cases h

theorem isW_iff {L : Lt} {N : Nat} (hN : L.n = N) {xs : List Int} (h : isW L xs = true) : xs.length ≤ 10 ∧ ∀ z ∈ xs, 0 ≤ z ∧ z < (N : Int) := by
  unfold isW at h
  simp only [Bool.and_eq_true, decide_eq_true_eq, List.all_eq_true] at h
  refine ⟨h.1, fun z hz => ?_⟩
  have := h.2 z hz
  unfold isL at this
  simp only [Bool.and_eq_true, decide_eq_true_eq] at this
  omega

theorem known_none (D : Int → Int → Bool) (N : Nat) : Known D N (fun _ => none) := fun k v h => by cases h

theorem newLoom_ok (v : Value) (L : Lt) (wv : Value) (ws : List (List Int)) (w : World) (hn : L.n ≤ 9223372036854775807) (hv : IsLt w v L) (hw : IsRows Any w wv ws) (h0 : wrong L ws = 0) :
    Calls Tryz.prog 128 #[v, wv] w fun e w' => ∃ (B N : Nat), L.n = N ∧ 1 ≤ N ∧ N ≤ 6 ∧ e = .returned (.tuple #[.pointer (some ⟨B, 0, none⟩), .int .i64 0]) ∧ w.heap.size ≤ B ∧ Loom w' B (dep L) N ∧ Grew w w' :=
  (newLoom_any v L wv ws w hn hv hw).mono fun e w' ⟨hg, h⟩ => by
    rcases h with ⟨_, B, N, h1, h2, h3, h4, h5, h6⟩ | ⟨h, _⟩
    · exact ⟨B, N, h1, h2, h3, h4, h5, h6, hg⟩
    · exact absurd h0 h

theorem newLoom_bad (v : Value) (L : Lt) (wv : Value) (ws : List (List Int)) (w : World) (hn : L.n ≤ 9223372036854775807) (hv : IsLt w v L) (hw : IsRows Any w wv ws) (h0 : wrong L ws ≠ 0) :
    Calls Tryz.prog 128 #[v, wv] w fun e w' => e = .returned (.tuple #[.pointer none, .int .i64 (wrong L ws)]) ∧ Grew w w' :=
  (newLoom_any v L wv ws w hn hv hw).mono fun e w' ⟨hg, h⟩ => by
    rcases h with ⟨h, _⟩ | ⟨_, h⟩
    · exact absurd h h0
    · exact ⟨h, hg⟩

set_option maxHeartbeats 4000000 in
set_option maxRecDepth 20000 in
theorem size48_any (v : Value) (L : Lt) (wv : Value) (xs : List Int) (w : World) (hn : L.n ≤ 9223372036854775807) (hv : IsLt w v L) (hx : IsWd w wv xs) :
    Calls Tryz.prog 112 #[v, wv] w fun e w' => e = .returned (.tuple #[.int .i64 (if wrong L [xs] = 0 then (sizeM (dep L) L.n.toNat xs : Nat) else 0), .int .i64 (wrong L [xs])]) ∧ Grew w w' := by
  have HV := hid hv
  obtain ⟨s, rfl, hps⟩ := hv
  obtain ⟨xa, xc, rfl⟩ := isWd_slice hx
  obtain ⟨W0, hW0, g0, k0, k1, hz⟩ := box2 w (.int .i64 L.n) s 173
  obtain ⟨W1, hW1⟩ : ∃ W1, W0.alloc (.cells #[.slice xa xs.length xc] 39) = W1 := ⟨_, rfl⟩
  have g1 : Grew W0 W1 := by rw [← hW1]; exact grew_alloc (grew_refl _) _
  have g01 := grew_trans g0 g1
  obtain ⟨m, hm⟩ : ∃ m, xs.length = m := ⟨_, rfl⟩
  obtain ⟨r, hr⟩ : ∃ r, wrong L [xs] = r := ⟨_, rfl⟩
  rw [hr]
  have HM := hid hm; have HR := hid hr
  by_cases hr0 : r = 0
  · subst hr0
    obtain ⟨hv1, hw1⟩ := wrong_one hr
    have hok := newLoom_ok _ L _ [xs] W1 hn (HV.out.grew g01) (by rw [← hW1]; exact rows_one (Reads.grew hx.ints g0) 39) hr
    have HOK := hid hok; have HX := hid hx; have HG01 := hid g01; have HW1 := hid hw1
    rw [hm] at hW1 ⊢
    clear hps hr hx hm hok hv1 hw1
    have hrm := @run_makeMap Tryz.prog
    go_enter Tryz.func112, Tryz.ntmps112
    go_wp2_with (first
      | (go_at_call 128; (with_reducible refine HOK.out.mono ?_); go_loud (rintro e w1 ⟨B, N, hN, hN1, hN6, rfl, hB, hL, hg1⟩; have HL := hid hL; have HN := hid hN; have HG1 := hid hg1; obtain ⟨hl10, hlw⟩ := isW_iff hN HW1.out; have HLW := hid hlw; have HF := hid (first_any (dep L) B N xs _ w1 hN6 hlw (by omega) hL ((HX.out.grew HG01.out).grew hg1)); rw [HM.out] at HF; clear hN hL hg1 hlw))
      | (go_at_call 130; (with_reducible refine HF.out.mono ?_); rintro e w2 ⟨u, rfl, hs2, hg2⟩; have HS2 := hid hs2; have HG2 := hid hg2; clear hs2 hg2)
      | (go_at_call 129; go_loud (
          have hal := alike_first (dep_comm L) HLW.out
          have hlen : (first (dep L) N xs).length = m := by rw [← hal.length (dep_refl L), HM.out]
          have hfw : ∀ z ∈ first (dep L) N xs, 0 ≤ z ∧ z < (N : Int) := fun z hz => HLW.out z ((hal.perm (dep_refl L)).mem_iff.2 hz)
          have hm10 : m ≤ 10 := by rw [← HM.out]; exact hl10
          have h7 : (7 : Nat) ^ m ≤ 282475249 := Nat.le_trans (Nat.pow_le_pow_right (by decide) hm10) (by decide)
          refine (size_any (dep L) (dep_refl L) (dep_comm L) B N w2.heap.size hN6 m (first (dep L) N xs) u (w2.alloc (.map #[] 0)) 0 (fun _ => none) hlen hm10 (by omega) hfw ((HL.out.grew HG2.out).grew (grew_alloc (grew_refl _) _)) ((IsWd.of_seg HS2.out).grew (grew_alloc (grew_refl _) _)) (OMap.made w2 Tryz.prog 226 3 id) (known_none _ _)).mono ?_
          rintro e w3 ⟨rfl, n', S', hn', hm', hk', hkp⟩
          have HKP := hid (show Grew w2 w3 from (grew_alloc (grew_refl w2) (.map #[] 0)).trans (hkp.below (by simp) (fun k o hm => by have := hm.1; omega)))
          obtain ⟨z, hz⟩ : ∃ z, sizeM (dep L) N (first (dep L) N xs) = z := ⟨_, rfl⟩
          rw [hz]
          have HZ := hid (show sizeM (dep L) L.n.toNat xs = z by rw [HN.out, Int.toNat_natCast, sizeM_alike (dep_refl L) (dep_comm L) N hal, hz])
          clear hal hlen hfw h7 hn' hm' hk' hkp hz)))
    go_ret2
    exact ⟨by rw [HZ.out]; rfl, grew_trans HG01.out (grew_trans HG1.out (grew_trans HG2.out HKP.out))⟩
  · have hbad := newLoom_bad _ L _ [xs] W1 hn (HV.out.grew g01) (by rw [← hW1]; exact rows_one (Reads.grew hx.ints g0) 39) (by rw [hr]; exact hr0)
    rw [hr] at hbad
    have hne : (r != 0) = true := by simpa using hr0
    have HB := hid hbad; have HG01 := hid g01; have HR0 := hid hr0
    rw [hm] at hW1 ⊢
    clear hps hr hx hm hbad hr0
    go_enter Tryz.func112, Tryz.ntmps112
    go_wp2_with (go_at_call 128; (with_reducible refine HB.out.mono ?_); rintro e w1 ⟨rfl, hg1⟩; have HG1 := hid hg1; clear hg1)
    go_ret2
    exact ⟨by first | rfl | (rw [if_neg HR0.out]; rfl), grew_trans HG01.out HG1.out⟩

theorem awake_L : wrong ⟨3, [(0, 1)]⟩ [[2, 0, 1]] = 0 ∧ sizeM (dep ⟨3, [(0, 1)]⟩) 3 [2, 0, 1] = 3 := by decide

end Go.Proofs.YtmohnddglmolgaaGreatDoor.Kw
namespace Go.Lin
open Go

theorem all_range_int : ∀ (xs ys : List Int), xs.length = ys.length → ((List.range xs.length).all fun i => xs.getD i 0 == ys.getD i 0) = (xs == ys)
  | [], [], _ => rfl
  | x :: xs, y :: ys, h => by
    rw [List.length_cons, List.range_succ_eq_map, List.all_cons, List.all_map]
    simp only [List.getD_cons_zero, Function.comp_def, List.getD_cons_succ, all_range_int xs ys (by simpa using h)]
    simp [List.cons_beq_cons]
  | [], _ :: _, h => by simp at h
  | _ :: _, [], h => by simp at h

/-- Two arrays of ints, compared. -/
theorem run_equalIn_ints {P : Program} (w : World) (d : Nat) (t e : TypeId) (n : Nat) (ht : P.underlying t = some (.array n e)) (he : P.underlying e = some (.int .i64)) (hsz : ∀ w, (sizeOf e).run P w = .ok 1 w)
    (xs ys : List Int) (hx : xs.length = n) (hy : ys.length = n) :
    (Op.equalIn (d + 2) t (.agg (xs.map (Value.int .i64)).toArray) (.agg (ys.map (Value.int .i64)).toArray)).run P w = .ok (xs == ys) w := by
  rw [← all_range_int xs ys (hx.trans hy.symm), hx, List.range_eq_range', Op.equalIn]
  simp only [Sem.run_bind, run_underlying ht, Result.andThen_ok, hsz, Std.Legacy.Range.forIn_eq_forIn_range', Std.Legacy.Range.size, Nat.sub_zero, Nat.add_sub_cancel, Nat.div_one]
  have hl : ∀ i ∈ List.range' 0 n 1, i < n := fun i hi => by simpa using (List.mem_range'_1.1 hi).2
  generalize List.range' 0 n 1 = l at hl ⊢
  induction l with
  | nil => simp
  | cons i l ih =>
    have hi : i < n := hl i (by simp)
    have px : (part e (xs.map (Value.int .i64)).toArray (i * 1)).run P w = .ok (.int .i64 (xs.getD i 0)) w := by
      simp [part, isAgg, run_underlying he, List.getD, List.getElem?_eq_getElem (show i < xs.length by omega)]
    have py : (part e (ys.map (Value.int .i64)).toArray (i * 1)).run P w = .ok (.int .i64 (ys.getD i 0)) w := by
      simp [part, isAgg, run_underlying he, List.getD, List.getElem?_eq_getElem (show i < ys.length by omega)]
    have pe := run_equalIn_int (P := P) w d e .i64 .i64 (xs.getD i 0) (ys.getD i 0) he
    simp only [List.forIn_cons, Sem.run_bind, px, py, pe, Result.andThen_ok, List.all_cons]
    cases hb : (xs.getD i 0 == ys.getD i 0)
    · simp
    · simp only [Bool.not_true, Bool.false_eq_true, if_false, Sem.run_pure, Result.andThen_ok, Bool.true_and]
      exact ih fun j hj => hl j (by simp [hj])

theorem run_equal57 {P : Program} (w : World) (d : Nat) (t e : TypeId) (ht : P.underlying t = some (.array 2 e)) (he : P.underlying e = some (.int .i64)) (hsz : ∀ w, (sizeOf e).run P w = .ok 1 w) (a b c d' : Int) :
    (Op.equalIn (d + 2) t (.agg #[.int .i64 a, .int .i64 b]) (.agg #[.int .i64 c, .int .i64 d'])).run P w = .ok ((a, b) == (c, d')) w := by
  have h := run_equalIn_ints w d t e 2 ht he hsz [a, b] [c, d'] rfl rfl
  have e1 : ([a, b] == [c, d']) = ((a, b) == (c, d')) := by
    rw [Bool.eq_iff_iff]; simp
  rw [e1] at h
  exact h

end Go.Lin
namespace Go.Lin.Wv

theorem not_mem_succ {s : List (Int × Int)} {i : Nat} {y x : Int × Int} (h : s[i]? = some y) : (s.take (i + 1)).contains x = ((s.take i).contains x || (x == y)) := by
  rw [take_add_get h, List.contains_eq_any_beq, List.contains_eq_any_beq, List.any_append]
  simp

end Go.Lin.Wv
namespace Go.Proofs.YtmohnddglmolgaaGreatDoor.Kw
open Go.RowKit Go.Lin Go.Lin.Wv

theorem eq57 (a b c d : Int) (w : World) : (Op.equalIn 10000 170 (.agg #[.int .i64 a, .int .i64 b]) (.agg #[.int .i64 c, .int .i64 d])).run Tryz.prog w = .ok ((a, b) == (c, d)) w :=
  run_equal57 w 9998 170 3 Tryz.underlying170 Tryz.underlying3 (fun _ => by kernel_rfl) a b c d

set_option maxHeartbeats 8000000 in
set_option maxRecDepth 20000 in
theorem rValid_any (v : Value) (L : Lt) (w : World) (hv : IsLt w v L) : Calls Tryz.prog 149 #[v] w fun e w' => e = .returned (.bool (valid L)) ∧ Grew w w' := by
  obtain ⟨N, ps⟩ := L
  obtain ⟨s, rfl, va, vc, rfl, hm, hdd⟩ := hv
  simp only at hm hdd ⊢
  obtain ⟨m, hmm⟩ : ∃ m, ps.length = m := ⟨_, rfl⟩
  obtain ⟨W0, hW0, g0, k0, k1, hz⟩ := box2 w (.int .i64 N) (.slice va m vc) 173
  rw [hmm] at hm ⊢
  obtain ⟨R, hR⟩ : ∃ R, valid ⟨N, ps⟩ = R := ⟨_, rfl⟩
  rw [hR]
  have HR := hid (show R = (pairsOk N (ps.take 0) (ps.drop 0) && (decide (1 ≤ N) && decide (N ≤ 6))) from by rw [← hR]; rfl)
  have HM := hid hmm
  have HDD := hid hdd
  have hg := g0
  have heq := eq57
  clear hmm hdd hR
  by_cases h16 : 1 ≤ N ∧ N ≤ 6
  · obtain ⟨h1, h6⟩ := h16
    have hn1 : ¬ N < 1 := by omega
    have hn6 : ¬ 6 < N := by omega
    go_enter Tryz.func149, Tryz.ntmps149
    go_wp2
    go_loopg [3, 4, 18] m (fun k _ _ i wr => ∃ j : Nat, j ≤ m ∧ i = .int .i64 j ∧ k = m - j ∧ Hid (R = (pairsOk N (ps.take j) (ps.drop j) && (decide (1 ≤ N) && decide (N ≤ 6)))) ∧ Hid (Grew W0 wr))
    case atStart => exact ⟨0, by omega, rfl, rfl, HR, hid (grew_refl _)⟩
    case round =>
      obtain ⟨j, hj, rfl, hk, HRR, HG⟩ := hrel
      have HK := hid hk; clear hk
      rename World => wr
      have kw0 := (HG.out.cell (p := ⟨w.heap.size, 0, none⟩) hz).trans k0
      have kw1 := (HG.out.cell (p := ⟨w.heap.size, 1, none⟩) hz).trans k1
      have hzw := Nat.lt_of_lt_of_le hz HG.out.size
      by_cases hlt : j < m
      · obtain ⟨x, hx⟩ : ∃ x, ps[j]? = some x := ⟨_, List.getElem?_eq_getElem (by rw [HM.out]; exact hlt)⟩
        obtain ⟨bb, off, rfl, hpa⟩ := HDD.out j x hx
        have hpa2 := ((hpa.grew hpa.lt g0).grew (hpa.grew hpa.lt g0).lt HG.out)
        have c0 := hpa2.c0
        have c1 := hpa2.c1
        have hlt2 := hpa2.lt
        have hsucc := pairsOk_drop (n := N) (s := ps.take j) hx
        rw [← take_add_get hx] at hsucc
        obtain ⟨x1, x2⟩ := x
        simp only at c0 c1
        obtain ⟨W1, hW1, g1, l0, l1, hz1⟩ := box2 wr (.int .i64 x1) (.int .i64 x2) 170
        have HG1 := hid (grew_trans HG.out g1)
        have kx0 := (g1.cell (p := ⟨w.heap.size, 0, none⟩) hzw).trans kw0
        have kx1 := (g1.cell (p := ⟨w.heap.size, 1, none⟩) hzw).trans kw1
        have hzx := Nat.lt_of_lt_of_le hzw g1.size
        cases hpo : pairOk N (x1, x2) with
        | false =>
          have hrn : R = false := by rw [HRR.out, hsucc, hpo]; rfl
          have HRN := hid hrn
          unfold pairOk at hpo
          simp only [Bool.not_eq_false', Bool.or_eq_true, decide_eq_true_eq] at hpo
          have hcase : x1 < 0 ∨ (¬ x1 < 0 ∧ x2 < 0) ∨ (¬ x1 < 0 ∧ ¬ x2 < 0 ∧ x1 ≥ N) ∨ (¬ x1 < 0 ∧ ¬ x2 < 0 ∧ ¬ x1 ≥ N ∧ x2 ≥ N) ∨ (¬ x1 < 0 ∧ ¬ x2 < 0 ∧ ¬ x1 ≥ N ∧ ¬ x2 ≥ N ∧ x1 ≥ x2) := by omega
          clear hrn hsucc hx hpa hpa2 hpo
          rcases hcase with h | ⟨h1', h⟩ | ⟨h1', h2', h⟩ | ⟨h1', h2', h3', h⟩ | ⟨h1', h2', h3', h4', h⟩
          all_goals (
            go_wp2
            go_ret
            exact ⟨by rw [HRN.out]; rfl, grew_trans g0 HG1.out⟩)
        | true =>
          rw [hpo] at hsucc
          have hpo2 := hpo
          unfold pairOk at hpo2
          simp only [Bool.not_eq_true', Bool.or_eq_false_iff, decide_eq_false_iff_not] at hpo2
          obtain ⟨⟨h1', h2'⟩, h3'⟩ := hpo2
          have q2 : ¬ x2 < 0 := by omega
          have q3 : ¬ x1 ≥ N := by omega
          have q4 : ¬ x2 ≥ N := by omega
          have q5 : ¬ x1 ≥ x2 := by omega
          have hjc : j ≤ vc := by omega
          have hij0 : (0 : Int) ≤ (j : Int) := by omega
          have hijc : (j : Int) ≤ (vc : Int) := by omega
          have HSC := hid hsucc
          have HX := hid hx
          clear hsucc hx hpa hpa2 hpo h2' h3' hij0
          go_wp2
          go_loopg [6, 57] j (fun k2 _ i wr2 => ∃ i2 : Nat, i2 ≤ j ∧ i = .int .i64 i2 ∧ Hid (k2 = j - i2) ∧ Hid ((ps.take i2).contains (x1, x2) = false) ∧ Hid (Grew W1 wr2))
          case atStart => exact ⟨0, by omega, rfl, hid rfl, hid (by simp), hid (grew_refl _)⟩
          case round =>
            obtain ⟨i2, hi2, rfl, HK2, HC2, HG2⟩ := hrel
            rename World => wr2
            have jx0 := (HG2.out.cell (p := ⟨w.heap.size, 0, none⟩) hzx).trans kx0
            have jx1 := (HG2.out.cell (p := ⟨w.heap.size, 1, none⟩) hzx).trans kx1
            have jl0 := (HG2.out.cell (p := ⟨wr.heap.size, 0, none⟩) hz1).trans l0
            have jl1 := (HG2.out.cell (p := ⟨wr.heap.size, 1, none⟩) hz1).trans l1
            have hzy := Nat.lt_of_lt_of_le hz1 HG2.out.size
            by_cases hlt2' : i2 < j
            · obtain ⟨y, hy⟩ : ∃ y, ps[i2]? = some y := ⟨_, List.getElem?_eq_getElem (by rw [HM.out]; omega)⟩
              obtain ⟨bb2, off2, hva2, hpb⟩ := HDD.out i2 y hy
              simp only [Option.some.injEq, Addr.mk.injEq] at hva2
              obtain ⟨rfl, rfl, -⟩ := hva2
              have hpb2 := ((hpb.grew hpb.lt g0).grew (hpb.grew hpb.lt g0).lt HG1.out)
              have hpb3 := hpb2.grew hpb2.lt HG2.out
              have b0 := hpb3.c0
              have b1 := hpb3.c1
              have blt := hpb3.lt
              have hns := not_mem_succ (x := (x1, x2)) hy
              rw [HC2.out, Bool.false_or] at hns
              obtain ⟨y1, y2⟩ := y
              simp only at b0 b1
              have hby := fun (yw : World) => heq x1 x2 y1 y2 yw
              obtain ⟨q, hq⟩ : ∃ q, ((x1, x2) == (y1, y2)) = q := ⟨_, rfl⟩
              rw [hq] at hns
              simp only [hq] at hby
              have HNS := hid hns
              have HY := hid hy
              obtain ⟨W2, hW2, g2, m0, m1, hz2⟩ := box2 wr2 (.int .i64 y1) (.int .i64 y2) 170
              have HG3 := hid (grew_trans HG2.out g2)
              have nl0 := (g2.cell (p := ⟨wr.heap.size, 0, none⟩) hzy).trans jl0
              have nl1 := (g2.cell (p := ⟨wr.heap.size, 1, none⟩) hzy).trans jl1
              have hzz := Nat.lt_of_lt_of_le hzy g2.size
              clear hns hy hpb hpb2 hpb3 heq hq
              cases q
              · go_wp2
                go_roundg (j - (i2 + 1))
                case measure => have := HK2.out; omega
                case rel => exact ⟨i2 + 1, by omega, by go_num, hid rfl, hid HNS.out, hid HG3.out⟩
              · have hmem : (ps.take j).contains (x1, x2) = true := by
                  have h1 := HNS.out
                  rw [List.contains_iff_mem] at h1 ⊢
                  have hsub : (ps.take (i2 + 1)).Sublist (ps.take j) := (List.take_prefix_take_left (by omega)).sublist
                  exact hsub.subset h1
                have hrn : R = false := by rw [HRR.out, HSC.out, hmem]; rfl
                have HRN := hid hrn
                clear hmem hrn
                go_wp2
                go_ret
                exact ⟨by rw [HRN.out]; rfl, grew_trans g0 (grew_trans HG1.out HG3.out)⟩
            · obtain rfl : j = i2 := by omega
              go_wp2
              go_roundg (m - (j + 1))
              case measure => have := HK.out; omega
              case rel => exact ⟨j + 1, by omega, by go_num, rfl, hid (by rw [HRR.out, HSC.out, HC2.out]; rfl), hid (grew_trans HG1.out HG2.out)⟩
      · obtain rfl : m = j := by omega
        have hrn : R = true := by
          rw [HRR.out, List.drop_of_length_le (by rw [HM.out]; exact Nat.le_refl _)]; simp [pairsOk, h1, h6]
        have HRN := hid hrn
        clear hrn
        go_wp2
        go_ret
        exact ⟨by rw [HRN.out]; rfl, grew_trans g0 HG.out⟩
  · have hrn : R = false := by
      rw [HR.out]
      have : (decide (1 ≤ N) && decide (N ≤ 6)) = false := by
        rw [Bool.eq_false_iff]; intro h; simp at h; exact h16 h
      rw [this, Bool.and_false]
    have HRN := hid hrn
    clear hrn
    by_cases hn1 : N < 1
    · go_enter Tryz.func149, Tryz.ntmps149
      go_wp2
      go_ret
      exact ⟨by rw [HRN.out]; rfl, hg⟩
    · have hn6 : 6 < N := by omega
      go_enter Tryz.func149, Tryz.ntmps149
      go_wp2
      go_ret
      exact ⟨by rw [HRN.out]; rfl, hg⟩

end Go.Proofs.YtmohnddglmolgaaGreatDoor.Kw
namespace Go.Lin.Wv

theorem wrong_nil (L : Lt) (x : List Int) : wrong L [x, []] = wrong L [x] := by
  unfold wrong
  simp [isW]

theorem wrong_cases (L : Lt) (ws : List (List Int)) : wrong L ws = 0 ∨ wrong L ws = 30 ∨ wrong L ws = 31 := by
  unfold wrong
  split
  · split <;> simp
  · simp

end Go.Lin.Wv
namespace Go.Proofs.YtmohnddglmolgaaGreatDoor.Kw
open Go.RowKit Go.Lin Go.Lin.Wv

set_option maxHeartbeats 2000000 in
theorem asked_any (v : Value) (L : Lt) (wv uv : Value) (x y : List Int) (w : World) (hv : IsLt w v L) (hx : IsInts Any w wv x) (hy : IsInts Any w uv y) :
    Calls Tryz.prog 126 #[v, wv, uv] w fun e w' => e = .returned (.int .i64 (wrong L [x, y])) ∧ Grew w w' := by
  have HVA := hid (fun (W : World) (hW : Grew w W) => rValid_any v L W (hv.grew hW))
  have HWX := hid (fun (W : World) (hW : Grew w W) => isW_any v L wv x W (hv.grew hW) (Reads.grew hx hW))
  have HWY := hid (fun (W : World) (hW : Grew w W) => isW_any v L uv y W (hv.grew hW) (Reads.grew hy hW))
  obtain ⟨s, rfl, -⟩ := hv
  obtain ⟨W0, hW0, g0, k0, k1, hz⟩ := box2 w (.int .i64 L.n) s 173
  have HW := hid (show wrong L [x, y] = if valid L then (if isW L x && isW L y then 0 else 31) else 30 from by unfold wrong; simp)
  obtain ⟨r, hr⟩ : ∃ r, wrong L [x, y] = r := ⟨_, rfl⟩
  rw [hr] at HW ⊢
  obtain ⟨p, hp⟩ : ∃ p, valid L = p := ⟨_, rfl⟩
  obtain ⟨q1, hq1⟩ : ∃ p, isW L x = p := ⟨_, rfl⟩
  obtain ⟨q2, hq2⟩ : ∃ p, isW L y = p := ⟨_, rfl⟩
  have hW2 := HW.out
  rw [hp, hq1, hq2] at hW2
  rw [hp] at HVA; rw [hq1] at HWX; rw [hq2] at HWY
  have hg := grew_refl W0
  clear HW hr hx hy hp hq1 hq2
  cases p <;> cases q1 <;> cases q2
  all_goals (
    simp only [Bool.and_true, Bool.and_false, Bool.and_self, if_true, if_false, Bool.false_eq_true] at hW2
    subst hW2
    go_enter Tryz.func126, Tryz.ntmps126
    go_wp2_with (first
      | (go_at_call 149; (with_reducible refine (HVA.out _ (grew_trans g0 hg)).mono ?_); rintro e w1 ⟨rfl, hx⟩; replace hg := grew_trans hg hx; have hc := (bcell hg).1; clear hx)
      | (go_at_call 150; (with_reducible refine (HWX.out _ (grew_trans g0 hg)).mono ?_); rintro e w2 ⟨rfl, hx⟩; replace hg := grew_trans hg hx; have hc := (bcell hg).1; clear hx)
      | (go_at_call 150; (with_reducible refine (HWY.out _ (grew_trans g0 hg)).mono ?_); rintro e w2 ⟨rfl, hx⟩; replace hg := grew_trans hg hx; have hc := (bcell hg).1; clear hx))
    go_ret
    exact ⟨rfl, grew_trans g0 hg⟩)

end Go.Proofs.YtmohnddglmolgaaGreatDoor.Kw
namespace Go.Proofs.YtmohnddglmolgaaGreatDoor.Kw
open Go.RowKit Go.Lin Go.Lin.Wv

theorem wd_nil (w : World) : IsWd w (.slice none 0 0) [] := ⟨none, 0, rfl, by simp, Reads.nil _ _ _ _ _⟩

end Go.Proofs.YtmohnddglmolgaaGreatDoor.Kw
