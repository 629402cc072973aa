/- Walks: what starts returns is ranged over: the first letters, in order, each with what is left. -/
import Derived.Test.YtddnpooffcjhnaaWvNew2
import Derived.Test.YtddnpooffcjhnaaWvPlain2
import Derived.Test.YtddnpooffcjhnaaRangeSepM
import Derived.RangeFuncNested
import Derived.Shelf.Abstract
import Derived.Shelf.RegionOpen
import Derived.TacticsInMore
import Derived.LoopNIn
import Derived.LoopIn
import Derived.Sort.LoopGhostIn
namespace Go.Lin.Wv

/-- A letter, and the slice of what is left. -/
abbrev SX := Int × Value
def encS (x : SX) : Array Value := #[.int .i64 x.1, x.2]

/-- Cells of ints. -/
def IntCells (_ : Nat) (o : Obj) : Prop := ∃ c fr, o = .cells c 3 fr

theorem free_pos {D : Int → Int → Bool} {j : Int} {w : List Int} {i : Nat} (h : free D w j = some i) : rem D w j = w.eraseIdx i := by unfold rem; rw [h]

theorem starts_prefix {D : Int → Int → Bool} {w : List Int} {j : Nat} : ∀ {n : Nat}, j ≤ n → ∃ t, starts D n w = starts D j w ++ t
  | 0, h => ⟨[], by obtain rfl : j = 0 := by omega
                    simp⟩
  | n + 1, h => by
    by_cases he : j = n + 1
    · subst he; exact ⟨[], by simp⟩
    · obtain ⟨t, ht⟩ := starts_prefix (D := D) (w := w) (j := j) (n := n) (by omega)
      rw [starts_succ, ht]
      split
      · exact ⟨t ++ [(n : Int)], by simp⟩
      · exact ⟨t, rfl⟩

theorem starts_split {D : Int → Int → Bool} {n a : Nat} {w : List Int} {i : Nat} (ha : a < n) (hf : free D w a = some i) : starts D n w = starts D a w ++ (a : Int) :: (starts D n w).drop ((starts D a w).length + 1) := by
  obtain ⟨t, ht⟩ := starts_prefix (D := D) (w := w) (j := a + 1) (n := n) (by omega)
  have h2 : starts D (a + 1) w = starts D a w ++ [(a : Int)] := by rw [starts_succ, hf]; rfl
  rw [ht, h2]
  have : (starts D a w ++ [(a : Int)] ++ t).drop ((starts D a w).length + 1) = t := by
    rw [List.drop_append_of_le_length (by simp)]
    simp
  rw [this]
  simp

end Go.Lin.Wv
namespace Go.Proofs.Ytddnpooffcjhnaa
open Go Go.RowKit Go.Lin Go.Lin.Wv Go.Maps
attribute [local go_sem] Oper.semAt_some

theorem cell_keeps {w w' : World} {may : Nat → Obj → Prop} (hk : Keeps may w w') {b o : Nat} {v : Value} (hm : ∀ x, w.heap[b]? = some x → ¬ may b x) (h : w.cell? ⟨b, o, none⟩ = some v) : w'.cell? ⟨b, o, none⟩ = some v := by
  have hlt := World.block_lt_of_cell? w _ h
  simp only at hlt
  have ho : w.heap[b]? = some w.heap[b] := Array.getElem?_eq_getElem hlt
  exact cell_of_obj ho (hk.obj _ _ ho (hm _ ho)) h

theorem Loom.keeps {w w' : World} {B : Nat} {D : Int → Int → Bool} {N : Nat} {may : Nat → Obj → Prop} (h : Loom w B D N) (hk : Keeps may w w') (hm : ∀ x, w.heap[B]? = some x → ¬ may B x) : Loom w' B D N :=
  ⟨Nat.lt_of_lt_of_le h.lt hk.size, cell_keeps hk hm h.c0, fun a b ha hb => cell_keeps hk hm (h.cs a b ha hb)⟩

theorem fn100 : Fence.wide.fn 100 := trivial
theorem skip_fn {f : FuncId} (hf : Fence.wide.fn f) {K : Act → World → Prop} {a : Act} {w : World} (h : K a w) : Fence.wide.fn f ∧ K a w := ⟨hf, h⟩
theorem skip_none {K : Act → World → Prop} {a : Act} {w : World} (h : K a w) : (∀ f, (none : Option FuncId) = some f → Fence.wide.fn f) ∧ K a w := ⟨fun _ h => (by cases h), h⟩

/-- What is told of x when it is handed over behind pre. -/
structure HasS (n₀ : Nat) (D : Int → Int → Bool) (N : Nat) (xs : List Int) (pre : List SX) (x : SX) (W : World) : Prop where
  mem : x.1 ∈ starts D N xs
  at' : starts D N xs = pre.map (·.1) ++ x.1 :: (starts D N xs).drop (pre.length + 1)
  left : WdOff (fun k o => IntCells k o ∧ n₀ ≤ k) W x.2 (rem D xs x.1)

theorem HasS.keeps {n₀ : Nat} {D : Int → Int → Bool} {N : Nat} {xs : List Int} {pre : List SX} {x : SX} {W W' : World} {may : Nat → Obj → Prop} (h : HasS n₀ D N xs pre x W) (hk : Keeps may W W') (hm : ∀ k c fr, ¬ may k (.cells c 3 fr)) : HasS n₀ D N xs pre x W' :=
  ⟨h.mem, h.at', h.left.keeps hk (fun k _ ⟨⟨c, fr, ho⟩, _⟩ hmm => hm k c fr (ho ▸ hmm))⟩

theorem wdOff_of_seg {w : World} {base : Nat} {v : Value} {n : Nat} {xs : List Int} (h : Seg w base 3 1 v n (xs.map (.int .i64))) : WdOff (fun k o => IntCells k o ∧ base ≤ k) w v xs := by
  obtain ⟨a, c, h1, h2, _⟩ := IsWd.of_seg h
  exact ⟨⟨a, c, h1, h2⟩, Reads.mono h.isInts (fun _ o h => let ⟨hb, cur, ho⟩ := h; ⟨⟨cur, _, ho⟩, hb⟩)⟩

set_option maxHeartbeats 4000000 in
set_option maxRecDepth 100000 in
theorem starts_stops (D : Int → Int → Bool) (B N : Nat) (xs : List Int) (c1 c2 : Nat) (wv : Value) (w : World) (nf : Nat) (hnf : 3 ≤ nf) (hN : N ≤ 6) (hw : ∀ z ∈ xs, 0 ≤ z ∧ z < (N : Int)) (hlen : xs.length ≤ 100) (hL : Loom w B D N)
    (h1 : w.cell? ⟨c1, 0, none⟩ = some (.pointer (some ⟨B, 0, none⟩))) (h2 : w.cell? ⟨c2, 0, none⟩ = some wv) (may : Nat → Obj → Prop) (hmB : ∀ x, w.heap[B]? = some x → ¬ may B x) (hm1 : ∀ x, w.heap[c1]? = some x → ¬ may c1 x) (hm2 : ∀ x, w.heap[c2]? = some x → ¬ may c2 x) (hx : WdOff (fun k o => ¬ may k o) w wv xs) :
    SeqT Fence.wide nf Try.prog 104 #[] #[.pointer (some ⟨c1, 0, none⟩), .pointer (some ⟨c2, 0, none⟩)] encS may (HasS w.heap.size D N xs) (fun ys => ys.map (·.1) = starts D N xs) w := by
  intro l J Jx W hgW hJ hY h0
  have hz1 := World.block_lt_of_cell? w _ h1
  have hz2 := World.block_lt_of_cell? w _ h2
  simp only at hz1 hz2
  have HJ := hid hJ; have HY := hid hY; have HL := hid hL; have HX := hid hx; have HW := hid hw
  have HJ0 := hid h0
  have HWS := hgW.size
  have kB := (hgW.cell (p := ⟨B, 0, none⟩) hL.lt).trans hL.c0
  have k1 := (hgW.cell (p := ⟨c1, 0, none⟩) hz1).trans h1
  have k2 := (hgW.cell (p := ⟨c2, 0, none⟩) hz2).trans h2
  have hBl := hL.lt
  clear hJ hY hL hx hw h0
  have hn1 : 1 ≤ nf := by omega
  refine callsIn_of_wp Try.func104 rfl trivial ?_ rfl
  simp only [Try.ntmps104, List.size_toArray, List.length_cons, List.length_nil, Nat.reduceAdd, Nat.reduceSub, Array.replicate_succ, Array.replicate_zero, List.push_toArray, List.append_toArray, List.nil_append, List.cons_append]
  gi_wp2
  gi_loopg [4, 5, 10] N (fun g _ _ i wr => ∃ (a : Nat) (pre : List SX) (T : Nat → Prop), a ≤ N ∧ i = .int .i64 (a : Int) ∧ Hid (g = N - a) ∧ Hid (J pre T wr) ∧ Hid (Keeps (fun k o => may k o) w wr) ∧ Hid (∀ k, T k → w.heap.size ≤ k ∧ k < wr.heap.size) ∧ Hid (pre.map (·.1) = starts D a xs))
  case atStart => exact ⟨0, [], _, by omega, rfl, hid rfl, HJ0, hid hgW.keeps, hid (fun k h => h.elim), hid rfl⟩
  case round =>
    clear HJ0
    obtain ⟨a, pre, T, ha, rfl, HG, HJd, HB, HT, HP⟩ := hrel
    rename World => wr
    have hs := HB.out.size
    have kB' := (HL.out.keeps HB.out hmB).c0
    have k1' := cell_keeps HB.out hm1 h1
    have k2' := cell_keeps HB.out hm2 h2
    by_cases hlt : a < N
    · have hst := start_any B N a wv xs wr hN hlt HW.out (HL.out.keeps HB.out hmB) (HX.out.keeps HB.out (fun _ _ h hn => h hn)).wd.ints
      cases hf : free D xs a with
      | none =>
        rw [hf] at hst
        rw [show ix none = -1 from rfl] at hst
        have HST := hid hst
        have HSU := hid (show starts D (a + 1) xs = starts D a xs by rw [starts_succ, hf]; rfl)
        clear hst hf
        gi_wp2_with (first | (refine ⟨trivial, ?_⟩; gi_at_call 99; refine (callsIn_wide.2 HST.out).mono ?_; rintro e w1 ⟨rfl, hx1⟩; have HX1 := hid hx1; clear hx1) | (with_reducible refine skip_fn fn100 ?_) | (with_reducible refine skip_none ?_))
        gi_roundg (N - (a + 1))
        case measure => have := HG.out; omega
        case rel =>
          exact ⟨a + 1, pre, T, by omega, by go_num, hid rfl, hid (HJ.out _ _ _ _ HJd.out HX1.out.keeps _ (fun k h => ⟨.inl h, by have := HT.out k h; have := HX1.out.size; omega⟩)), hid (HB.out.trans HX1.out.keeps), hid (fun k h => by have := HT.out k h; have := HX1.out.size; omega), hid (by rw [HSU.out]; exact HP.out)⟩
      | some i =>
        rw [hf] at hst
        rw [show ix (some i) = (i : Int) from rfl] at hst
        have HST := hid hst
        obtain ⟨hil, _⟩ := free_lt hf
        have hmem : (a : Int) ∈ starts D N xs := mem_starts.2 ⟨by omega, by rw [hf]; rfl⟩
        have HMEM := hid hmem
        have HSU := hid (show starts D (a + 1) xs = starts D a xs ++ [(a : Int)] by rw [starts_succ, hf]; rfl)
        have HREM := hid (free_pos hf)
        have HAT := hid (show starts D N xs = pre.map (·.1) ++ (a : Int) :: (starts D N xs).drop (pre.length + 1) by
          have hpl : pre.length = (starts D a xs).length := by rw [← HP.out, List.length_map]
          rw [HP.out, hpl]
          exact starts_split hlt hf)
        have hi0 : (0 : Int) ≤ (i : Int) := by omega
        clear hst hf hmem
        gi_wp2_with (first
          | (refine ⟨trivial, ?_⟩; gi_at_call 99; refine (callsIn_wide.2 HST.out).mono ?_; rintro e w1 ⟨rfl, hx1⟩; have HX1 := hid hx1; have m2 := (hx1.cell (p := ⟨c2, 0, none⟩) (by show c2 < _; omega)).trans k2'; clear hx1)
          | (refine ⟨trivial, ?_⟩; gi_at_call 100; refine (callsIn_wide.2 (without_any wv xs i w1 hil hlen ((HX.out.keeps HB.out (fun _ _ h hn => h hn)).wd.grew HX1.out))).mono ?_; rintro e w2 ⟨lv, rfl, hs2, hx2⟩; have HS2 := hid hs2; have HX2 := hid (grew_trans HX1.out hx2)
             have hJ1 : J pre (fun k => T k ∨ (wr.heap.size ≤ k ∧ k < w2.heap.size)) w2 := HJ.out pre T wr w2 HJd.out HX2.out.keeps _ (fun k h => by
               rcases h with h | h
               · have := HT.out k h; have := HX2.out.size; exact ⟨.inl h, by omega⟩
               · exact ⟨.inr h.1, h.2⟩)
             have hh1 : HasS w.heap.size D N xs pre ((a : Int), lv) w2 := ⟨HMEM.out, HAT.out, by rw [HREM.out]; exact wdOff_of_seg (HS2.out.mono (by have := HX1.out.size; omega))⟩
             have hy := HY.out pre _ ((a : Int), lv) w2 hJ1 hh1
             dsimp only [encS] at hy
             obtain ⟨fn, tmps, assign, body, hy, hR⟩ := hy
             clear hs2 hx2 hJ1 hh1))
        refine hR.mono ?_
        rintro e W3 (⟨rfl, hJ3, hk3⟩ | ⟨rfl, hJx3⟩)
        · clear hy hR
          have hb3 : Keeps (fun k o => may k o) w W3 := (HB.out.trans HX2.out.keeps).trans (hk3.mono (fun k o h => h.2))
          have HB3 := hid hb3; have HJ3 := hid hJ3
          have HZ3 := hid hk3.size
          clear hb3 hJ3 hk3
          gi_wp2
          gi_roundg (N - (a + 1))
          case measure => have := HG.out; omega
          case rel =>
            refine ⟨a + 1, pre ++ [((a : Int), lv)], _, by omega, by go_num, hid rfl, HJ3, HB3, hid (fun k h => ?_), hid (by rw [HSU.out, List.map_append, HP.out]; rfl)⟩
            have := HZ3.out
            rcases h with h | h
            · have := HT.out k h; have := HX2.out.size; omega
            · omega
        · clear hy hR
          have HJX := hid hJx3
          gi_wp2
          refine bodyPost_ret (results_none rfl _ _ _) rfl ?_
          exact ⟨⟨_, rfl⟩, .inr ⟨_, _, HJX.out⟩⟩
    · obtain rfl : a = N := by omega
      gi_wp2
      go_end0
      exact ⟨⟨_, rfl⟩, .inl ⟨pre, T, HP.out, HJd.out⟩⟩

/-- starts. -/
theorem starts90_any (B : Nat) (wa : Option Addr) (wn wc : Nat) (w : World) : Calls Try.prog 90 #[.pointer (some ⟨B, 0, none⟩), .slice wa wn wc] w fun e w' => e = .returned (.func (.func 104) #[] #[.pointer (some ⟨w.heap.size, 0, none⟩), .pointer (some ⟨w.heap.size + 1, 0, none⟩)]) ∧ Grew w w' ∧
    w'.cell? ⟨w.heap.size, 0, none⟩ = some (.pointer (some ⟨B, 0, none⟩)) ∧ w'.cell? ⟨w.heap.size + 1, 0, none⟩ = some (.slice wa wn wc) := by
  obtain ⟨W0, hW0, g0, k0, hz⟩ := box1 w (.pointer (some ⟨B, 0, none⟩)) 58
  obtain ⟨W1, hW1, g1, k1, hz1⟩ := box1 W0 (.slice wa wn wc) 25
  have hs : W0.heap.size = w.heap.size + 1 := by rw [← hW0]; simp
  have HS := hid hs
  have HG := hid (grew_trans g0 g1)
  have HK := hid ((g1.cell (p := ⟨w.heap.size, 0, none⟩) hz).trans k0)
  have HK1 := hid k1
  clear hs
  go_enter Try.func90, Try.ntmps90
  go_wp2
  go_ret
  exact ⟨by rw [HS.out]; rfl, HG.out, HK.out, by rw [← HS.out]; exact HK1.out⟩

end Go.Proofs.Ytddnpooffcjhnaa
