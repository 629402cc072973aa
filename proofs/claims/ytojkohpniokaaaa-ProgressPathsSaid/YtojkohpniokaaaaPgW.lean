/- Lists of ints in memory, and small laws; walks: slices.Clone (100), SameInts (35). -/
import Derived.Test.YtojkohpniokaaaaPgR
import Derived.Test.YtojkohpniokaaaaRows
import Derived.Test.YtojkohpniokaaaaAppend
import Derived.Test.YtojkohpniokaaaaMaps
import Derived.Lib.AppendZerosOnto
import Derived.RangeFuncNested
namespace Go.Lin
open Go Go.RowKit
-- WvL Go.Lin
theorem keeps_of_grown {w w' : World} {row : Option Nat} (h : w.grownBy w' row) : Keeps (fun k _ => row = some k) w w' :=
  (Keeps.refl _ w).grown h (fun _ _ e _ => e)

-- WvL Go.Lin
theorem take_eq_succ {l m : List Int} {j : Nat} (h : l.take j = m.take j) (hj : j < l.length) (hjm : j < m.length) (he : nth l j = nth m j) : l.take (j + 1) = m.take (j + 1) := by
  rw [take_succ_nth hj, take_succ_nth hjm, h, he]


end Go.Lin
namespace Go.Lin.Pg
open Go
-- WvI Go.Lin.Wv
def IntCells (_ : Nat) (o : Obj) : Prop := ∃ c fr, o = .cells c 3 fr


end Go.Lin.Pg
namespace Go.Proofs.Ytojkohpniokaaaa
open Go Go.RowKit Go.Lin Go.Lin.Pg
attribute [local go_sem] Oper.semAt_some

-- WvL Go.Proofs.Ytojkohpniokaaaa
theorem Try.info3 : (Try.prog.info? 3).map (fun i => (i.zero, i.size, i.bytes)) = some (some (.int .i64 0), 1, 8) := by kernel_rfl

-- WvL Go.Proofs.Ytojkohpniokaaaa
theorem Try.info25 : (Try.prog.info? 25).map (fun i => (i.zero, i.size, i.bytes)) = some (some (.slice none 0 0), 1, 24) := by kernel_rfl

-- WvStarts Go.Proofs.Ytojkohpniokaaaa
theorem _root_.Go.Lin.Keeps.trans' {may may' : Nat → Obj → Prop} {a b c : World} (h : Keeps may a b) (k : Keeps may' b c) (hm : ∀ i o, a.heap[i]? = some o → may' i o → may i o) : Keeps may a c :=
  ⟨k.os.trans h.os, k.tape.trans h.tape, k.output.trans h.output, Nat.le_trans h.size k.size, fun i o hi hn => k.obj i o (h.obj i o hi hn) (fun h2 => hn (hm i o hi h2))⟩

-- WvL Go.Proofs.Ytojkohpniokaaaa
theorem reads_re {S S' : Nat → Obj → Prop} {w : World} {v : Value} {n : Nat} {f : Nat → Value} (h : Reads S w v n f) (hS : ∀ k o, w.heap[k]? = some o → S k o → S' k o) : Reads S' w v n f := by
  obtain ⟨a, cap, hv, hm, hc⟩ := h
  exact ⟨a, cap, hv, hm, fun i hi => let ⟨b, off, o, h1, h2, h3, h4⟩ := hc i hi; ⟨b, off, o, h1, h2, hS _ _ h2 h3, h4⟩⟩

-- WvI Go.Proofs.Ytojkohpniokaaaa
theorem frozen_obj {w : World} {k : Nat} {c : Array Value} {t : TypeId} (h : w.heap[k]? = some (.cells c t (0, 0))) (j : Nat) : w.frozen? ⟨k, j, none⟩ = false := by
  unfold World.frozen?
  simp only [h]
  simp

-- WvL Go.Proofs.Ytojkohpniokaaaa
theorem isInts_any {w : World} {base : Nat} {e : TypeId} {v : Value} {n : Nat} {xs : List Int} (h : Seg w base e 1 v n (xs.map (.int .i64))) : IsInts Any w v xs := Reads.any h.isInts

-- WvI Go.Proofs.Ytojkohpniokaaaa
theorem keeps_setCell {may : Nat → Obj → Prop} (W : World) (b : Nat) (v : Value) (hm : ∀ o, W.heap[b]? = some o → may b o) : Keeps may W (W.setCell ⟨b, 0, none⟩ v) :=
  (Keeps.refl may W).grown (grownBy_setCell' W b v) (fun k o e ho => by cases e; exact hm _ ho)

-- WvN Go.Proofs.Ytojkohpniokaaaa
theorem keeps_setB (w : World) (B o : Nat) (u : Value) : Keeps (fun k _ => k = B) w (w.setCell ⟨B, o, none⟩ u) :=
  ⟨rfl, rfl, rfl, by simp, fun k o h hn => by rw [heap_setCell_other _ _ _ _ hn]; exact h⟩

-- WvI Go.Proofs.Ytojkohpniokaaaa
theorem cell_keeps {w w' : World} {may : Nat → Obj → Prop} (hk : Keeps may w w') {b o : Nat} {v : Value} (hm : ∀ x, w.heap[b]? = some x → ¬ may b x) (h : w.cell? ⟨b, o, none⟩ = some v) : w'.cell? ⟨b, o, none⟩ = some v := by
  have hlt := World.block_lt_of_cell? w _ h
  simp only at hlt
  have ho : w.heap[b]? = some w.heap[b] := Array.getElem?_eq_getElem hlt
  exact cell_of_obj ho (hk.obj _ _ ho (hm _ ho)) h

-- WvS Go.Proofs.Ytojkohpniokaaaa
theorem keeps_old {may : Nat → Obj → Prop} {w W : World} (h : Keeps (fun i o => w.heap.size ≤ i ∨ may i o) w W) : Keeps may w W :=
  ⟨h.os, h.tape, h.output, h.size, fun k o ho hn => h.obj k o ho (fun hm => by
    rcases hm with hm | hm
    · have := lt_of_obj ho; omega
    · exact hn hm)⟩

-- WvL Go.Proofs.Ytojkohpniokaaaa
def IsWd (w : World) (v : Value) (xs : List Int) : Prop := ∃ a cap, v = .slice a xs.length cap ∧ xs.length ≤ cap ∧ IsInts Any w v xs

-- WvL Go.Proofs.Ytojkohpniokaaaa
theorem IsWd.grew {w w' : World} {v : Value} {xs : List Int} (h : IsWd w v xs) (hg : Grew w w') : IsWd w' v xs := let ⟨a, c, h1, h2, h3⟩ := h; ⟨a, c, h1, h2, Reads.grew h3 hg⟩

-- WvL Go.Proofs.Ytojkohpniokaaaa
theorem IsWd.ints {w : World} {v : Value} {xs : List Int} (h : IsWd w v xs) : IsInts Any w v xs := let ⟨_, _, _, _, h3⟩ := h; h3

-- WvL Go.Proofs.Ytojkohpniokaaaa
theorem IsWd.of_seg {w : World} {base : Nat} {v : Value} {n : Nat} {xs : List Int} (h : Seg w base 3 1 v n (xs.map (.int .i64))) : IsWd w v xs := by
  have hl : n = xs.length := by have := h.1; simp at this; omega
  have hi := isInts_any h
  rcases h.2 with ⟨rfl, h0⟩ | ⟨g, off, cap, cur, rfl, _, _, hn, _⟩
  · exact ⟨none, 0, by rw [← hl, h0], by omega, hi⟩
  · exact ⟨_, cap, by rw [hl], by omega, hi⟩

-- WvL Go.Proofs.Ytojkohpniokaaaa
def WdOff (S : Nat → Obj → Prop) (w : World) (v : Value) (xs : List Int) : Prop := (∃ a cap, v = .slice a xs.length cap ∧ xs.length ≤ cap) ∧ IsInts S w v xs

-- WvL Go.Proofs.Ytojkohpniokaaaa
theorem WdOff.wd {S : Nat → Obj → Prop} {w : World} {v : Value} {xs : List Int} (h : WdOff S w v xs) : IsWd w v xs := let ⟨⟨a, c, h1, h2⟩, h3⟩ := h; ⟨a, c, h1, h2, Reads.any h3⟩

-- WvL Go.Proofs.Ytojkohpniokaaaa
theorem WdOff.grew {S : Nat → Obj → Prop} {w w' : World} {v : Value} {xs : List Int} (h : WdOff S w v xs) (hg : Grew w w') : WdOff S w' v xs := ⟨h.1, Reads.grew h.2 hg⟩

-- WvL Go.Proofs.Ytojkohpniokaaaa
theorem WdOff.keeps {S may : Nat → Obj → Prop} {w w' : World} {v : Value} {xs : List Int} (h : WdOff S w v xs) (hk : Keeps may w w') (hS : ∀ k o, S k o → ¬ may k o) : WdOff S w' v xs := ⟨h.1, Reads.keeps h.2 hk hS⟩

-- WvL Go.Proofs.Ytojkohpniokaaaa
theorem WdOff.re {S S' : Nat → Obj → Prop} {w : World} {v : Value} {xs : List Int} (h : WdOff S w v xs) (hS : ∀ k o, w.heap[k]? = some o → S k o → S' k o) : WdOff S' w v xs := ⟨h.1, reads_re h.2 hS⟩

-- WvL Go.Proofs.Ytojkohpniokaaaa
theorem IsWd.off {w : World} {v : Value} {xs : List Int} (h : IsWd w v xs) : WdOff Any w v xs := let ⟨a, c, h1, h2, h3⟩ := h; ⟨⟨a, c, h1, h2⟩, h3⟩

-- WvL Go.Proofs.Ytojkohpniokaaaa
theorem WdOff.of_seg {w : World} {base : Nat} {v : Value} {n : Nat} {xs : List Int} (h : Seg w base 3 1 v n (xs.map (.int .i64))) : WdOff (fun k _ => base ≤ k) w v xs := by
  obtain ⟨a, c, h1, h2, _⟩ := IsWd.of_seg h
  exact ⟨⟨a, c, h1, h2⟩, Reads.mono h.isInts (fun _ _ h => h.1)⟩

-- WvI Go.Proofs.Ytojkohpniokaaaa
theorem wdOff_of_seg {w : World} {base : Nat} {v : Value} {n : Nat} {xs : List Int} (h : Seg w base 3 1 v n (xs.map (.int .i64))) : WdOff (fun k o => IntCells k o ∧ base ≤ k) w v xs := by
  obtain ⟨a, c, h1, h2, _⟩ := IsWd.of_seg h
  exact ⟨⟨a, c, h1, h2⟩, Reads.mono h.isInts (fun _ o h => let ⟨hb, cur, ho⟩ := h; ⟨⟨cur, _, ho⟩, hb⟩)⟩

-- WvS Go.Proofs.Ytojkohpniokaaaa
theorem isWd_slice {w : World} {v : Value} {xs : List Int} (h : IsWd w v xs) : ∃ a c, v = .slice a xs.length c := let ⟨a, c, h, _⟩ := h; ⟨a, c, h⟩

-- WvExchA Go.Proofs.Ytojkohpniokaaaa
theorem wd_seg {w : World} {base n : Nat} {v : Value} {y : List Int} (h : Seg w base 3 1 v n (y.map (.int .i64))) (hn : y.length = n) : IsWd w v y := by
  subst hn; exact IsWd.of_seg h

-- WvPt Go.Proofs.Ytojkohpniokaaaa
theorem wd_cell {w : World} {a : Option Addr} {n c : Nat} {xs : List Int} (h : IsWd w (.slice a n c) xs) (j : Nat) (hj : j < n) : ∃ b off o, a = some ⟨b, off, none⟩ ∧ w.heap[b]? = some o ∧ w.cell? ⟨b, off + j, none⟩ = some (.int .i64 (nth xs j)) := by
  obtain ⟨a1, c1, h1, _, a2, c2, h2, _, hc⟩ := h
  simp only [Value.slice.injEq] at h1 h2
  obtain ⟨rfl, rfl, rfl⟩ := h1
  obtain ⟨rfl, -, rfl⟩ := h2
  obtain ⟨b, off, o, e1, e2, _, e3⟩ := hc j hj
  exact ⟨b, off, o, e1, e2, e3⟩

-- WvL Go.Proofs.Ytojkohpniokaaaa
/-- A list of ints as what is appended. -/
theorem src_ints {w : World} {v : Value} {xs : List Int} (h : IsInts Any w v xs) : Src Try.prog 1 25 v xs.length (xs.map (.int .i64)) w := by
  obtain ⟨a, cap, rfl, hm, hc⟩ := h
  rcases a with _ | ad
  · have h0 : xs.length = 0 := by
      rcases Nat.eq_zero_or_pos xs.length with h | h
      · exact h
      · obtain ⟨_, _, _, h2, _⟩ := hc 0 h; cases h2
    have : xs = [] := List.length_eq_zero_iff.1 h0
    subst this
    exact Src.ofNil _ Try.underlying25 cap
  · refine Src.ofSlice _ Try.underlying25 ad _ cap _ (by simp) ?_ ?_
    · intro j u hj
      have hjn : j < xs.length := by have := (List.getElem?_eq_some_iff.1 hj).1; simpa using this
      simp only [List.getElem?_map, List.getElem?_eq_getElem hjn, Option.map_some, Option.some.injEq] at hj
      obtain ⟨b, off, o, h2, h3, _, h5⟩ := hc j hjn
      cases h2
      rw [Addr.add_lit, h5, ← hj]
      simp only [nth_lt hjn]
    · intro u hu
      obtain ⟨i, _, rfl⟩ := List.mem_map.1 hu
      rfl

-- WvI Go.Proofs.Ytojkohpniokaaaa
theorem skip_fn {f : FuncId} (hf : Fence.wide.fn f) {K : Act → World → Prop} {a : Act} {w : World} (h : K a w) : Fence.wide.fn f ∧ K a w := ⟨hf, h⟩

-- WvI Go.Proofs.Ytojkohpniokaaaa
theorem skip_none {K : Act → World → Prop} {a : Act} {w : World} (h : K a w) : (∀ f, (none : Option FuncId) = some f → Fence.wide.fn f) ∧ K a w := ⟨fun _ h => (by cases h), h⟩

-- WvG Go.Proofs.Ytojkohpniokaaaa
theorem wd_nil (w : World) : IsWd w (.slice none 0 0) [] := ⟨none, 0, rfl, by simp, Reads.nil _ _ _ _ _⟩

-- WvP Go.Proofs.Ytojkohpniokaaaa
set_option maxHeartbeats 1000000 in
theorem clone_any (v : Value) (n : Nat) (f : Nat → Value) (w : World) (hn : n ≤ 1000000) (hv : Reads Any w v n f) (h1 : ∀ i, (f i).oneCell' = true) :
    Calls Try.prog 100 #[v] w fun e w' => ∃ u, e = .returned u ∧ Seg w' w.heap.size 3 1 u n ((List.range n).map f) ∧ Grew w w' := by
  obtain ⟨a, cap, rfl, hm, hc⟩ := hv
  have HC := hid hc; clear hc
  rcases a with _ | ad
  · have h0 : n = 0 := by
      rcases Nat.eq_zero_or_pos n with h | h
      · exact h
      · obtain ⟨_, _, _, h2, _⟩ := HC.out 0 h; cases h2
    subst h0
    have hnil := fun w => Lib.run_eql_slice_nil (P := Try.prog) w 25 3 none 0 cap 0 0 Try.underlying25
    go_enter Try.func100, Try.ntmps100
    go_wp2
    go_ret
    exact ⟨.slice none 0 0, rfl, Seg.nil _ _ _ _, grew_refl _⟩
  · have hnil := fun w => Lib.run_eql_slice_nil (P := Try.prog) w 25 3 (some ad) n cap 0 0 Try.underlying25
    obtain ⟨i0, hi, hz0, hz1, hz2⟩ := info_parts Try.info3
    have hsrc : Src Try.prog 1 25 (.slice (some ad) n cap) n ((List.range n).map f) (w.alloc (.cells #[] 3)) := by
      refine Src.ofSlice _ Try.underlying25 ad n cap _ (by simp) ?_ ?_
      · intro j u hj
        have hjn : j < n := by have := (List.getElem?_eq_some_iff.1 hj).1; simpa using this
        simp only [List.getElem?_map, List.getElem?_range hjn, Option.map_some, Option.some.injEq] at hj
        obtain ⟨b, off, o, h2, h3, _, h5⟩ := HC.out j hjn
        cases h2
        rw [Addr.add_lit, World.cell?_alloc_lt (a := ⟨b, off + j, none⟩) _ _ (lt_of_obj h3), h5, hj]
      · intro u hu
        obtain ⟨i, _, rfl⟩ := List.mem_map.1 hu
        exact h1 i
    have hseg : Seg (w.alloc (.cells #[] 3)) w.heap.size 3 1 (.slice (some ⟨w.heap.size, 0, none⟩) 0 0) 0 [] :=
      ⟨by simp, .inr ⟨w.heap.size, 0, 0, #[], rfl, Nat.le_refl _, heap_alloc_new w _, Nat.le_refl _, by unfold maxLen; omega, by simp, by simp⟩⟩
    have HSRC := hid hsrc; clear hsrc
    have HSEG := hid hseg; clear hseg
    clear HC
    go_enter Try.func100, Try.ntmps100
    go_wp2_with (at_builtin; refine wpList_append_seg rfl _ _ 25 25 rfl w.heap.size 3 i0 (.int .i64 0) 1 8 Try.underlying25 hi hz0 hz1 hz2 rfl _ 0 [] rfl HSEG.out _ rfl n _ HSRC.out (by unfold maxLen; omega) (by omega) ?_ ?_; simp; intro v1 w1 hown1 hgrow1 hblk1)
    go_ret
    have hg : Grew w w1 := ((grew_refl w).alloc (Nat.le_refl _) _).grown hgrow1 (by simp) (fun k e => by cases e; exact Nat.le_refl _)
    exact ⟨v1, rfl, by simpa using hown1, hg⟩

-- WvExchA Go.Proofs.Ytojkohpniokaaaa
theorem range_nth (x : List Int) (n : Nat) (hn : x.length = n) : (List.range n).map (fun i => Value.int .i64 (nth x i)) = x.map (.int .i64) := by
  subst hn
  apply List.ext_getElem?
  intro i
  by_cases h : i < x.length
  · simp [nth_lt h, h]
  · simp [h]

-- WvExchA Go.Proofs.Ytojkohpniokaaaa
theorem clone_ints (v : Value) (n : Nat) (x : List Int) (w : World) (hn : x.length = n) (hl : n ≤ 1000000) (hv : IsInts Any w v x) :
    Calls Try.prog 100 #[v] w fun e w' => ∃ u, e = .returned u ∧ Seg w' w.heap.size 3 1 u n (x.map (.int .i64)) ∧ Grew w w' := by
  have := clone_any v n (fun i => .int .i64 (nth x i)) w hl (by rw [← hn]; exact hv) (fun _ => rfl)
  rw [range_nth x n hn] at this
  exact this

-- WvL Go.Proofs.Ytojkohpniokaaaa
set_option maxHeartbeats 2000000 in
theorem sameInts_any (v v' : Value) (l m : List Int) (w : World) (hv : IsInts Any w v l) (hv' : IsInts Any w v' m) :
    Calls Try.prog 35 #[v, v'] w fun e w' => e = .returned (.bool (l == m)) ∧ Grew w w' := by
  obtain ⟨a, cap, rfl, hm, hc⟩ := hv
  obtain ⟨a', cap', rfl, hm', hc'⟩ := hv'
  have HC := hid hc; clear hc
  have HC' := hid hc'; clear hc'
  obtain ⟨r, hr⟩ : ∃ r, (l == m) = r := ⟨_, rfl⟩
  rw [hr]
  have HR := hid hr; clear hr
  obtain ⟨n, hn⟩ : ∃ n, l.length = n := ⟨_, rfl⟩
  obtain ⟨n', hn'⟩ : ∃ n, m.length = n := ⟨_, rfl⟩
  rw [hn] at hm HC ⊢
  rw [hn'] at hm' HC' ⊢
  have HN := hid hn
  have HN' := hid hn'
  by_cases hne : n = n'
  · subst hne
    clear hn hn'
    have hg := grew_refl w
    go_enter Try.func35, Try.ntmps35
    go_wp2
    go_loopg [5, 13] n (fun k _ i wr => ∃ j : Nat, j ≤ n ∧ i = .int .i64 j ∧ k = n - j ∧ Hid (l.take j = m.take j) ∧ Grew w wr)
    case atStart => exact ⟨0, by omega, rfl, rfl, hid (by simp), hg⟩
    case round =>
      clear hg
      obtain ⟨j, hj, rfl, hk, HT, hg⟩ := hrel
      have HK := hid hk; clear hk
      by_cases hlt : j < n
      · obtain ⟨b1, off1, o1, rfl, hb1, _, hcj1⟩ := HC.out j hlt
        obtain ⟨b2, off2, o2, rfl, hb2, _, hcj2⟩ := HC'.out j hlt
        have hbl1 := lt_of_obj hb1
        have hbl2 := lt_of_obj hb2
        have d1 := (hg.cell (p := ⟨b1, off1 + j, none⟩) hbl1).trans hcj1
        have d2 := (hg.cell (p := ⟨b2, off2 + j, none⟩) hbl2).trans hcj2
        clear hb1 hb2 hcj1 hcj2
        by_cases he : nth l j = nth m j
        · have hd : (nth l j != nth m j) = false := by simp [he]
          have HE := hid he; clear he
          go_wp2
          go_quiet (fail)
          go_wp2
          go_roundg (n - (j + 1))
          case measure => have := HK.out; omega
          case rel => exact ⟨j + 1, by omega, by go_num, rfl, hid (take_eq_succ HT.out (by rw [HN.out]; exact hlt) (by rw [HN'.out]; exact hlt) HE.out), grew_drewN hg _⟩
        · have hd : (nth l j != nth m j) = true := by simpa using he
          have HE := hid he; clear he
          go_wp2
          go_quiet (fail)
          go_wp2
          go_ret
          refine ⟨ret_bool (Eq.trans ?_ HR.out), grew_drewN hg _⟩
          symm
          rw [beq_eq_false_iff_ne]
          rintro rfl
          exact HE.out rfl
      · obtain rfl : j = n := by omega
        go_wp2
        go_ret
        refine ⟨ret_bool (Eq.trans ?_ HR.out), hg⟩
        have h1 := HT.out
        rw [List.take_of_length_le (by rw [HN.out]; omega), List.take_of_length_le (by rw [HN'.out]; omega)] at h1
        rw [h1]; simp
  · have hd : ((n : Int) != (n' : Int)) = true := by simp; omega
    have HNE := hid hne
    clear hne hn hn'
    go_enter Try.func35, Try.ntmps35
    go_wp2
    go_ret
    refine ⟨ret_bool (Eq.trans ?_ HR.out), grew_refl _⟩
    symm
    rw [beq_eq_false_iff_ne]
    rintro rfl
    exact HNE.out (HN.out.symm.trans HN'.out)


end Go.Proofs.Ytojkohpniokaaaa
