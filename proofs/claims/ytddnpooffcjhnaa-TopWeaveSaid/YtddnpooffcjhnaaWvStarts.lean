/- Starts, of the program (49) and of the reference (57); First, of the reference (56). -/
import Derived.Test.YtddnpooffcjhnaaWvI
import Derived.Test.YtddnpooffcjhnaaWvG
namespace Go.Lin.Wv
def startsM (L : Lt) (x : List Int) : List Int × Int := if wrong L [x] = 0 then (starts (dep L) L.n.toNat x, 0) else ([], wrong L [x])
end Go.Lin.Wv
namespace Go.Proofs.Ytddnpooffcjhnaa
open Go Go.RowKit Go.Lin Go.Lin.Wv Go.Maps
attribute [local go_sem] Oper.semAt_some

theorem _root_.Go.Lin.Keeps.trans' {may may' : Nat → Obj → Prop} {a b c : World} (h : Keeps may a b) (k : Keeps may' b c) (hm : ∀ i o, a.heap[i]? = some o → may' i o → may i o) : Keeps may a c :=
  ⟨k.os.trans h.os, k.tape.trans h.tape, k.output.trans h.output, Nat.le_trans h.size k.size, fun i o hi hn => k.obj i o (h.obj i o hi hn) (fun h2 => hn (hm i o hi h2))⟩

theorem wd_seg' {w : World} {base n : Nat} {v : Value} {y : List Int} (h : Seg w base 3 1 v n (y.map (.int .i64))) : IsWd w v y := IsWd.of_seg h

structure StI (c8 base lo : Nat) (wl : World) (pre : List SX) (T : Nat → Prop) (W : World) (ov : Value) : Prop where
  bo : W.heap[c8]? = some (.cells #[ov] 25 (0, 0))
  seg : Seg W base 3 1 ov pre.length ((pre.map (·.1)).map (.int .i64))
  own : ∀ k, ov.ownBlock = some k → ¬ T k ∧ lo ≤ k ∧ k < W.heap.size
  keep : Keeps (fun k _ => k = c8) wl W
  far : ∀ k, T k → lo ≤ k

theorem StI.keeps {c8 base lo : Nat} {wl : World} {pre : List SX} {T T' : Nat → Prop} {W W' : World} {ov : Value} (h : StI c8 base lo wl pre T W ov) (h8 : c8 < lo) (hlo : lo = wl.heap.size)
    (hk : Keeps (fun k o => T k ∨ (lo ≤ k ∧ o.isCells = false)) W W') (hT : ∀ k, T' k → T k ∨ W.heap.size ≤ k) : StI c8 base lo wl pre T' W' ov := by
  refine ⟨hk.obj _ _ h.bo ?_, h.seg.keeps hk ?_, fun k e => ?_, ?_, fun k hk' => ?_⟩
  · rintro (h1 | h1)
    · have := h.far _ h1; omega
    · omega
  · rintro k o e ⟨cur, rfl⟩ (h1 | h1)
    · exact (h.own k e).1 h1
    · cases h1.2
  · obtain ⟨h1, h2, h3⟩ := h.own k e
    refine ⟨fun h4 => ?_, h2, Nat.lt_of_lt_of_le h3 hk.size⟩
    rcases hT k h4 with h5 | h5
    · exact h1 h5
    · omega
  · exact ⟨hk.os.trans h.keep.os, hk.tape.trans h.keep.tape, hk.output.trans h.keep.output, Nat.le_trans h.keep.size hk.size, fun k o ho hn => hk.obj k o (h.keep.obj k o ho hn) (by
      have := lt_of_obj ho
      rintro (h1 | h1)
      · have := h.far k h1; omega
      · omega)⟩
  · rcases hT k hk' with h1 | h1
    · exact h.far k h1
    · have := h.keep.size; omega

set_option maxHeartbeats 4000000 in
set_option maxRecDepth 100000 in
theorem starts49_ok (v : Value) (L : Lt) (uv : Value) (x : List Int) (w : World) (hn : L.n ≤ 9223372036854775807) (hv : IsLt w v L) (hx : IsWd w uv x) :
    Calls Try.prog 49 #[v, uv] w fun e w' => Gives e w w' (startsM L x) := by
  have HV := hid hv
  obtain ⟨s, rfl, -⟩ := hv
  obtain ⟨ua, uc, rfl⟩ := isWd_slice hx
  obtain ⟨W0, hW0, g0, k0, k1, hz⟩ := box2 w (.int .i64 L.n) s 24
  obtain ⟨W1, hW1⟩ : ∃ W1, W0.alloc (.cells #[.slice ua x.length uc] 25) = W1 := ⟨_, rfl⟩
  have g1 : Grew W0 W1 := by rw [← hW1]; exact grew_alloc (grew_refl _) _
  have g01 := grew_trans g0 g1
  obtain ⟨m, hm⟩ : ∃ m, x.length = m := ⟨_, rfl⟩
  have HM := hid hm
  have HXM := hid (show IsWd w (.slice ua m uc) x by rw [← hm]; exact hx)
  obtain ⟨r, hr⟩ : ∃ r, wrong L [x] = r := ⟨_, rfl⟩
  have HR := hid hr
  have HG01 := hid g01
  by_cases hr0 : r = 0
  · subst hr0
    obtain ⟨hv1, hw1⟩ := wrong_one hr
    have hok := newLoom_ok _ L _ [x] W1 hn (HV.out.grew g01) (by rw [← hW1]; exact rows_one (Reads.grew hx.ints g0) 25) hr
    have HOK := hid hok
    have HW1 := hid hw1
    rw [hm] at hW1 ⊢
    clear hr hx hm hok hv1 hw1
    refine (callsIn_wide (n := 9)).1 ?_
    refine callsIn_of_wp_marks Try.func49 rfl trivial ?_ rfl
    simp only [Try.ntmps49, List.size_toArray, List.length_cons, List.length_nil, Nat.reduceAdd, Nat.reduceSub, Array.replicate_succ, Array.replicate_zero, List.push_toArray, List.append_toArray, List.nil_append, List.cons_append]
    gi_wp2_with (first
      | (refine ⟨trivial, ?_⟩; gi_at_call 60; refine (callsIn_wide.2 HOK.out).mono ?_; rintro e w1 ⟨B, N, hN, hN1, hN6, rfl, hB, hL, hg1⟩; have HL := hid hL; have HN := hid hN; have HG1 := hid (grew_trans HG01.out hg1); obtain ⟨hl1, hlw1⟩ := isW_iff hN HW1.out; have HL1 := hid hl1; have HLW := hid hlw1; obtain ⟨W2, hW2, g2, k8, hz8⟩ := box1 w1 (.slice none 0 0) 25; clear hN hL hg1 hB hl1 hlw1)
      | (refine ⟨trivial, ?_⟩; gi_at_call 90; refine (callsIn_wide.2 (starts90_any B ua m uc _)).mono ?_; rintro e w3 ⟨rfl, hx1, hb1, hb2⟩; have HX1 := hid hx1; have HB1 := hid hb1; have HB2 := hid hb2; clear hx1 hb1 hb2))
    have o8 : w3.heap[w1.heap.size]? = some (.cells #[.slice none 0 0] 25 (0, 0)) := (HX1.out.block _ hz8).trans (by rw [← hW2]; exact heap_alloc_new w1 _)
    have hg3 := grew_trans g2 HX1.out
    have HG3 := hid (grew_trans HG1.out hg3)
    have hl8 := lt_of_obj o8
    have hs2 : W2.heap.size = w1.heap.size + 1 := by rw [← hW2]; simp
    have hb1 := HB1.out
    have hb2 := HB2.out
    have hseq := starts_stops (dep L) B N x W2.heap.size (W2.heap.size + 1) (.slice ua m uc) w3 8 (by decide) hN6 HLW.out (by have := HL1.out; omega) (HL.out.grew hg3) hb1 hb2 (fun k _ => k = w1.heap.size ∨ w3.heap.size ≤ k)
      (fun o ho h => by have := (HL.out).lt; have := hg3.size; omega) (fun o ho h => by have := lt_of_obj ho; omega) (fun o ho h => by have := lt_of_obj ho; omega)
      (WdOff.grew (wd_off HXM.out (fun b o off z e1 e2 h => by have := lt_of_obj e1; have := HG1.out.size; have := hg3.size; omega)) HG3.out)
    have HSEQ := hid hseq
    have HS2 := hid hs2
    have HO8 := hid o8
    have hwz := HG3.out.size
    have hw01 : w.heap.size ≤ w1.heap.size := HG1.out.size
    have HW01 := hid hw01
    clear hseq hs2 o8 hb1 hb2 hg3 hwz hw01
    refine wpIn_rangeFunc_sep (P := Try.prog) rfl (by decide) (gf := 104) (fa := #[]) rfl trivial (enters_of Try.func104 (by kernel_rfl) rfl) HSEQ.out (grew_refl w3) (fun _ _ h => .inr h) (fun _ => rfl)
      (fun pre T W => ∃ ov, StI w1.heap.size w.heap.size w3.heap.size w3 pre T W ov)
      (fun _ _ _ => False)
      (fun pre T W W' h hk T' hT => let ⟨ov, h⟩ := h; ⟨ov, h.keeps hl8 rfl hk hT⟩) (fun _ _ _ _ h _ => h.elim) (fun pre x W W' hh hk => hh.keeps hk (fun k c fr hm => by cases hm.2.2))
      ⟨_, HO8.out, Seg.nil _ _ _ _, fun k e => by simp [Value.ownBlock] at e, Keeps.refl _ _, fun _ h => h.elim⟩
      (fun x' => { tmps := #[.agg #[.int .i64 L.n, s], .slice ua m uc, .pointer (some ⟨w.heap.size, 0, none⟩), undef, .slice none 0 0, .int .i64 0, .pointer (some ⟨B, 0, none⟩), .int .i64 0, .pointer (some ⟨w1.heap.size, 0, none⟩), .int .i64 x'.1, .tuple #[.pointer (some ⟨B, 0, none⟩), .int .i64 0], .agg #[.int .i64 L.n, s], .slice ua m uc, .slice (some ⟨W0.heap.size, 0, none⟩) 1 1, .tuple #[.pointer (some ⟨B, 0, none⟩), .int .i64 0], .pointer (some ⟨B, 0, none⟩), .int .i64 0, .int .i64 0, .bool false, undef, .pointer (some ⟨B, 0, none⟩), .slice ua m uc, .func (.func 104) #[] #[.pointer (some ⟨W2.heap.size, 0, none⟩), .pointer (some ⟨W2.heap.size + 1, 0, none⟩)], .int .i64 x'.1, x'.2, undef, undef, undef, undef, undef], defers := [] })
      ?assign ?body ?done (fun _ _ _ _ _ h _ => h.elim)
    case assign =>
      rintro l ⟨a, xv⟩ W K hK
      dsimp only [encS]
      gi_wp2
      exact hK
    case body =>
      rintro l pre T ⟨a, xv⟩ W ⟨ov, hI⟩ hh hT hlt
      obtain ⟨oa, oc, hov, _⟩ := hI.seg.shape
      subst hov
      have c8 : W.cell? ⟨w1.heap.size, 0, none⟩ = some _ := cell_of_row _ _ _ _ _ _ hI.bo
      have f8 := frozen_obj hI.bo 0
      have hpl : pre.length < 1000000000 := by
        have h1 := congrArg List.length hh.at'
        have h2 := starts_length (D := dep L) N x
        simp at h1
        omega
      have HI := hid hI
      clear hI hh
      gi_wp2_with (gi_at_builtin; refine wpListIn_append_one rfl _ _ 25 rfl w.heap.size 3 Try.underlying25 Try.info3 rfl (by decide) _ pre.length _ rfl (HI.out.seg.alloc _) _ _ _ rfl (one_new _ _ _) rfl hpl ?_ ?_; (have := HI.out.keep.size; have := HG3.out.size; simp only [World.size_alloc]; omega); intro v4 w4 hown4 hgrow4 hblk4; have hk4 : Keeps (fun k o => (Value.slice oa pre.length oc).ownBlock = some k ∧ ∃ cur, o = .cells cur 3 (0, 0)) W w4 := ((Keeps.refl _ W).alloc _).grown hgrow4 (fun k o e ho => by obtain ⟨_, _, cur, hcur⟩ := HI.out.seg.own k e; have h2 : (W.alloc (.cells #[.int .i64 a] 3)).heap[k]? = some (.cells cur 3 (0, 0)) := (Below.heap_alloc _ _ k (lt_of_obj hcur)).trans hcur; rw [h2] at ho; cases ho; exact ⟨e, _, rfl⟩); have ob4 := hk4.obj _ _ HI.out.bo (fun ⟨_, cur, h⟩ => by cases h); have c4 : w4.cell? ⟨w1.heap.size, 0, none⟩ = some _ := cell_of_row _ _ _ _ _ _ ob4; have f4 := frozen_obj ob4 0; have HK4 := hid hk4; have HOWN4 := hid hown4; have HBLK4 := hid hblk4; have HOB4 := hid ob4; obtain ⟨a4, c4', rfl, _⟩ := hown4.shape; clear ob4 hk4 hown4 hblk4 hgrow4)
      have hks := keeps_setCell (may := fun k _ => k = w1.heap.size) w4 w1.heap.size (.slice a4 (pre.length + 1) c4') (fun _ _ => rfl)
      have hblk : ∀ k, (Value.slice a4 (pre.length + 1) c4').ownBlock = some k → (¬ T k ∧ w3.heap.size ≤ k) := fun k e => by
        rcases HBLK4.out with h | h
        · have := HI.out.own k (h.symm.trans e); exact ⟨this.1, this.2.1⟩
        · have e2 := h.symm.trans e
          simp at e2
          have := HI.out.keep.size
          exact ⟨fun h4 => by have := (hT k h4).2; omega, by omega⟩
      have hk5 : Keeps (fun k o => k = w1.heap.size ∨ ((Value.slice oa pre.length oc).ownBlock = some k ∧ ∃ cur, o = .cells cur 3 (0, 0))) W (w4.setCell ⟨w1.heap.size, 0, none⟩ (.slice a4 (pre.length + 1) c4')) := (HK4.out.mono (fun _ _ h => .inr h)).trans (hks.mono (fun _ _ h => .inl h))
      refine ⟨hk5.mono (fun k o h => ?_), .slice a4 (pre.length + 1) c4', ?_, ?_, fun k e => ?_, ?_, HI.out.far⟩
      · rcases h with rfl | ⟨h, cur, rfl⟩
        · exact ⟨fun h4 => by have := HI.out.far _ h4; omega, .inl rfl, .inl hl8⟩
        · have := HI.out.own k h
          exact ⟨this.1, .inr this.2.1, .inr rfl⟩
      · rw [heap_setCell_same _ _ _ _ _ _ HOB4.out]; simp
      · have h5 := HOWN4.out.keeps hks (fun k o e _ h => by have := (hblk k e).2; omega)
        rw [List.length_append, List.length_singleton, List.map_append, List.map_append]
        exact h5
      · obtain ⟨h1, h2⟩ := hblk k e
        exact ⟨h1, h2, by have := (HOWN4.out.own k e).2.1; have := hks.size; omega⟩
      · exact HI.out.keep.trans' hk5 (fun k o ho hm => by
          rcases hm with hm | ⟨hm, _⟩
          · exact hm
          · have := HI.out.own k hm; have := lt_of_obj ho; omega)
    case done =>
      rintro D' xs' T W hD hS' ⟨ov, hI⟩ hK'
      have c8 : W.cell? ⟨w1.heap.size, 0, none⟩ = some ov := cell_of_row _ _ _ _ _ _ hI.bo
      have l8 := lt_of_obj hI.bo
      obtain ⟨oa, oc, hov, _⟩ := hI.seg.shape
      subst hov
      have HI := hid hI
      have HS' := hid hS'
      have HK' := hid hK'
      clear hI hS' hK'
      gi_wp2
      refine leaves_marks w.heap.size [D'] W (fun D2 h => by obtain rfl := List.mem_singleton.1 h; exact ⟨by have := HG3.out.size; omega, HK'.out⟩) (by simp) (fun W9 hkk => ⟨_, results_tmp2 rfl _ _ _, .slice oa xs'.length oc, ?_, ?_, ?_⟩)
      · unfold startsM; rw [HR.out, if_pos rfl]; rfl
      · unfold startsM; rw [HR.out, if_pos rfl, HN.out, Int.toNat_natCast]
        have h5 := HI.out.seg.keeps hkk (fun k o _ ⟨cur, ho⟩ hm => by rw [ho] at hm; cases hm.2)
        rw [HS'.out] at h5
        exact wd_seg' h5
      · have h6 : Grew w W := HG3.out.trans (HI.out.keep.below HG3.out.size (fun k o e => by have := HW01.out; omega))
        exact h6.trans (hkk.below h6.size (fun k o hm => hm.1))
  · have hbad := newLoom_bad _ L _ [x] W1 hn (HV.out.grew g01) (by rw [← hW1]; exact rows_one (Reads.grew hx.ints g0) 25) (by rw [hr]; exact hr0)
    rw [hr] at hbad
    have hne : (r != 0) = true := by simpa using hr0
    have HB := hid hbad; have HR0 := hid hr0
    rw [hm] at hW1 ⊢
    clear hr hx hm hbad hr0
    go_enter Try.func49, Try.ntmps49
    go_wp2_with (go_at_call 60; (with_reducible refine HB.out.mono ?_); rintro e w1 ⟨rfl, hg1⟩; have HG1 := hid (grew_trans HG01.out hg1); clear hg1)
    go_ret2
    exact ⟨_, by unfold startsM; rw [HR.out, if_neg HR0.out]; rfl, by unfold startsM; rw [HR.out, if_neg HR0.out]; exact wd_nil _, HG1.out⟩

end Go.Proofs.Ytddnpooffcjhnaa
