/- Walk: words (62): all words of a class are handed over, until there are enough. -/
import Derived.Test.YtddnpooffcjhnaaWvWordsP
import Derived.Test.YtddnpooffcjhnaaRoundHeld
import Derived.Test.YtddnpooffcjhnaaWvS
namespace Go.Proofs.Ytddnpooffcjhnaa
open Go Go.RowKit Go.Lin Go.Lin.Wv Go.Maps
attribute [local go_sem] Oper.semAt_some

theorem results_bool {t : Tmp} {fn : Func} {tmps : Array Value} {p : Nat} {W : World} {b : Bool} (h : fn.results = #[.cell t 4]) (h1 : tmps[t]?.getD undef = .pointer (some ⟨p, 0, none⟩)) (c0 : W.cell? ⟨p, 0, none⟩ = some (.bool b)) :
    (results fn tmps).run Try.prog W = .ok (.bool b) W := by
  simp [results, h, h1, go_sem, c0, Try.isAgg4]

/-- Blocks that the loop's own function has not made. -/
def okT (ok : Nat → Prop) (lo : Nat) (T : Nat → Prop) (k : Nat) : Prop := (ok k ∧ k < lo) ∨ (lo ≤ k ∧ ¬ T k)

/-- What the loop keeps. -/
structure WI (D : Int → Int → Bool) (N : Nat) (xs fr : List Int) (ok : Nat → Prop) (co cm most : Nat) (v : Value) (L : List (List Int)) (wl : World) (pre : List SX) (T : Nat → Prop) (W : World) (v1 : Value) (L1 : List (List Int)) (vs1 : List Value) : Prop where
  eq : L1 = (L ++ goesTo D N xs fr (pre.map (·.1))).take most
  out : OutAt (okT ok wl.heap.size T) co cm most W v1 L1 vs1
  own : ∀ k, v1.ownBlock = some k → v.ownBlock = some k ∨ wl.heap.size ≤ k
  keep : Keeps (MayO co v) wl W
  far : ∀ t, T t → wl.heap.size ≤ t
  lt : pre = [] ∨ L1.length < most

theorem WI.keeps {D : Int → Int → Bool} {N : Nat} {xs fr : List Int} {ok : Nat → Prop} {co cm most : Nat} {v v1 : Value} {L L1 : List (List Int)} {wl : World} {pre : List SX} {T T' : Nat → Prop} {W W' : World} {vs1 : List Value} (h : WI D N xs fr ok co cm most v L wl pre T W v1 L1 vs1) (h8 : co < wl.heap.size) (h9 : cm < wl.heap.size)
    (hk : Keeps (fun k o => T k ∨ (wl.heap.size ≤ k ∧ o.isCells = false)) W W') (hT : ∀ k, T' k → T k ∨ W.heap.size ≤ k) : WI D N xs fr ok co cm most v L wl pre T' W' v1 L1 vs1 := by
  have hold : ∀ i o, i < wl.heap.size → ¬ (T i ∨ (wl.heap.size ≤ i ∧ Obj.isCells o = false)) := fun i o hi h2 => by
    rcases h2 with h2 | h2
    · have := h.far i h2; omega
    · omega
  refine ⟨h.eq, ?_, h.own, h.keep.trans' hk (fun i o ho hm => absurd hm (hold i o (lt_of_obj ho))), fun t ht => ?_, h.lt⟩
  · have h1 := h.out.mono (ok' := fun k => okT ok wl.heap.size T k ∧ k < W.heap.size) (fun k hk h => ⟨h, hk⟩)
    have h2 := h1.keeps hk (fun o _ => hold co o h8) (fun o _ => hold cm o h9) (fun k o ⟨hk1, _⟩ hc hm => by
      rcases hm with hm | hm
      · rcases hk1 with hk1 | hk1
        · have := h.far k hm; omega
        · exact hk1.2 hm
      · rcases hc with ⟨cur, rfl⟩ | ⟨c, fr, rfl⟩ <;> cases hm.2)
    refine h2.mono (fun k _ ⟨hk1, hk2⟩ => ?_)
    rcases hk1 with hk1 | hk1
    · exact .inl hk1
    · refine .inr ⟨hk1.1, fun h4 => ?_⟩
      rcases hT k h4 with h5 | h5
      · exact hk1.2 h5
      · omega
  · rcases hT t ht with h1 | h1
    · exact h.far t h1
    · have := h.keep.size; omega

theorem took_leave2 {ok ok5 : Nat → Prop} {co cm most : Nat} {w W3 W5 W9 : World} {v v5 : Value} {L' : List (List Int)} {vs5 : List Value} (hg : Grew w W3) (h5 : OutAt ok5 co cm most W5 v5 L' vs5) (hm5 : ∀ k, ok5 k → ok k ∨ w.heap.size ≤ k)
    (hk : Keeps (fun i o => MayO co v i o ∨ w.heap.size ≤ i) W3 W5) (ho : ∀ k, v5.ownBlock = some k → v.ownBlock = some k ∨ W3.heap.size ≤ k)
    (hkk : Keeps (fun k o => w.heap.size ≤ k ∧ o.isCells = false) W5 W9) : Took ok co cm most v L' w W9 := by
  have h9 := h5.keeps hkk (fun o h1 h2 => by rw [h1] at h2; cases h2.2) (fun o h1 h2 => by rw [h1] at h2; cases h2.2) (by rintro k o _ (⟨cur, rfl⟩ | ⟨c, fr, rfl⟩) ⟨_, h⟩ <;> cases h)
  refine ⟨v5, vs5, h9.mono (fun k _ h => hm5 k h), ?_, fun k e => ?_⟩
  · have h1 : Keeps (fun i o => w.heap.size ≤ i ∨ MayO co v i o) w W9 := ((hg.keeps.trans (hk.mono (fun _ _ h => h.symm)))).trans (hkk.mono (fun i o h => .inl h.1))
    exact ⟨h1.os, h1.tape, h1.output, h1.size, fun k o ho hn => h1.obj k o ho (fun hm => by
      rcases hm with hm | hm
      · have := lt_of_obj ho; omega
      · exact hn hm)⟩
  · rcases ho k e with h | h
    · exact .inl h
    · exact .inr (Nat.le_trans hg.size h)

set_option maxHeartbeats 8000000 in
set_option maxRecDepth 100000 in
theorem words_any (D : Int → Int → Bool) (B N co cm most : Nat) (hN : N ≤ 6) (hmost : most ≤ 1000) (hne : co ≠ cm) (hBo : B ≠ co) : ∀ (k : Nat) (xs fr : List Int) (wv fv : Value) (w : World) (ok : Nat → Prop) (v : Value) (L : List (List Int)) (vs : List Value), xs.length = k → fr.length + k ≤ 10 →
    (∀ z ∈ xs, 0 ≤ z ∧ z < (N : Int)) → Loom w B D N → ¬ ok B → WdOff (fun i o => IntCells i o ∨ (¬ ok i ∧ i ≠ co)) w wv xs → WdOff (fun i o => IntCells i o ∧ ok i) w fv fr → OutAt ok co cm most w v L vs →
    Calls Try.prog 62 #[.pointer (some ⟨B, 0, none⟩), fv, wv, .func (.func 63) #[] #[.pointer (some ⟨co, 0, none⟩), .pointer (some ⟨cm, 0, none⟩)]] w fun e w' => e = .returned (.bool (decide (((L ++ (classM D N xs).map (fr ++ ·)).take most).length < most))) ∧ Took ok co cm most v ((L ++ (classM D N xs).map (fr ++ ·)).take most) w w' := by
  intro k
  induction k with
  | zero =>
    intro xs fr wv fv w ok v L vs hk hfk hw hL hnB hx hf hO
    obtain rfl : xs = [] := List.length_eq_zero_iff.1 hk
    obtain ⟨⟨xa, xc, rfl, _⟩, _⟩ := hx
    rw [classM_nil]
    simp only [List.map_cons, List.map_nil, List.append_nil]
    obtain ⟨L', hL'⟩ : ∃ L', (L ++ [fr]).take most = L' := ⟨_, rfl⟩
    rw [hL']
    obtain ⟨W0, hW0, g0, k0, hz⟩ := box1 w (.pointer (some ⟨B, 0, none⟩)) 58
    obtain ⟨W1, hW1, g1, k1, hz1⟩ := box1 W0 fv 25
    obtain ⟨W2, hW2, g2, k2, hz2⟩ := box1 W1 (.func (.func 63) #[] #[.pointer (some ⟨co, 0, none⟩), .pointer (some ⟨cm, 0, none⟩)]) 63
    obtain ⟨W3, hW3, g3, k3, hz3⟩ := box1 W2 (.bool false) 4
    have g03 := grew_trans g0 (grew_trans g1 (grew_trans g2 g3))
    have hy := yield63_any ok co cm most fv fr W3 v L vs hmost hne (hO.grew g03) (hf.grew g03)
    rw [hL'] at hy
    have HY := hid hy
    obtain ⟨⟨fa, fc, rfl, _⟩, _⟩ := id hf
    have q1 := ((grew_trans g2 g3).cell (p := ⟨W0.heap.size, 0, none⟩) hz1).trans k1
    have q2 := (g3.cell (p := ⟨W1.heap.size, 0, none⟩) hz2).trans k2
    have o3 : W3.heap[W2.heap.size]? = some (.cells #[.bool false] 4 (0, 0)) := by rw [← hW3]; exact heap_alloc_new W2 _
    have HO3 := hid o3
    have HG := hid g03
    have HGS := hid (show w.heap.size ≤ W2.heap.size from (grew_trans g0 (grew_trans g1 g2)).size)
    have z1 := Nat.lt_of_lt_of_le hz1 (grew_trans g2 g3).size
    have z2 := Nat.lt_of_lt_of_le hz2 g3.size
    clear hy hf hO hL hw o3 hL'
    refine (callsIn_wide (n := 9)).1 ?_
    refine callsIn_of_wp_marks Try.func62 rfl trivial ?_ rfl
    simp only [Try.ntmps62, List.size_toArray, List.length_cons, List.length_nil, Nat.reduceAdd, Nat.reduceSub, Array.replicate_succ, Array.replicate_zero, List.push_toArray, List.append_toArray, List.nil_append, List.cons_append]
    gi_wp2
    refine ⟨trivial, (callsIn_wide.2 HY.out).mono ?_⟩
    rintro e w5 ⟨rfl, v5, vs5, h5, hk5, ho5⟩
    have H5 := hid h5; have HK5 := hid hk5; have HN5 := hid ho5
    have ob5 := hk5.obj _ _ HO3.out (by rintro (⟨_, x, h⟩ | ⟨_, cur, h⟩) <;> cases h)
    have c5 : w5.cell? ⟨W2.heap.size, 0, none⟩ = some _ := cell_of_row _ _ _ _ _ _ ob5
    have f5 := frozen_obj ob5 0
    have l5 := lt_of_obj ob5
    have HOB5 := hid ob5
    clear h5 hk5 ho5 ob5
    gi_wp2
    refine leaves_marks w.heap.size [] _ (fun _ h => (by cases h)) List.nodup_nil (fun W9 hkk => ⟨_, results_bool rfl rfl (cell_of_row _ _ _ _ _ _ (hkk.obj _ _ ((heap_setCell_same _ _ _ _ _ _ HOB5.out).trans rfl) (fun h => by cases h.2))), rfl, ?_⟩)
    exact took_leave HG.out H5.out (fun k h => h.imp id (fun h => Nat.le_trans HG.out.size h)) HK5.out HN5.out HOB5.out HGS.out hkk
  | succ k ih =>
    intro xs fr wv fv w ok v L vs hk hfk hw hL hnB hx hf hO
    obtain ⟨m, hmk⟩ : ∃ m, m = k + 1 := ⟨_, rfl⟩
    rw [← hmk] at hk hfk
    have hm0 : 0 < m := by omega
    have hmz : ((m : Int) == 0) = false := by simp; omega
    have HMK := hid hmk
    have hxne : xs ≠ [] := by intro e; rw [e] at hk; simp at hk; omega
    rw [← goesTo_all fr hxne]
    obtain ⟨Lf, hLf⟩ : ∃ Lf, (L ++ goesTo D N xs fr (starts D N xs)).take most = Lf := ⟨_, rfl⟩
    rw [hLf]
    obtain ⟨bf, hbf⟩ : ∃ b, decide (Lf.length < most) = b := ⟨_, rfl⟩
    rw [hbf]
    have HBF := hid hbf
    clear hbf
    have hsne : starts D N xs ≠ [] := starts_ne hw hxne
    obtain ⟨⟨xa, xc, rfl, hxc⟩, hxi⟩ := id hx
    obtain ⟨⟨fa, fc, rfl, hfc⟩, hfi⟩ := id hf
    obtain ⟨W0, hW0, g0, k0, hz⟩ := box1 w (.pointer (some ⟨B, 0, none⟩)) 58
    obtain ⟨W1, hW1, g1, k1, hz1⟩ := box1 W0 (.slice fa fr.length fc) 25
    obtain ⟨W2, hW2, g2, k2, hz2⟩ := box1 W1 (.func (.func 63) #[] #[.pointer (some ⟨co, 0, none⟩), .pointer (some ⟨cm, 0, none⟩)]) 63
    obtain ⟨W3, hW3, g3, k3, hz3⟩ := box1 W2 (.bool false) 4
    have g03 := grew_trans g0 (grew_trans g1 (grew_trans g2 g3))
    have g13 := grew_trans g1 (grew_trans g2 g3)
    have q0 := (g13.cell (p := ⟨w.heap.size, 0, none⟩) hz).trans k0
    have q1 := ((grew_trans g2 g3).cell (p := ⟨W0.heap.size, 0, none⟩) hz1).trans k1
    have q2 := (g3.cell (p := ⟨W1.heap.size, 0, none⟩) hz2).trans k2
    have o3 : W3.heap[W2.heap.size]? = some (.cells #[.bool false] 4 (0, 0)) := by rw [← hW3]; exact heap_alloc_new W2 _
    have z0 := Nat.lt_of_lt_of_le hz g13.size
    have z1 := Nat.lt_of_lt_of_le hz1 (grew_trans g2 g3).size
    have z2 := Nat.lt_of_lt_of_le hz2 g3.size
    have HO := hid hO; have HF := hid hf; have HX := hid hx; have HL := hid hL; have HW := hid hw; have IH := hid ih
    have HO3 := hid o3; have HG := hid g03; have HXK := hid hk; have HLF := hid hLf; have HSN := hid hsne; have HNB := hid hnB; have HFK := hid hfk
    rw [hk]
    have hGS : w.heap.size ≤ W0.heap.size ∧ W0.heap.size ≤ W1.heap.size ∧ W1.heap.size ≤ W2.heap.size := ⟨g0.size, g1.size, g2.size⟩
    have HGS := hid hGS
    clear hO hf hx hL hw ih o3 g03 hk hLf hsne hxi hfi hxc hfc g13 g1 g2 g3 g0 hmk hxne hnB hGS hfk
    refine (callsIn_wide (n := 9)).1 ?_
    refine callsIn_of_wp_marks Try.func62 rfl trivial ?_ rfl
    simp only [Try.ntmps62, List.size_toArray, List.length_cons, List.length_nil, Nat.reduceAdd, Nat.reduceSub, Array.replicate_succ, Array.replicate_zero, List.push_toArray, List.append_toArray, List.nil_append, List.cons_append]
    gi_wp2_with (refine ⟨trivial, ?_⟩; gi_at_call 90; refine (callsIn_wide.2 (starts90_any B xa m xc _)).mono ?_; rintro e w4 ⟨rfl, hx4, hb1, hb2⟩; have HX4 := hid hx4; have HB1 := hid hb1; have HB2 := hid hb2; clear hx4 hb1 hb2)
    have hg4 : Grew w w4 := grew_trans HG.out HX4.out
    have HG4 := hid hg4
    have b1 := HB1.out
    have b2 := HB2.out
    have hs3 : w.heap.size < W3.heap.size := by have := HGS.out; omega
    have hs34 := HX4.out.size
    have hBw := HL.out.lt
    have hco := lt_of_obj HO.out.out
    have hcm := lt_of_obj HO.out.top
    have hmayO : ∀ i o, MayO co v i o → i < w.heap.size := fun i o h => by
      rcases h with ⟨rfl, _⟩ | ⟨h, _⟩
      · exact hco
      · exact (HO.out.seg.own i h).2.1
    have hwx : WdOff (fun i o => ¬ (MayO co v i o ∨ w4.heap.size ≤ i)) w (.slice xa m xc) xs := by
      have h1 := HX.out
      rw [HXK.out] at h1
      refine h1.re (fun i o ho h h2 => ?_)
      rcases h2 with h2 | h2
      · rcases h with ⟨c, fr', rfl⟩ | ⟨h3, h4⟩
        · rcases h2 with ⟨_, x, h2⟩ | ⟨_, cur, h2⟩ <;> cases h2
        · rcases h2 with ⟨h2, _⟩ | ⟨h2, _⟩
          · exact h4 h2
          · exact h3 (HO.out.own i h2)
      · have := lt_of_obj ho; have := hg4.size; omega
    have hseq := starts_stops D B N xs W3.heap.size (W3.heap.size + 1) (.slice xa m xc) w4 8 (by decide) hN HW.out (by rw [HXK.out]; have := HFK.out; omega) (HL.out.grew hg4) b1 b2
      (fun i o => MayO co v i o ∨ w4.heap.size ≤ i) (fun o ho h => by
        rcases h with h | h
        · rcases h with ⟨h, _⟩ | ⟨h, _⟩
          · exact hBo h
          · exact HNB.out (HO.out.own B h)
        · have := hg4.size; omega) (fun o ho h => by
        rcases h with h | h
        · have := hmayO _ _ h; omega
        · have := lt_of_obj ho; omega) (fun o ho h => by
        rcases h with h | h
        · have := hmayO _ _ h; omega
        · have := lt_of_obj ho; omega)
      (hwx.grew hg4)
    have HSEQ := hid hseq
    have hco4 : co < w4.heap.size := by have := hg4.size; omega
    have hcm4 : cm < w4.heap.size := by have := hg4.size; omega
    have HMO := hid hmayO
    have HO4 := hid ((HX4.out.block _ (lt_of_obj HO3.out)).trans HO3.out)
    have HZ3 := hid (show w.heap.size < w4.heap.size ∧ W0.heap.size < w4.heap.size ∧ W1.heap.size < w4.heap.size ∧ W2.heap.size < w4.heap.size by have := lt_of_obj HO3.out; omega)
    have HQ0 := hid ((HX4.out.cell (p := ⟨w.heap.size, 0, none⟩) z0).trans q0)
    have HQ1 := hid ((HX4.out.cell (p := ⟨W0.heap.size, 0, none⟩) z1).trans q1)
    have HQ2 := hid ((HX4.out.cell (p := ⟨W1.heap.size, 0, none⟩) z2).trans q2)
    clear hseq hwx b1 b2 hmayO q0 q1 q2 hs3 hs34 hg4
    refine wpIn_rangeFunc_sep (P := Try.prog) rfl (by decide) (gf := 104) (fa := #[]) rfl trivial (enters_of Try.func104 (by kernel_rfl) rfl) HSEQ.out (grew_refl w4) (fun _ _ h => .inr h) (fun _ => rfl)
      (fun pre T W => ∃ v1 L1 vs1, WI D N xs fr ok co cm most v L w4 pre T W v1 L1 vs1)
      (fun c _ W => c = .ret ∧ ∃ v1 vs1, OutAt (fun k => ok k ∨ w.heap.size ≤ k) co cm most W v1 Lf vs1 ∧ ¬ Lf.length < most ∧ (∀ k, v1.ownBlock = some k → v.ownBlock = some k ∨ w4.heap.size ≤ k) ∧ W.heap[W2.heap.size]? = some (.cells #[.bool false] 4 (0, 0)) ∧ Keeps (fun i o => MayO co v i o ∨ w.heap.size ≤ i) w4 W)
      (fun pre T W W' ⟨v1, L1, vs1, h⟩ hk T' hT => ⟨v1, L1, vs1, h.keeps hco4 hcm4 hk hT⟩) ?hIx (fun pre x W W' hh hk => hh.keeps hk (fun k c fr hm => by cases hm.2.2))
      ⟨v, L, vs, by simp [goesTo, List.take_of_length_le HO.out.le], (HO.out.grew HG4.out).mono (fun k hk h => ?okk), fun k e => .inl e, Keeps.refl _ _, fun _ h => h.elim, .inl rfl⟩
      (fun x' => { tmps := #[.pointer (some ⟨B, 0, none⟩), .slice fa fr.length fc, .slice xa m xc, .func (.func 63) #[] #[.pointer (some ⟨co, 0, none⟩), .pointer (some ⟨cm, 0, none⟩)], .pointer (some ⟨w.heap.size, 0, none⟩), .pointer (some ⟨W0.heap.size, 0, none⟩), undef, .pointer (some ⟨W1.heap.size, 0, none⟩), .pointer (some ⟨W2.heap.size, 0, none⟩), .int .i64 x'.1, x'.2, .slice xa m xc, .int .i64 (m : Int), .bool false, undef, undef, undef, .pointer (some ⟨B, 0, none⟩), .slice xa m xc, .func (.func 104) #[] #[.pointer (some ⟨W3.heap.size, 0, none⟩), .pointer (some ⟨W3.heap.size + 1, 0, none⟩)], .int .i64 x'.1, x'.2, undef, undef, undef, undef, undef, undef, undef, undef, undef, undef], defers := [] })
      ?assign ?body ?done ?stop
    case okk => exact .inl ⟨h, hk⟩
    case hIx =>
      rintro c pre W W' ⟨rfl, v1, vs1, h1, h2, h3, h4, h5⟩ hk
      exact ⟨rfl, v1, vs1, h1.keeps hk (fun o h1 h2 => by rw [h1] at h2; cases h2.2) (fun o h1 h2 => by rw [h1] at h2; cases h2.2) (by rintro k o _ (⟨cur, rfl⟩ | ⟨c, fr, rfl⟩) ⟨_, h⟩ <;> cases h), h2, h3, hk.obj _ _ h4 (fun h => by cases h.2),
        h5.trans (hk.mono (fun i o h => .inr (by have := HG4.out.size; omega)))⟩
    case assign =>
      rintro l ⟨a, xv⟩ W K hK
      dsimp only [Go.Lin.Wv.encS]
      gi_wp2
      exact hK
    case body =>
      rintro l pre T ⟨a, xv⟩ W ⟨v1, L1, vs1, hI⟩ hh hT hlt
      have hfs := (mem_starts.1 hh.mem).2
      have hrl := rem_length hfs
      rw [HXK.out] at hrl
      simp only at hfs hrl
      have hat := hh.at'
      simp only at hat
      have hnI : ∀ i o, MayO co v i o → i < w.heap.size := HMO.out
      have d0 : W.cell? ⟨w.heap.size, 0, none⟩ = some (.pointer (some ⟨B, 0, none⟩)) := cell_keeps hI.keep (fun o ho h => by have := hnI _ _ h; omega) HQ0.out
      have d1 : W.cell? ⟨W0.heap.size, 0, none⟩ = some (.slice fa fr.length fc) := cell_keeps hI.keep (fun o ho h => by have := hnI _ _ h; have := HGS.out; omega) HQ1.out
      have d2 : W.cell? ⟨W1.heap.size, 0, none⟩ = some (.func (.func 63) #[] #[.pointer (some ⟨co, 0, none⟩), .pointer (some ⟨cm, 0, none⟩)]) := cell_keeps hI.keep (fun o ho h => by have := hnI _ _ h; have := HGS.out; omega) HQ2.out
      have hWW := hI.keep.size
      have l0 : w.heap.size < W.heap.size := by have := HZ3.out; omega
      have l1 : W0.heap.size < W.heap.size := by have := HZ3.out; omega
      have l2 : W1.heap.size < W.heap.size := by have := HZ3.out; omega
      have HOBW := hid (hI.keep.obj _ _ HO4.out (by rintro (⟨_, x, h⟩ | ⟨_, cur, h⟩) <;> cases h))
      have HLW := hid (((HL.out.grew HG4.out)).keeps hI.keep (fun o ho h => by
        rcases h with ⟨h, _⟩ | ⟨h, _⟩
        · exact hBo h
        · exact HNB.out (HO.out.own B h)))
      have hleft := hh.left
      simp only at hleft
      have HLFT := hid (show WdOff (fun i o => IntCells i o ∨ (¬ okT ok w4.heap.size T i ∧ i ≠ co)) W xv (rem D xs a) from hleft.re (fun _ _ _ h => .inl h.1))
      have HNBT := hid (show ¬ okT ok w4.heap.size T B from fun h => by
        rcases h with h | h
        · exact HNB.out h.1
        · have := HG4.out.size; omega)
      have HRL := hid (show (rem D xs a).length = k by have := HMK.out; omega)
      have HAT := hid hat
      have HFW := hid (show WdOff (fun i o => IntCells i o ∧ ok i) W (.slice fa fr.length fc) fr from ((HF.out.grew HG4.out)).keeps hI.keep (fun i o h hm => by
        obtain ⟨⟨c, fr', rfl⟩, _⟩ := h
        rcases hm with ⟨_, x, h2⟩ | ⟨_, cur, h2⟩ <;> cases h2))
      have HWW := hid hWW
      obtain ⟨L2, hL2⟩ : ∃ L2, (L1 ++ (classM D N (rem D xs a)).map ((fr ++ [a]) ++ ·)).take most = L2 := ⟨_, rfl⟩
      have hL2e : (L ++ goesTo D N xs fr (pre.map (·.1) ++ [a])).take most = L2 := by rw [← hL2, hI.eq, take_two, goesTo_snoc]
      have HL2 := hid hL2; have HL2E := hid hL2e
      obtain ⟨nf, hnf⟩ : ∃ n, fr.length = n := ⟨_, rfl⟩
      have HNF := hid hnf
      have hnf10 : nf ≤ 10 := by rw [← hnf]; have := HFK.out; omega
      have hnf9 : nf < 1000000000 := by omega
      have hmx : Try.prog.follows .mixedOrders = true := by kernel_rfl
      obtain ⟨⟨ra, rc, hxv, -⟩, -⟩ := id hleft
      subst hxv
      rw [hnf] at d1 HFW ⊢
      have HI := hid hI
      clear hI hh hat hfs hleft hL2 hL2e hrl hnf hWW hnI
      gi_wp2
      refine wpIn_region_gate (fun w' => w'.cell? ⟨w.heap.size, 0, none⟩ = some (.pointer (some ⟨B, 0, none⟩)) ∧ w'.cell? ⟨W0.heap.size, 0, none⟩ = some (.slice fa nf fc) ∧ w'.cell? ⟨W1.heap.size, 0, none⟩ = some (.func (.func 63) #[] #[.pointer (some ⟨co, 0, none⟩), .pointer (some ⟨cm, 0, none⟩)])) 8 hmx ?_
      have hS0 : W.drew.cell? ⟨w.heap.size, 0, none⟩ = some (.pointer (some ⟨B, 0, none⟩)) ∧ W.drew.cell? ⟨W0.heap.size, 0, none⟩ = some (.slice fa nf fc) ∧ W.drew.cell? ⟨W1.heap.size, 0, none⟩ = some (.func (.func 63) #[] #[.pointer (some ⟨co, 0, none⟩), .pointer (some ⟨cm, 0, none⟩)]) := ⟨d0, d1, d2⟩
      refine wpAnyG_take (i := 0) [] rfl (by kernel_rfl) (by kernel_rfl) (by kernel_rfl) (by kernel_rfl) (by kernel_rfl) (by kernel_rfl) (fun _ _ _ h => h) (fun _ => rfl) (v := .pointer (some ⟨B, 0, none⟩)) (fun w' h => ?_) (fun _ => rfl) (by assumption) ?_
      · (obtain ⟨h1, h2, h3⟩ := h; go_simp)
      simp only [Act.put, List.setIfInBounds_toArray, List.set_cons_zero, List.set_cons_succ]
      refine wpAnyG_take (i := 1) [5, 2] rfl (by kernel_rfl) (by kernel_rfl) (by kernel_rfl) (by kernel_rfl) (by kernel_rfl) (by kernel_rfl) (fun _ _ _ h => h) (fun _ => rfl) (v := .slice fa nf fc) (fun w' h => ?_) (fun _ => rfl) (by assumption) ?_
      · (obtain ⟨h1, h2, h3⟩ := h; go_simp)
      simp only [Act.put, List.setIfInBounds_toArray, List.set_cons_zero, List.set_cons_succ]
      refine wpAnyG_take (i := 3) [5, 4] rfl (by kernel_rfl) (by kernel_rfl) (by kernel_rfl) (by kernel_rfl) (by kernel_rfl) (by kernel_rfl) (fun _ _ _ h => h) (fun _ => rfl) (v := .int .i64 a) (fun w' h => ?_) (fun _ => rfl) (by assumption) ?_
      · (go_simp)
      simp only [Act.put, List.setIfInBounds_toArray, List.set_cons_zero, List.set_cons_succ]
      refine wpAnyG_take (i := 6) [] rfl (by kernel_rfl) (by kernel_rfl) (by kernel_rfl) (by kernel_rfl) (by kernel_rfl) (by kernel_rfl) (fun _ _ _ h => h) (fun _ => rfl) (v := .slice ra (rem D xs a).length rc) (fun w' h => ?_) (fun _ => rfl) (by assumption) ?_
      · (go_simp)
      simp only [Act.put, List.setIfInBounds_toArray, List.set_cons_zero, List.set_cons_succ]
      refine wpAnyG_take (i := 7) [] rfl (by kernel_rfl) (by kernel_rfl) (by kernel_rfl) (by kernel_rfl) (by kernel_rfl) (by kernel_rfl) (fun _ _ _ h => h) (fun _ => rfl) (v := .func (.func 63) #[] #[.pointer (some ⟨co, 0, none⟩), .pointer (some ⟨cm, 0, none⟩)]) (fun w' h => ?_) (fun _ => rfl) (by assumption) ?_
      · (obtain ⟨h1, h2, h3⟩ := h; go_simp)
      simp only [Act.put, List.setIfInBounds_toArray, List.set_cons_zero, List.set_cons_succ]
      have HCL := hid (fun (W' : World) (hW' : Grew W W') => clone_ints (.slice fa nf fc) nf fr W' HNF.out (by omega) (HFW.out.wd.grew hW').ints)
      refine wpAnyG_two (i := 2) (k := 4) rfl rfl (by kernel_rfl) ?_ ?_
      · gi_wp2_with (refine ⟨trivial, ?_⟩; gi_at_call 80; refine (CallsIn.inRound l (callsIn_wide.2 (HCL.out _ (grew_drew (grew_refl W))))).mono ?_; rintro e w5 ⟨cv, rfl, hs5, hg5⟩; have HS4 := hid hs5; have hgg := grew_trans (grew_drew (grew_refl W)) hg5; have HG45 := hid hgg; obtain ⟨ca, cc, rfl, _⟩ := hs5.shape; clear hs5 hg5)
        refine ⟨fun _ => ⟨(HG45.out.cell (p := ⟨w.heap.size, 0, none⟩) l0).trans d0, (HG45.out.cell (p := ⟨W0.heap.size, 0, none⟩) l1).trans d1, (HG45.out.cell (p := ⟨W1.heap.size, 0, none⟩) l2).trans d2⟩, ?_⟩
        refine wpAnyG_one (i := 4) rfl (by kernel_rfl) ?_
        gi_wp2
        have HG5 := hid (grew_alloc HG45.out (.cells #[.int .i64 a] 3))
        have HS5 := hid ((HS4.out.alloc (.cells #[.int .i64 a] 3)).mono (base' := W.heap.size) (Nat.le_refl _))
        refine ⟨fun _ => ⟨(HG5.out.cell (p := ⟨w.heap.size, 0, none⟩) l0).trans d0, (HG5.out.cell (p := ⟨W0.heap.size, 0, none⟩) l1).trans d1, (HG5.out.cell (p := ⟨W1.heap.size, 0, none⟩) l2).trans d2⟩, ?_⟩
        refine wpAnyG_one (i := 5) rfl (by kernel_rfl) ?_
        gi_wp2_with (gi_at_builtin; go_loud (refine wpListIn_append_one rfl _ _ 25 rfl W.heap.size 3 Try.underlying25 Try.info3 rfl (by decide) _ nf _ rfl HS5.out w5.heap.size 1 (.int .i64 a) rfl (show _ = _ from one_new w5 _ _) rfl hnf9 ?_ ?_; (first | (have := HG5.out.size; omega) | (have := HG45.out.size; simp only [World.size_alloc]; omega)); intro v6 w6 hown6 hgrow6 hblk6); have hg6 : Grew W w6 := HG5.out.grown hgrow6 HG5.out.size (fun k e => (HS5.out.own k e).1); have HG6 := hid hg6; have HS6 := hid hown6; obtain ⟨a6, c6, rfl, _⟩ := hown6.shape; clear hown6 hgrow6 hblk6 hg6)
        have e0 := (HG6.out.cell (p := ⟨w.heap.size, 0, none⟩) l0).trans d0
        have e1 := (HG6.out.cell (p := ⟨W0.heap.size, 0, none⟩) l1).trans d1
        have e2 := (HG6.out.cell (p := ⟨W1.heap.size, 0, none⟩) l2).trans d2
        refine ⟨fun _ => ⟨e0, e1, e2⟩, ?_⟩
        have hs6 : Seg w6 W.heap.size 3 1 (.slice a6 (nf + 1) c6) (nf + 1) ((fr ++ [a]).map (.int .i64)) := by rw [List.map_append]; exact HS6.out
        have hrec := IH.out (rem D xs a) (fr ++ [a]) (.slice ra (rem D xs a).length rc) (.slice a6 (nf + 1) c6) w6 (okT ok w4.heap.size T) v1 L1 vs1 HRL.out (by rw [List.length_append, List.length_singleton]; have := HFK.out; have := HMK.out; omega) (fun z hz => HW.out z (rem_sub hz)) (HLW.out.grew HG6.out) HNBT.out (HLFT.out.grew HG6.out)
          ((wdOff_of_seg hs6).re (fun k o _ ⟨h1, h2⟩ => ⟨h1, .inr ⟨Nat.le_trans HWW.out h2, fun h3 => by have := (hT k h3).2; omega⟩⟩)) (HI.out.out.grew HG6.out)
        rw [HL2.out] at hrec
        have HREC := hid hrec
        clear hrec hs6
        refine wpAnyG_one (i := 8) rfl (by kernel_rfl) ?_
        gi_wp2_with (refine ⟨trivial, ?_⟩; gi_at_call 62; refine (CallsIn.inRound l (callsIn_wide.2 HREC.out)).mono ?_; rintro e w7 ⟨rfl, v7, vs7, h7, hk7, ho7⟩; have H7 := hid h7; have HK7 := hid hk7; have HO7 := hid ho7; clear h7 hk7 ho7)
        refine ⟨gate_done (by kernel_rfl), ?_⟩
        refine wpAnyG_one (i := 9) rfl (by kernel_rfl) ?_
        gi_wp2
        refine ⟨gate_done (by kernel_rfl), ?_⟩
        refine wpAnyG_done (by kernel_rfl) ?_ _
        simp only [NoP]
        have hkWO : Keeps (MayO co v1) W w7 := (HG6.out.keeps).trans HK7.out
        have hlw : ∀ i o, MayO co v1 i o → i < w4.heap.size → MayO co v i o := fun i o h hi => by
          rcases h with h | ⟨h, h2⟩
          · exact .inl h
          · rcases HI.out.own i h with h3 | h3
            · exact .inr ⟨h3, h2⟩
            · omega
        have hown7 : ∀ k, v7.ownBlock = some k → v.ownBlock = some k ∨ w4.heap.size ≤ k := fun k e => by
          rcases HO7.out k e with h | h
          · exact HI.out.own k h
          · exact .inr (Nat.le_trans (Nat.le_trans HWW.out HG6.out.size) h)
        by_cases hb : L2.length < most
        · have hbd : decide (L2.length < most) = true := decide_eq_true hb
          have HB := hid hb
          rw [hbd]
          clear hb hbd
          gi_wp2
          refine ⟨hkWO.mono (fun i o h => ?_), v7, L2, vs7, ?_, ?_, hown7, HI.out.keep.trans' hkWO (fun i o ho h => hlw i o h (lt_of_obj ho)), HI.out.far, .inr HB.out⟩
          · rcases h with ⟨rfl, x, rfl⟩ | ⟨h, cur, rfl⟩
            · exact ⟨fun h4 => by have := HI.out.far _ h4; omega, .inl (.inl ⟨rfl, x, rfl⟩), .inl hco4⟩
            · have hok := HI.out.out.own i h
              refine ⟨fun h4 => ?_, ?_, .inr rfl⟩
              · rcases hok with h5 | h5
                · have := HI.out.far _ h4; omega
                · exact h5.2 h4
              · rcases HI.out.own i h with h5 | h5
                · exact .inl (.inr ⟨h5, cur, rfl⟩)
                · exact .inr h5
          · rw [← HL2E.out, List.map_append]; rfl
          · exact H7.out.mono (fun k _ h => h.elim id (fun h => .inr ⟨Nat.le_trans (Nat.le_trans HWW.out HG6.out.size) h, fun h4 => by have := (hT k h4).2; have := HG6.out.size; omega⟩))
        · have hbd : decide (L2.length < most) = false := decide_eq_false hb
          have HB := hid hb
          rw [hbd]
          clear hb hbd
          have ob7 := hkWO.obj _ _ HOBW.out (by rintro (⟨_, x, h⟩ | ⟨_, cur, h⟩) <;> cases h)
          have c7 : w7.cell? ⟨W2.heap.size, 0, none⟩ = some _ := cell_of_row _ _ _ _ _ _ ob7
          have f7 := frozen_obj ob7 0
          have l7 := lt_of_obj ob7
          have HOB7 := hid ob7
          clear ob7
          gi_wp2
          have hset : Keeps (fun k o => k = W2.heap.size ∧ o = .cells #[.bool false] 4 (0, 0)) w7 (w7.setCell ⟨W2.heap.size, 0, none⟩ (.bool false)) := keeps_setCell w7 W2.heap.size _ (fun o ho => ⟨rfl, by rw [HOB7.out] at ho; exact (Option.some.inj ho).symm⟩)
          have hcc : ∀ i o, MayO co v1 i o → o.isCells = true := fun i o h => by rcases h with ⟨_, x, rfl⟩ | ⟨_, cur, rfl⟩ <;> rfl
          have hLL : Lf = L2 := by
            rw [← HLF.out, ← HL2E.out, goesTo_front (fr := fr) (show starts D N xs = pre.map (·.1) ++ a :: _ from HAT.out)]
            exact take_full _ _ _ _ (by rw [HL2E.out]; exact HB.out)
          have h8 := H7.out.keeps hset (by rintro o _ ⟨e, rfl⟩; have := H7.out.out; rw [e, HOB7.out] at this; cases this) (by rintro o _ ⟨e, rfl⟩; have := H7.out.top; rw [e, HOB7.out] at this; cases this) (by rintro k o _ (⟨cur, rfl⟩ | ⟨c, fr, rfl⟩) ⟨_, h⟩ <;> cases h)
          refine ⟨(hkWO.mono (fun i o h => .inr (hcc i o h))).trans (hset.mono (fun i o h => .inr (by rw [h.2]; rfl))), rfl, v7, vs7, ?_, by rw [hLL]; exact HB.out, hown7, ?_, ?_⟩
          · rw [hLL]
            refine h8.mono (fun k _ h => ?_)
            rcases h with (h | h) | h
            · exact .inl h.1
            · exact .inr (Nat.le_trans HG4.out.size h.1)
            · exact .inr (Nat.le_trans (Nat.le_trans (Nat.le_trans HG4.out.size HWW.out) HG6.out.size) h)
          · exact (heap_setCell_same _ _ _ _ _ _ HOB7.out).trans rfl
          · exact ((HI.out.keep.mono (fun _ _ h => .inl h)).trans' hkWO (fun i o ho h => .inl (hlw i o h (lt_of_obj ho)))).trans (hset.mono (fun i o h => .inr (by rw [h.1]; have := HGS.out; omega)))
      · gi_wp2
        have HGA := hid (grew_alloc (grew_drew (grew_refl W)) (.cells #[.int .i64 a] 3))
        have HZA := hid (show W.heap.size < (W.drew.alloc (.cells #[.int .i64 a] 3)).heap.size by rw [World.size_alloc]; exact Nat.lt_succ_self _)
        have HCA := hid (show (W.drew.alloc (.cells #[.int .i64 a] 3)).cell? ⟨W.heap.size, 0, none⟩ = some (.int .i64 a) from one_new W.drew _ _)
        refine ⟨fun _ => ⟨(HGA.out.cell (p := ⟨w.heap.size, 0, none⟩) l0).trans d0, (HGA.out.cell (p := ⟨W0.heap.size, 0, none⟩) l1).trans d1, (HGA.out.cell (p := ⟨W1.heap.size, 0, none⟩) l2).trans d2⟩, ?_⟩
        refine wpAnyG_one (i := 2) rfl (by kernel_rfl) ?_
        gi_wp2_with (refine ⟨trivial, ?_⟩; gi_at_call 80; refine (CallsIn.inRound l (callsIn_wide.2 (HCL.out _ HGA.out))).mono ?_; rintro e w5 ⟨cv, rfl, hs5, hg5⟩; have HS4 := hid hs5; have hgg := grew_trans HGA.out hg5; have HG5 := hid hgg; have HEC := hid ((hg5.cell (p := ⟨W.heap.size, 0, none⟩) HZA.out).trans HCA.out); obtain ⟨ca, cc, rfl, _⟩ := hs5.shape; clear hs5 hg5 hgg)
        have HS5 := hid (HS4.out.mono (base' := W.heap.size) (Nat.le_of_lt HZA.out))
        have HG45 := HG5
        refine ⟨fun _ => ⟨(HG5.out.cell (p := ⟨w.heap.size, 0, none⟩) l0).trans d0, (HG5.out.cell (p := ⟨W0.heap.size, 0, none⟩) l1).trans d1, (HG5.out.cell (p := ⟨W1.heap.size, 0, none⟩) l2).trans d2⟩, ?_⟩
        refine wpAnyG_one (i := 5) rfl (by kernel_rfl) ?_
        gi_wp2_with (gi_at_builtin; go_loud (refine wpListIn_append_one rfl _ _ 25 rfl W.heap.size 3 Try.underlying25 Try.info3 rfl (by decide) _ nf _ rfl HS5.out W.heap.size 1 (.int .i64 a) rfl (show _ = _ from HEC.out) rfl hnf9 ?_ ?_; (first | (have := HG5.out.size; omega) | (have := HG45.out.size; simp only [World.size_alloc]; omega)); intro v6 w6 hown6 hgrow6 hblk6); have hg6 : Grew W w6 := HG5.out.grown hgrow6 HG5.out.size (fun k e => (HS5.out.own k e).1); have HG6 := hid hg6; have HS6 := hid hown6; obtain ⟨a6, c6, rfl, _⟩ := hown6.shape; clear hown6 hgrow6 hblk6 hg6)
        have e0 := (HG6.out.cell (p := ⟨w.heap.size, 0, none⟩) l0).trans d0
        have e1 := (HG6.out.cell (p := ⟨W0.heap.size, 0, none⟩) l1).trans d1
        have e2 := (HG6.out.cell (p := ⟨W1.heap.size, 0, none⟩) l2).trans d2
        refine ⟨fun _ => ⟨e0, e1, e2⟩, ?_⟩
        have hs6 : Seg w6 W.heap.size 3 1 (.slice a6 (nf + 1) c6) (nf + 1) ((fr ++ [a]).map (.int .i64)) := by rw [List.map_append]; exact HS6.out
        have hrec := IH.out (rem D xs a) (fr ++ [a]) (.slice ra (rem D xs a).length rc) (.slice a6 (nf + 1) c6) w6 (okT ok w4.heap.size T) v1 L1 vs1 HRL.out (by rw [List.length_append, List.length_singleton]; have := HFK.out; have := HMK.out; omega) (fun z hz => HW.out z (rem_sub hz)) (HLW.out.grew HG6.out) HNBT.out (HLFT.out.grew HG6.out)
          ((wdOff_of_seg hs6).re (fun k o _ ⟨h1, h2⟩ => ⟨h1, .inr ⟨Nat.le_trans HWW.out h2, fun h3 => by have := (hT k h3).2; omega⟩⟩)) (HI.out.out.grew HG6.out)
        rw [HL2.out] at hrec
        have HREC := hid hrec
        clear hrec hs6
        refine wpAnyG_one (i := 8) rfl (by kernel_rfl) ?_
        gi_wp2_with (refine ⟨trivial, ?_⟩; gi_at_call 62; refine (CallsIn.inRound l (callsIn_wide.2 HREC.out)).mono ?_; rintro e w7 ⟨rfl, v7, vs7, h7, hk7, ho7⟩; have H7 := hid h7; have HK7 := hid hk7; have HO7 := hid ho7; clear h7 hk7 ho7)
        refine ⟨gate_done (by kernel_rfl), ?_⟩
        refine wpAnyG_one (i := 9) rfl (by kernel_rfl) ?_
        gi_wp2
        refine ⟨gate_done (by kernel_rfl), ?_⟩
        refine wpAnyG_done (by kernel_rfl) ?_ _
        simp only [NoP]
        have hkWO : Keeps (MayO co v1) W w7 := (HG6.out.keeps).trans HK7.out
        have hlw : ∀ i o, MayO co v1 i o → i < w4.heap.size → MayO co v i o := fun i o h hi => by
          rcases h with h | ⟨h, h2⟩
          · exact .inl h
          · rcases HI.out.own i h with h3 | h3
            · exact .inr ⟨h3, h2⟩
            · omega
        have hown7 : ∀ k, v7.ownBlock = some k → v.ownBlock = some k ∨ w4.heap.size ≤ k := fun k e => by
          rcases HO7.out k e with h | h
          · exact HI.out.own k h
          · exact .inr (Nat.le_trans (Nat.le_trans HWW.out HG6.out.size) h)
        by_cases hb : L2.length < most
        · have hbd : decide (L2.length < most) = true := decide_eq_true hb
          have HB := hid hb
          rw [hbd]
          clear hb hbd
          gi_wp2
          refine ⟨hkWO.mono (fun i o h => ?_), v7, L2, vs7, ?_, ?_, hown7, HI.out.keep.trans' hkWO (fun i o ho h => hlw i o h (lt_of_obj ho)), HI.out.far, .inr HB.out⟩
          · rcases h with ⟨rfl, x, rfl⟩ | ⟨h, cur, rfl⟩
            · exact ⟨fun h4 => by have := HI.out.far _ h4; omega, .inl (.inl ⟨rfl, x, rfl⟩), .inl hco4⟩
            · have hok := HI.out.out.own i h
              refine ⟨fun h4 => ?_, ?_, .inr rfl⟩
              · rcases hok with h5 | h5
                · have := HI.out.far _ h4; omega
                · exact h5.2 h4
              · rcases HI.out.own i h with h5 | h5
                · exact .inl (.inr ⟨h5, cur, rfl⟩)
                · exact .inr h5
          · rw [← HL2E.out, List.map_append]; rfl
          · exact H7.out.mono (fun k _ h => h.elim id (fun h => .inr ⟨Nat.le_trans (Nat.le_trans HWW.out HG6.out.size) h, fun h4 => by have := (hT k h4).2; have := HG6.out.size; omega⟩))
        · have hbd : decide (L2.length < most) = false := decide_eq_false hb
          have HB := hid hb
          rw [hbd]
          clear hb hbd
          have ob7 := hkWO.obj _ _ HOBW.out (by rintro (⟨_, x, h⟩ | ⟨_, cur, h⟩) <;> cases h)
          have c7 : w7.cell? ⟨W2.heap.size, 0, none⟩ = some _ := cell_of_row _ _ _ _ _ _ ob7
          have f7 := frozen_obj ob7 0
          have l7 := lt_of_obj ob7
          have HOB7 := hid ob7
          clear ob7
          gi_wp2
          have hset : Keeps (fun k o => k = W2.heap.size ∧ o = .cells #[.bool false] 4 (0, 0)) w7 (w7.setCell ⟨W2.heap.size, 0, none⟩ (.bool false)) := keeps_setCell w7 W2.heap.size _ (fun o ho => ⟨rfl, by rw [HOB7.out] at ho; exact (Option.some.inj ho).symm⟩)
          have hcc : ∀ i o, MayO co v1 i o → o.isCells = true := fun i o h => by rcases h with ⟨_, x, rfl⟩ | ⟨_, cur, rfl⟩ <;> rfl
          have hLL : Lf = L2 := by
            rw [← HLF.out, ← HL2E.out, goesTo_front (fr := fr) (show starts D N xs = pre.map (·.1) ++ a :: _ from HAT.out)]
            exact take_full _ _ _ _ (by rw [HL2E.out]; exact HB.out)
          have h8 := H7.out.keeps hset (by rintro o _ ⟨e, rfl⟩; have := H7.out.out; rw [e, HOB7.out] at this; cases this) (by rintro o _ ⟨e, rfl⟩; have := H7.out.top; rw [e, HOB7.out] at this; cases this) (by rintro k o _ (⟨cur, rfl⟩ | ⟨c, fr, rfl⟩) ⟨_, h⟩ <;> cases h)
          refine ⟨(hkWO.mono (fun i o h => .inr (hcc i o h))).trans (hset.mono (fun i o h => .inr (by rw [h.2]; rfl))), rfl, v7, vs7, ?_, by rw [hLL]; exact HB.out, hown7, ?_, ?_⟩
          · rw [hLL]
            refine h8.mono (fun k _ h => ?_)
            rcases h with (h | h) | h
            · exact .inl h.1
            · exact .inr (Nat.le_trans HG4.out.size h.1)
            · exact .inr (Nat.le_trans (Nat.le_trans (Nat.le_trans HG4.out.size HWW.out) HG6.out.size) h)
          · exact (heap_setCell_same _ _ _ _ _ _ HOB7.out).trans rfl
          · exact ((HI.out.keep.mono (fun _ _ h => .inl h)).trans' hkWO (fun i o ho h => .inl (hlw i o h (lt_of_obj ho)))).trans (hset.mono (fun i o h => .inr (by rw [h.1]; have := HGS.out; omega)))
    case done =>
      rintro D' xs' T W hD hS' ⟨v1, L1, vs1, hI⟩ hK'
      have hLL : L1 = Lf := by rw [hI.eq, hS']; exact HLF.out
      have hlt : Lf.length < most := by
        rcases hI.lt with h | h
        · rw [h] at hS'; exact absurd hS'.symm HSN.out
        · rw [← hLL]; exact h
      subst hLL
      have HB1 := hid (show bf = true from HBF.out.symm.trans (decide_eq_true hlt))
      have ob8 := hI.keep.obj _ _ HO4.out (by rintro (⟨_, x, h⟩ | ⟨_, cur, h⟩) <;> cases h)
      have c8 : W.cell? ⟨W2.heap.size, 0, none⟩ = some _ := cell_of_row _ _ _ _ _ _ ob8
      have f8 := frozen_obj ob8 0
      have l8 := lt_of_obj ob8
      have HOB8 := hid ob8
      have HI := hid hI; have HK' := hid hK'
      have hD8 : D' ≠ W2.heap.size := by have := HZ3.out; omega
      clear ob8 hI hS' hK' hlt
      gi_wp2
      refine leaves_marks w.heap.size [D'] _ (fun D2 h => by obtain rfl := List.mem_singleton.1 h; exact ⟨by have := HG4.out.size; omega, (heap_setCell_other _ _ _ _ hD8).trans HK'.out⟩) (by simp) (fun W9 hkk => ⟨_, results_bool rfl rfl (cell_of_row _ _ _ _ _ _ (hkk.obj _ _ ((heap_setCell_same _ _ _ _ _ _ HOB8.out).trans rfl) (fun h => by cases h.2))), by rw [HB1.out], ?_⟩)
      refine took_leave HG4.out HI.out.out (fun k h => ?_) HI.out.keep HI.out.own HOB8.out (by have := HGS.out; omega) hkk
      rcases h with h | h
      · exact .inl h.1
      · exact .inr (Nat.le_trans HG4.out.size h.1)
    case stop =>
      rintro D' c pre W hD ⟨rfl, v1, vs1, h1, h2, h3, h4, h5⟩ hK'
      have HB1 := hid (show bf = false from HBF.out.symm.trans (decide_eq_false h2))
      have H1 := hid h1; have H4 := hid h4; have H5 := hid h5; have HK' := hid hK'; have H3 := hid h3
      clear h1 h4 h5 hK' h3 h2
      gi_wp2
      refine leaves_marks w.heap.size [D'] _ (fun D2 h => by obtain rfl := List.mem_singleton.1 h; exact ⟨by have := HG4.out.size; omega, HK'.out⟩) (by simp) (fun W9 hkk => ⟨_, results_bool rfl rfl (cell_of_row _ _ _ _ _ _ (hkk.obj _ _ H4.out (fun h => by cases h.2))), by rw [HB1.out], ?_⟩)
      exact took_leave2 HG4.out H1.out (fun k h => h) H5.out H3.out hkk
end Go.Proofs.Ytddnpooffcjhnaa
