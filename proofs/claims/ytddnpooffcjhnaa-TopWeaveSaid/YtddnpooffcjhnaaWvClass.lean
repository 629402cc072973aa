/- Class, of the program (18). -/
import Derived.Test.YtddnpooffcjhnaaWvWords
import Derived.Test.YtddnpooffcjhnaaWvG
namespace Go.Lin.Wv
def classA (L : Lt) (x : List Int) (most : Int) : List (List Int) × Int :=
  if wrong L [x] = 0 then (if 0 ≤ most ∧ most ≤ 1000 then ((classM (dep L) L.n.toNat x).take most.toNat, 0) else ([], 2)) else ([], wrong L [x])
end Go.Lin.Wv
namespace Go.Proofs.Ytddnpooffcjhnaa
open Go.RowKit Go.Lin Go.Lin.Wv

set_option maxHeartbeats 4000000 in
set_option maxRecDepth 20000 in
theorem class18_any (v : Value) (L : Lt) (uv : Value) (x : List Int) (most : Int) (w : World) (hn : L.n ≤ 9223372036854775807) (hv : IsLt w v L) (hx : IsWd w uv x) :
    Calls Try.prog 18 #[v, uv, .int .i64 most] w fun e w' => GivesL e w w' (classA L x most) := by
  have HV := hid hv
  obtain ⟨s, rfl, -⟩ := hv
  obtain ⟨ua, uc, rfl⟩ := isWd_slice hx
  obtain ⟨W0, hW0, g0, k0, k1, hz⟩ := box2 w (.int .i64 L.n) s 24
  obtain ⟨W1, hW1, g1, k2, hz1⟩ := box1 W0 (.int .i64 most) 3
  obtain ⟨W2, hW2⟩ : ∃ W2, W1.alloc (.cells #[.slice ua x.length uc] 25) = W2 := ⟨_, rfl⟩
  have o1 : W1.heap[W0.heap.size]? = some (.cells #[.int .i64 most] 3 (0, 0)) := by rw [← hW1]; exact heap_alloc_new W0 _
  have g2 : Grew W1 W2 := by rw [← hW2]; exact grew_alloc (grew_refl _) _
  have g02 := grew_trans g0 (grew_trans g1 g2)
  have q0 := (g1.cell (p := ⟨w.heap.size, 0, none⟩) hz).trans k0
  have q1 := (g1.cell (p := ⟨w.heap.size, 1, none⟩) hz).trans k1
  have hzz := Nat.lt_of_lt_of_le hz g1.size
  obtain ⟨m, hm⟩ : ∃ m, x.length = m := ⟨_, rfl⟩
  have HM := hid hm
  have HXM := hid (show IsWd w (.slice ua m uc) x by rw [← hm]; exact hx)
  obtain ⟨r, hr⟩ : ∃ r, wrong L [x] = r := ⟨_, rfl⟩
  have HR := hid hr
  have HG02 := hid g02
  have HO1 := hid ((g2.block _ (lt_of_obj o1)).trans o1)
  have HWS := hid (g0.size)
  have HS2 := hid g2.size
  by_cases hr0 : r = 0
  · subst hr0
    obtain ⟨hv1, hw1⟩ := wrong_one hr
    have hok := newLoom_ok _ L _ [x] W2 hn (HV.out.grew g02) (by rw [← hW2]; exact rows_one (Reads.grew hx.ints (grew_trans g0 g1)) 25) hr
    have HOK := hid hok
    have HW1 := hid hw1
    rw [hm] at hW2 ⊢
    by_cases hmost : 0 ≤ most ∧ most ≤ 1000
    · obtain ⟨t, rfl⟩ : ∃ t : Nat, most = t := ⟨most.toNat, by omega⟩
      have ht : t ≤ 1000 := by omega
      have hca : classA L x t = ((classM (dep L) L.n.toNat x).take t, 0) := by unfold classA; rw [hr, if_pos rfl, if_pos hmost, Int.toNat_natCast]
      rw [hca]
      have hb := fun W => between_any 0 t 1000 W
      rw [show (decide ((0 : Int) ≤ (t : Int)) && decide ((t : Int) ≤ 1000)) = true by simp; omega] at hb
      have HB := hid hb
      clear hr hx hm hok hv1 hw1 hca hb hmost o1 g2 g02 g0 g1
      go_enter Try.func18, Try.ntmps18
      go_wp2_with (first
        | (go_at_call 60; (with_reducible refine HOK.out.mono ?_); rintro e w1 ⟨B, N, hN, hN1, hN6, rfl, hB, hL, hg1⟩; have HL := hid hL; have HN := hid hN; have HG1 := hid (grew_trans HG02.out hg1); have HGL := hid hg1; have c2 := (hg1.cell (p := ⟨W0.heap.size, 0, none⟩) (lt_of_obj HO1.out)).trans (cell_of_row _ _ _ _ _ _ HO1.out); have hz2 := Nat.lt_of_lt_of_le (lt_of_obj HO1.out) hg1.size; clear hN hL hg1 hB)
        | (go_at_call 61; (with_reducible refine (HB.out _).mono ?_); rintro e w2 ⟨rfl, hg2⟩; have HG2 := hid hg2; obtain ⟨W3, hW3⟩ : ∃ W3, w2.alloc (.cells #[.slice none 0 0] 28) = W3 := ⟨_, rfl⟩; clear hg2))
      have hg3 : Grew w2 W3 := by rw [← hW3]; exact grew_alloc (grew_refl _) _
      have oc : W3.heap[w2.heap.size]? = some (.cells #[.slice none 0 0] 28 (0, 0)) := by rw [← hW3]; exact heap_alloc_new w2 _
      have hg23 := grew_trans HGL.out (grew_trans HG2.out hg3)
      have om := (hg23.block _ (lt_of_obj HO1.out)).trans HO1.out
      have hO : OutAt (fun k => W3.heap.size ≤ k) w2.heap.size W0.heap.size t W3 (.slice none 0 0) [] [] := ⟨oc, om, rfl, Seg.nil _ _ _ _, fun i hi => by simp at hi, fun k e => by simp [Value.ownBlock] at e, Nat.zero_le _⟩
      obtain ⟨hl1, hlw1⟩ := isW_iff HN.out HW1.out
      have hB1 := HL.out.lt
      have hs23 := HG2.out.size
      have hs3 := hg3.size
      have hco : W0.heap.size < w2.heap.size := by omega
      have hw3 := (grew_trans HG1.out (grew_trans HG2.out hg3))
      have hwz := HG1.out.size
      have hwd := words_any (dep L) B N w2.heap.size W0.heap.size t hN6 ht (by omega) (by omega) m x [] (.slice ua m uc) (.slice none 0 0) W3 (fun k => W3.heap.size ≤ k) (.slice none 0 0) [] [] HM.out (by rw [← HM.out]; simpa using hl1) hlw1 (HL.out.grew (grew_trans HG2.out hg3)) (by omega)
        (WdOff.grew (HXM.out.off.re (fun i o ho _ => .inr (by have := lt_of_obj ho; omega))) hw3) ⟨⟨none, 0, rfl, Nat.le_refl _⟩, Reads.nil _ _ _ _ _⟩ hO
      rw [show (([] : List (List Int)) ++ (classM (dep L) N x).map (([] : List Int) ++ ·)).take t = (classM (dep L) N x).take t by simp] at hwd
      have HWD := hid hwd
      have HW3 := hid hw3
      clear hwd hO om oc hl1 hlw1 hg3 hg23 hw3
      go_wp2_with (go_at_call 62; (with_reducible refine HWD.out.mono ?_); rintro e w4 ⟨rfl, v4, vs4, h4, hk4, ho4⟩; have c4 : w4.cell? ⟨w2.heap.size, 0, none⟩ = some _ := cell_of_row _ _ _ _ _ _ h4.out; have l4 := lt_of_obj h4.out; have HLS := hid h4.ls; have HK4 := hid hk4; clear h4 hk4 ho4)
      go_ret2
      refine ⟨v4, rfl, by rw [HN.out, Int.toNat_natCast]; exact HLS.out, HW3.out.trans (HK4.out.below HW3.out.size (fun k o h => ?_))⟩
      rcases h with ⟨rfl, _⟩ | ⟨h, _⟩
      · omega
      · simp [Value.ownBlock] at h
    · have hca : classA L x most = ([], 2) := by unfold classA; rw [hr, if_pos rfl, if_neg hmost]
      rw [hca]
      have hb := fun W => between_any 0 most 1000 W
      rw [show (decide ((0 : Int) ≤ most) && decide (most ≤ 1000)) = false by simp; omega] at hb
      have HB := hid hb
      clear hr hx hm hok hv1 hw1 hca hb hmost o1 g2 g02 g0 g1
      go_enter Try.func18, Try.ntmps18
      go_wp2_with (first
        | (go_at_call 60; (with_reducible refine HOK.out.mono ?_); rintro e w1 ⟨B, N, hN, hN1, hN6, rfl, hB, hL, hg1⟩; have HG1 := hid (grew_trans HG02.out hg1); have c2 := (hg1.cell (p := ⟨W0.heap.size, 0, none⟩) (lt_of_obj HO1.out)).trans (cell_of_row _ _ _ _ _ _ HO1.out); have hz2 := Nat.lt_of_lt_of_le (lt_of_obj HO1.out) hg1.size; clear hN hL hg1 hB)
        | (go_at_call 61; (with_reducible refine (HB.out _).mono ?_); rintro e w2 ⟨rfl, hg2⟩; have HG2 := hid hg2; clear hg2))
      go_ret2
      exact ⟨_, rfl, ls_nil _, grew_trans HG1.out HG2.out⟩
  · have hca : classA L x most = ([], r) := by unfold classA; rw [hr, if_neg hr0]
    rw [hca]
    have hbad := newLoom_bad _ L _ [x] W2 hn (HV.out.grew g02) (by rw [← hW2]; exact rows_one (Reads.grew hx.ints (grew_trans g0 g1)) 25) (by rw [hr]; exact hr0)
    rw [hr] at hbad
    have hne : (r != 0) = true := by simpa using hr0
    have HB := hid hbad
    rw [hm] at hW2 ⊢
    clear hr hx hm hbad hr0 hca o1 g2 g02 g0 g1
    go_enter Try.func18, Try.ntmps18
    go_wp2_with (go_at_call 60; (with_reducible refine HB.out.mono ?_); rintro e w1 ⟨rfl, hg1⟩; have HG1 := hid (grew_trans HG02.out hg1); clear hg1)
    go_ret2
    exact ⟨_, rfl, ls_nil _, HG1.out⟩
end Go.Proofs.Ytddnpooffcjhnaa
