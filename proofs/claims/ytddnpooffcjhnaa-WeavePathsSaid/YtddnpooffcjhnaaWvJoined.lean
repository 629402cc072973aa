/- Walk of the reference: Joined. Walk: Long. -/
import Derived.Test.YtddnpooffcjhnaaWvGives
namespace Go.Proofs.Ytddnpooffcjhnaa
open Go.RowKit Go.Lin Go.Lin.Wv

set_option maxHeartbeats 8000000 in
set_option maxRecDepth 20000 in
theorem rJoined27_any (v : Value) (L : Lt) (uv wv : Value) (x y : List Int) (w : World) (hv : IsLt w v L) (hx : IsWd w uv x) (hy : IsWd w wv y) :
    Calls Try.prog 27 #[v, uv, wv] w fun e w' => Gives e w w' (joinedM L x y) := by
  have HV := hid hv
  obtain ⟨s, hveq, -⟩ := id hv
  subst hveq
  obtain ⟨ua, uc, rfl⟩ := isWd_slice hx
  obtain ⟨xa, xc, rfl⟩ := isWd_slice hy
  obtain ⟨W0, hW0, g0, k0, k1, hz⟩ := box2 w (.int .i64 L.n) s 24
  have hask := asked_any _ L _ _ x y W0 (hv.grew g0) (hx.grew g0).ints (hy.grew g0).ints
  obtain ⟨m, hm⟩ : ∃ m, x.length = m := ⟨_, rfl⟩
  have HM := hid hm
  obtain ⟨n, hnn⟩ : ∃ n, y.length = n := ⟨_, rfl⟩
  have HNN := hid hnn
  have HXM := hid (show IsWd w (.slice ua m uc) x by rw [← hm]; exact hx)
  have HYM := hid (show IsWd w (.slice xa n xc) y by rw [← hnn]; exact hy)
  obtain ⟨r, hr⟩ : ∃ r, wrong L [x, y] = r := ⟨_, rfl⟩
  rw [hr] at hask
  have HR := hid hr
  rw [hm, hnn] at hask
  have HASK := hid hask
  rw [hm, hnn]
  have hg := grew_refl W0
  obtain ⟨i0, hi0, hi1, hi2, hi3⟩ := info_parts Try.info3
  clear hask hr hx hy hm hnn hv
  by_cases hr0 : r = 0
  · subst hr0
    obtain ⟨hv1, hw1, hw2⟩ := wrong_two HR.out
    obtain ⟨⟨h1, h6⟩, -⟩ := valid_iff hv1
    obtain ⟨N, hN⟩ : ∃ N : Nat, L.n = N := ⟨L.n.toNat, by omega⟩
    have hN6 : N ≤ 6 := by omega
    obtain ⟨hl1, hlw1⟩ := isW_iff hN hw1; obtain ⟨hl2, hlw2⟩ := isW_iff hN hw2
    have HN := hid hN
    have HVN := hid (show IsLt w (.agg #[.int .i64 (N : Int), s]) L by rw [← hN]; exact HV.out)
    rw [hN] at hW0 k0 HASK ⊢
    rw [HM.out] at hl1; rw [HNN.out] at hl2
    clear hN hv1 hw1 hw2 h1 h6
    go_enter Try.func27, Try.ntmps27
    go_wp2_with (first
      | (go_at_call 64; (with_reducible refine HASK.out.mono ?_); rintro e w1 ⟨rfl, hx⟩; replace hg := grew_trans hg hx; have hc := (bcell hg).1; have HG1 := hid (grew_trans g0 hg); clear hx))
    have hseg0 : Seg (w1.drew.alloc (.cells #[] 3)) w1.heap.size 3 1 (.slice (some ⟨w1.heap.size, 0, none⟩) 0 0) 0 [] :=
      ⟨by simp, .inr ⟨w1.heap.size, 0, 0, #[], rfl, Nat.le_refl _, heap_alloc_new w1.drew _, Nat.le_refl _, by unfold maxLen; omega, by simp, by simp⟩⟩
    have HSEG0 := hid hseg0
    have HSRC1 := hid (fun (W : World) (hW : Grew w1 W) => src_ints ((HXM.out.grew HG1.out).grew hW).ints)
    have HSRC2 := hid (fun (W : World) (hW : Grew w1 W) => src_ints ((HYM.out.grew HG1.out).grew hW).ints)
    rw [HM.out] at HSRC1
    rw [HNN.out] at HSRC2
    have q0 := (hg.cell (p := ⟨w.heap.size, 0, none⟩) hz).trans k0
    have q1 := (hg.cell (p := ⟨w.heap.size, 1, none⟩) hz).trans k1
    have qz := Nat.lt_of_lt_of_le hz hg.size
    clear hseg0 hc hg
    go_region_law (first
      | (refine step_append_seg (by rfl) _ _ 25 25 (by rfl) w1.heap.size 3 i0 (.int .i64 0) 1 8 Try.underlying25 hi0 hi1 hi2 hi3 rfl _ 0 [] (by rfl) HSEG0.out _ (by rfl) m _ (HSRC1.out _ (grew_alloc (grew_drew (grew_refl w1)) _)) (by unfold maxLen; omega) (by omega) (by simp) ?_; intro v7 w7 hown7 hgrow7 hblk7; rw [Nat.zero_add, List.nil_append] at hown7; have hg7 : Grew w1 w7 := ((grew_drew (grew_refl w1)).alloc (Nat.le_refl _) _).grown hgrow7 (by simp) (fun k e => by simp [Value.ownBlock] at e; omega); obtain ⟨a7, c7, rfl, _⟩ := hown7.shape; have HOWN7 := hid hown7; have HG7 := hid hg7; have r0 := (hg7.cell (p := ⟨w.heap.size, 0, none⟩) qz).trans q0; have r1 := (hg7.cell (p := ⟨w.heap.size, 1, none⟩) qz).trans q1; have rz := Nat.lt_of_lt_of_le qz hg7.size; clear hown7 hgrow7 hblk7 hg7)
      | (refine step_append_seg (by rfl) _ _ 25 25 (by rfl) w1.heap.size 3 i0 (.int .i64 0) 1 8 Try.underlying25 hi0 hi1 hi2 hi3 rfl _ m _ (by rfl) HOWN7.out _ (by rfl) n _ (HSRC2.out _ HG7.out) (by unfold maxLen; omega) (by omega) HG7.out.size ?_; intro v8 w8 hown8 hgrow8 hblk8; have hg8 : Grew w1 w8 := HG7.out.grown hgrow8 HG7.out.size (fun k e => (HOWN7.out.own k e).1); obtain ⟨a8, c8, rfl, _⟩ := hown8.shape; rw [← List.map_append] at hown8; have HOWN8 := hid hown8; have HG8 := hid hg8; have s0 := (hg8.cell (p := ⟨w.heap.size, 0, none⟩) qz).trans q0; have s1 := (hg8.cell (p := ⟨w.heap.size, 1, none⟩) qz).trans q1; have sz := Nat.lt_of_lt_of_le qz hg8.size; clear hown8 hgrow8 hblk8 hg8)
      | (go_simp; go_at_call 75; refine (show Calls _ _ _ _ _ from limited_any _ L N _ (x ++ y) w8 HN.out hN6 (letters_append hlw1 hlw2) (HVN.out.grew (grew_trans HG1.out HG8.out)) (by have h := HOWN8.out; rw [show m + n = (x ++ y).length by rw [List.length_append, HM.out, HNN.out]] at h ⊢; exact IsWd.of_seg h)).mono ?_; rintro e w9 ⟨u, rfl, hu, hg9⟩; have HU := hid hu; have HG9 := hid hg9; obtain ⟨_, _, rfl⟩ := isWd_slice hu; clear hu hg9))
    all_goals (
      go_wp2
      go_ret2
      have hj : joinedM L x y = formedM (dep L) N (x ++ y) := by unfold joinedM; rw [HR.out, if_pos rfl, HN.out, Int.toNat_natCast]
      refine ⟨_, ?_, by rw [hj]; exact HU.out, grew_trans HG1.out (grew_trans HG8.out HG9.out)⟩
      rw [hj]; rfl)
  · have hne : (r != 0) = true := by simpa using hr0
    have HR0 := hid hr0
    clear hr0
    go_enter Try.func27, Try.ntmps27
    go_wp2_with (go_at_call 64; (with_reducible refine HASK.out.mono ?_); rintro e w1 ⟨rfl, hx⟩; have HG1 := hid (grew_trans g0 hx); clear hx)
    go_ret2
    exact ⟨_, by rw [show (joinedM L x y).2 = r by unfold joinedM; rw [HR.out, if_neg HR0.out]]; rfl, by rw [show (joinedM L x y).1 = [] by unfold joinedM; rw [HR.out, if_neg HR0.out]]; exact wd_nil _, HG1.out⟩

end Go.Proofs.Ytddnpooffcjhnaa
