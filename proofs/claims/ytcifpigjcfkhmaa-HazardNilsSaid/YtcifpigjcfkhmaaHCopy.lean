/- Walk: Copy. -/
import Derived.Test.YtcifpigjcfkhmaaHClone
namespace Go.Proofs.Ytcifpigjcfkhmaa
open Go.RowKit Go.Lin Go.Lin.Hz

theorem Cp.c9 {base : Nat} {wr : World} {B g c : Nat} {Y : Yd} {lv lvj : List Value} {j : Nat} (h : Cp base wr B g c Y lv lvj j) (hst : Y.st.length = 8) : wr.cell? ⟨B, 9, none⟩ = some (.slice (some ⟨g, 0, none⟩) Y.th.length c) := by
  rw [cell_of_row wr B _ _ _ _ h.obj]
  simpa using (yCells_at (Y := Y) (tv := .slice (some ⟨g, 0, none⟩) Y.th.length c) hst).2.2

theorem Cp.cl {base : Nat} {wr : World} {B g c : Nat} {Y : Yd} {lv lvj : List Value} {j : Nat} (h : Cp base wr B g c Y lv lvj j) {i : Nat} (hi : i < Y.th.length) : wr.cell? ⟨g, i * 3 + 2, none⟩ = lvj[i]? ∧ wr.frozen? ⟨g, i * 3 + 2, none⟩ = false := by
  obtain ⟨cur, c1, c2, c3⟩ := h.row
  exact ⟨(thAt_of_row c1 c3 h.len c2).l i hi, frozen_of_row _ _ _ _ _ c1⟩

set_option maxHeartbeats 4000000 in
theorem copy_any (Y : Yd) (hI : Inv Y) (b : Nat) (Fp : List Nat) (w : World) (hy : IsYard w b Y Fp) :
    Calls Try.prog 46 #[.pointer (some ⟨b, 0, none⟩)] w fun e w' => ∃ B Fp', e = .returned (.pointer (some ⟨B, 0, none⟩)) ∧ IsYard w' B Y Fp' ∧ (∀ k ∈ Fp', w.heap.size ≤ k) ∧ Grew w w' := by
  obtain ⟨tb, cap, lv, hA⟩ := YAll.of hy hI.st hI.th.2
  have HA := hid hA
  have hv := hA.run.view
  have hlt := hv.head.lt
  have hg := grew_refl w
  have HN := hid (none_head hI hv.head)
  obtain ⟨x0, x1, x2, x3, x4, x5, x6, x7, hst, k0, k1, k2, k3, k4, k5, k6, k7⟩ := head_eight hv.head hI.st
  have c0 := hv.head.c0
  have c9 := hv.c9
  obtain ⟨cur, r1, r2, r3⟩ := hA.row
  have hone : ∀ v ∈ lv, v.oneCell' = true := by
    intro v hv
    obtain ⟨i, hi, rfl⟩ := List.getElem_of_mem hv
    obtain ⟨v, hv', hs⟩ := hA.list i (by rw [← hA.run.th.len]; exact hi)
    rw [List.getElem?_eq_getElem hi] at hv'
    cases hv'
    obtain ⟨a, c, h1, _⟩ := hs.shape
    rw [h1]; rfl
  have HC := hid (fun (y : World) (hy : Grew w y) => clone74_any Y.th lv tb cap cur y ((hy.block _ (lt_of_obj r1)).trans r1) r3 hA.run.th.len hI.th.1 hI.th.2 hone)
  have HST := hid hst
  obtain ⟨n, hn⟩ : ∃ n, Y.th.length = n := ⟨_, rfl⟩
  obtain ⟨sz, hsz⟩ : ∃ sz, Y.size = sz := ⟨_, rfl⟩
  rw [hn] at c9 HC
  rw [hsz] at c0
  have HSZ := hid hsz
  have HN' := hid hn
  have hn4 : n ≤ 4 := by have := hI.th.2; omega
  clear hn hsz hst r1 r2 r3 hone hv hA hy
  go_enter Try.func46, Try.ntmps46
  go_wp2_with (first
    | (go_at_call 56; with_reducible refine (HN.out _ hg).mono ?_; rintro e w1 ⟨rfl, hx⟩; replace hg := grew_trans hg hx; have hc := (bcell hg).1;
       obtain ⟨W3, hW3⟩ : ∃ W3, w1.alloc (.cells #[.int .i64 sz, .int .i64 x0, .int .i64 x1, .int .i64 x2, .int .i64 x3, .int .i64 x4, .int .i64 x5, .int .i64 x6, .int .i64 x7, .slice (some ⟨tb, 0, none⟩) n cap] 66) = W3 := ⟨_, rfl⟩;
       have g3 : Grew w W3 := (by rw [← hW3]; exact grew_alloc hg _);
       have hc3 := (bcell g3).1;
       have HO3 := hid (show W3.heap[w1.heap.size]? = some (.cells #[.int .i64 sz, .int .i64 x0, .int .i64 x1, .int .i64 x2, .int .i64 x3, .int .i64 x4, .int .i64 x5, .int .i64 x6, .int .i64 x7, .slice (some ⟨tb, 0, none⟩) n cap] 66 (0, 0)) from (by rw [← hW3]; exact heap_alloc_new w1 _));
       have hsz1 := hg.size)
    | (go_at_call 74; with_reducible refine (HC.out _ g3).mono ?_;
       go_loud (rintro e w4 ⟨g, c, cur', rfl, hgl, ho4, hcn, hcm, hcs, htk, hg4⟩
                have hB4 := (hg4.block _ (lt_of_obj HO3.out)).trans HO3.out
                have hfr := frozen_of_row _ _ 9 _ _ hB4
                have hce := cell_of_row w4 _ 9 _ _ _ hB4
                simp only [List.getElem?_toArray, List.getElem?_cons_succ, List.getElem?_cons_zero] at hce
                have HGL := hid (show w1.heap.size < g from Nat.lt_of_lt_of_le (lt_of_obj HO3.out) hgl)
                obtain ⟨W5, hW5⟩ : ∃ W5, w4.setCell ⟨w1.heap.size, 9, none⟩ (.slice (some ⟨g, 0, none⟩) n c) = W5 := ⟨_, rfl⟩
                have g5 : Grew w W5 := by rw [← hW5]; exact (grew_trans g3 hg4).setCell hsz1 _
                have HO5 := hid (show W5.heap[w1.heap.size]? = some (.cells (yCells Y (.slice (some ⟨g, 0, none⟩) Y.th.length c)).toArray 66 (0, 0)) by
                  rw [← hW5, heap_setCell_same _ _ _ _ _ _ hB4]
                  simp [yCells, HST.out, HSZ.out, HN'.out])
                have HR5 := hid (show W5.heap[g]? = some (.cells cur' 81 (0, 0)) by
                  rw [← hW5, heap_setCell_other _ _ _ _ (by have := HGL.out; simp; omega)]; exact ho4)
                have hcp : Cp w.heap.size W5 w1.heap.size g c Y lv lv 0 := ⟨HO5.out, ⟨cur', HR5.out, hcs, by rw [HN'.out]; exact htk⟩, HA.out.run.th.len, fun _ _ => rfl, fun i hi => absurd hi (Nat.not_lt_zero _), by simp, by simp, (by have := HGL.out; omega), ⟨hsz1, by have := HGL.out; omega⟩, ⟨by rw [HN'.out]; exact hcn, hcm⟩⟩
                have d9 := hcp.c9 hI.st
                rw [HN'.out] at d9
                have HCP := hid hcp
                have HG5 := hid g5
                have hsz5 : w.heap.size ≤ W5.heap.size := g5.size
                clear hB4 ho4 htk hcp)))
  obtain ⟨B, hB⟩ : ∃ B, w1.heap.size = B := ⟨_, rfl⟩
  rw [hB] at HCP d9 ⊢
  have HHB := hid hsz1
  clear hW3 hW5 hc3 hc g3 hg hx hg4 hsz1 hB
  go_loopg [4, 5, 20] n (fun k _ _ i wr => ∃ (j : Nat) (lvj : List Value), j ≤ n ∧ i = .int .i64 j ∧ k = n - j ∧ Hid (Cp w.heap.size wr B g c Y lv lvj j) ∧ Grew w wr)
  case atStart => exact ⟨0, lv, by omega, rfl, rfl, HCP, HG5.out⟩
  case round =>
    obtain ⟨j, lvj, hj, rfl, hk, HC3, hgr⟩ := hrel
    have HK := hid hk; clear hk
    clear d9
    have d9 := HC3.out.c9 hI.st
    rw [HN'.out] at d9
    by_cases hlt3 : j < n
    · obtain ⟨v, hv1, hv2⟩ := HA.out.list j (by rw [HN'.out]; exact hlt3)
      have hcl := (HC3.out.cl (i := j) (by rw [HN'.out]; exact hlt3)).1
      have hfz := (HC3.out.cl (i := j) (by rw [HN'.out]; exact hlt3)).2
      rw [HC3.out.old j (Nat.le_refl _), hv1] at hcl
      rename World => wr
      obtain ⟨l, hl⟩ : ∃ l, (Y.th.getD j noTh).l = l := ⟨_, rfl⟩
      rw [hl] at hv2
      have hl8 : l.length ≤ 8 := by
        have := list_le hI (t := (j : Int)) (isT_iff.2 (by rw [HN'.out]; omega))
        rw [show thAt Y (j : Int) = Y.th.getD j noTh from rfl, hl] at this; exact this
      have H64 := hid (clone64_any v l wr (by omega) (hv2.reads.any.grew hgr))
      obtain ⟨n1, hn1⟩ : ∃ n, l.length = n := ⟨_, rfl⟩
      rw [hn1] at H64 hl8
      have HL := hid hl
      have HN1 := hid hn1
      have hgl : g < wr.heap.size := by obtain ⟨cu, hcu, _⟩ := HC3.out.row; exact lt_of_obj hcu
      have hBl : B < wr.heap.size := lt_of_obj HC3.out.obj
      have HGR := hid hgr
      have hwr : w.heap.size ≤ wr.heap.size := hgr.size
      have HBG := hid HC3.out.lo.2
      clear hl hn1 hv1 hv2
      go_wp2_with (go_at_call 64; with_reducible refine H64.out.mono ?_; rintro e w6 ⟨u, rfl, hs6, hx6⟩; obtain ⟨ua, uc, rfl, -⟩ := hs6.shape; have HS6 := hid hs6; have HX6 := hid hx6; have hfz6 := (hx6.frozen (p := ⟨g, j * 3 + 2, none⟩) hgl).trans hfz; have hcl6 := (hx6.cell (p := ⟨g, j * 3 + 2, none⟩) hgl).trans hcl; clear hs6 hx6)
      obtain ⟨hs7, hf7⟩ := Lst.of_seg (l := l) (by rw [HN1.out]; exact HS6.out)
      have hC7 := Cp.step HC3.out (by rw [HN'.out]; exact hlt3) hwr HX6.out (by rw [HL.out]; exact hs7) hf7
      have HC7 := hid hC7
      clear hs7 hf7 hC7
      go_roundg (n - (j + 1))
      case measure => have := HK.out; omega
      case rel => exact ⟨j + 1, _, by omega, by go_num, rfl, HC7, (grew_trans HGR.out HX6.out).setCell HBG.out _⟩
    · obtain rfl : j = n := by omega
      go_wp2
      go_ret
      obtain ⟨Fp', h1, h2⟩ := (show Cp w.heap.size _ B g c Y lv lvj Y.th.length by rw [HN'.out]; exact HC3.out).done
      exact ⟨B, Fp', rfl, h1, h2, hgr⟩

end Go.Proofs.Ytcifpigjcfkhmaa
