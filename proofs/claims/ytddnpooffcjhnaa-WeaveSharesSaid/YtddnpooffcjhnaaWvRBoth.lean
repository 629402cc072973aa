/- Walk of the reference: Both. -/
import Derived.Test.YtddnpooffcjhnaaWvBoth
namespace Go.Proofs.Ytddnpooffcjhnaa
open Go.RowKit Go.Lin Go.Lin.Wv

set_option maxHeartbeats 8000000 in
set_option maxRecDepth 20000 in
theorem rBoth25_any (v : Value) (L : Lt) (uv wv : Value) (x y : List Int) (w : World) (hv : IsLt w v L) (hx : IsWd w uv x) (hy : IsWd w wv y) :
    Calls Try.prog 25 #[v, uv, wv] w fun e w' => Gives e w w' (bothM L x y) := by
  have HV := hid hv
  obtain ⟨s, hveq, -⟩ := id hv
  subst hveq
  obtain ⟨ua, uc, rfl⟩ := isWd_slice hx
  obtain ⟨xa, xc, rfl⟩ := isWd_slice hy
  obtain ⟨W0, hW0, g0, k0, k1, hz⟩ := box2 w (.int .i64 L.n) s 24
  have hask := asked_any _ L _ _ x y W0 (hv.grew g0) (hx.grew g0).ints (hy.grew g0).ints
  obtain ⟨m, hm⟩ : ∃ m, x.length = m := ⟨_, rfl⟩
  have HM := hid hm
  obtain ⟨n, hnn⟩ : ∃ n, y.length = n := ⟨_, rfl⟩
  have HNN := hid hnn
  have HXM := hid (show IsWd w (.slice ua m uc) x by rw [← hm]; exact hx)
  have HYM := hid (show IsWd w (.slice xa n xc) y by rw [← hnn]; exact hy)
  obtain ⟨r, hr⟩ : ∃ r, wrong L [x, y] = r := ⟨_, rfl⟩
  rw [hr] at hask
  have HR := hid hr
  rw [hm, hnn] at hask
  have HASK := hid hask
  rw [hm, hnn]
  have hg := grew_refl W0
  obtain ⟨i0, hi0, hi1, hi2, hi3⟩ := info_parts Try.info3
  clear hask hr hx hy hm hnn hv
  by_cases hr0 : r = 0
  · subst hr0
    obtain ⟨hv1, hw1, hw2⟩ := wrong_two HR.out
    obtain ⟨⟨h1, h6⟩, -⟩ := valid_iff hv1
    obtain ⟨N, hN⟩ : ∃ N : Nat, L.n = N := ⟨L.n.toNat, by omega⟩
    have hN6 : N ≤ 6 := by omega
    obtain ⟨hl1, hlw1⟩ := isW_iff hN hw1; obtain ⟨hl2, hlw2⟩ := isW_iff hN hw2
    have HN := hid hN
    have HVN := hid (show IsLt w (.agg #[.int .i64 (N : Int), s]) L by rw [← hN]; exact HV.out)
    have HCG := hid (common_good (L := L) ⟨hl1, hlw1⟩ ⟨hl2, hlw2⟩)
    have HL1 := hid hl1; have HL2 := hid hl2
    have hbm : bothM L x y = if clash (dep L) (common (dep L) N x y).2.1 (common (dep L) N x y).2.2 then ([], 5) else formedM (dep L) N ((common (dep L) N x y).1 ++ (common (dep L) N x y).2.1 ++ (common (dep L) N x y).2.2) := by
      unfold bothM; rw [HR.out, if_pos rfl, hN]; rfl
    have HBM := hid hbm
    rw [hN] at hW0 k0 HASK ⊢
    clear hN hv1 hw1 hw2 h1 h6 hbm hl1 hl2
    go_enter Try.func25, Try.ntmps25
    go_wp2_with (first
      | (go_at_call 64; (with_reducible refine HASK.out.mono ?_); rintro e w1 ⟨rfl, hx⟩; replace hg := grew_trans hg hx; have hc := (bcell hg).1; have HG1 := hid (grew_trans g0 hg); have hg1s := hid hg.size; clear hx)
      | (go_at_call 68; (with_reducible refine (rCommon_any _ L N _ _ x y w1 HN.out hN6 hlw1 (by have := HL1.out; omega) (by have := HL2.out; omega) (HVN.out.grew HG1.out) (HXM.out.grew HG1.out) (HYM.out.grew HG1.out)).mono ?_); go_loud (
          rintro e w2 ⟨bv, pv, qv, rfl, hbv, hpv, hqv, hg2⟩
          obtain ⟨ba, bc, rfl, _⟩ := hbv.shape
          obtain ⟨⟨pa, pc, rfl, _⟩, _⟩ := id hpv
          obtain ⟨⟨qa, qc, rfl, _⟩, _⟩ := id hqv
          have HBV := hid hbv; have HPV := hid hpv; have HQV := hid hqv; have HG2 := hid hg2
          replace hg := grew_trans hg hg2
          have q0 := (hg.cell (p := ⟨w.heap.size, 0, none⟩) hz).trans k0
          have q1 := (hg.cell (p := ⟨w.heap.size, 1, none⟩) hz).trans k1
          have qz := Nat.lt_of_lt_of_le hz hg.size
          clear hbv hpv hqv hg2 hc hg)))
    obtain ⟨⟨b, p, q⟩, hcm⟩ : ∃ C, common (dep L) N x y = C := ⟨_, rfl⟩
    rw [hcm] at HBV HPV HQV HCG HBM ⊢
    simp only at HBV HPV HQV HCG HBM ⊢
    obtain ⟨np, hnp⟩ : ∃ n, p.length = n := ⟨_, rfl⟩
    obtain ⟨nq, hnq⟩ : ∃ n, q.length = n := ⟨_, rfl⟩
    obtain ⟨nb, hnb⟩ : ∃ n, b.length = n := ⟨_, rfl⟩
    have HNP := hid hnp; have HNQ := hid hnq; have HNB := hid hnb
    have hp10 := HCG.out.2.1.len; have hq10 := HCG.out.2.2.len; have hb10 := HCG.out.1.len
    rw [hnp] at hp10; rw [hnq] at hq10; rw [hnb] at hb10
    rw [hnp] at HPV ⊢; rw [hnq] at HQV ⊢; rw [hnb] at HBV HPV HQV ⊢
    clear hcm hnp hnq hnb
    go_loopg [13, 15, 33] np (fun k _ _ i wr => ∃ j : Nat, j ≤ np ∧ i = .int .i64 j ∧ k = np - j ∧ Hid (clash (dep L) (p.take j) q = false) ∧ Hid (Grew w2 wr))
    case atStart => exact ⟨0, by omega, rfl, rfl, hid rfl, hid (grew_refl _)⟩
    case round =>
      obtain ⟨j, hj, rfl, hk, HCL, HG⟩ := hrel
      have HK := hid hk; clear hk
      rename World => wr
      have r0 := (HG.out.cell (p := ⟨w.heap.size, 0, none⟩) qz).trans q0
      have r1 := (HG.out.cell (p := ⟨w.heap.size, 1, none⟩) qz).trans q1
      have rz := Nat.lt_of_lt_of_le qz HG.out.size
      by_cases hlt : j < np
      · have hjp : j < p.length := by rw [HNP.out]; exact hlt
        obtain ⟨pb, pof, rfl, hpl, hpc0⟩ := ints_at HPV.out.wd.ints hjp
        have hcs := clash_succ (D := dep L) (q := q) hjp
        obtain ⟨a, ha⟩ : ∃ a, nth p j = a := ⟨_, rfl⟩
        rw [ha] at hpc0 hcs
        rw [HCL.out, Bool.false_or] at hcs
        have hpcr := (HG.out.cell (p := ⟨pb, pof + j, none⟩) hpl).trans hpc0
        have hplr := Nat.lt_of_lt_of_le hpl HG.out.size
        have HCS := hid hcs
        clear hcs ha hpc0
        go_wp2
        go_loopg [15, 39] nq (fun k2 _ i wr2 => ∃ t : Nat, t ≤ nq ∧ i = .int .i64 t ∧ Hid (k2 = nq - t) ∧ Hid ((q.take t).any (dep L a) = false) ∧ Hid (Grew wr wr2))
        case atStart => exact ⟨0, by omega, rfl, hid rfl, hid rfl, hid (grew_refl _)⟩
        case round =>
          obtain ⟨t, ht, rfl, HK2, HQA, HG3⟩ := hrel
          rename World => wr2
          have s0 := (HG3.out.cell (p := ⟨w.heap.size, 0, none⟩) rz).trans r0
          have s1 := (HG3.out.cell (p := ⟨w.heap.size, 1, none⟩) rz).trans r1
          have sz := Nat.lt_of_lt_of_le rz HG3.out.size
          by_cases hlt2 : t < nq
          · have htq : t < q.length := by rw [HNQ.out]; exact hlt2
            obtain ⟨qb, qof, rfl, hql, hqc0⟩ := ints_at HQV.out.wd.ints htq
            have htk := take_succ_nth htq
            have hmem : nth q t ∈ q := by rw [nth_lt htq]; exact List.getElem_mem _
            obtain ⟨c, hc⟩ : ∃ c, nth q t = c := ⟨_, rfl⟩
            rw [hc] at hqc0 htk hmem
            have g23 := grew_trans HG.out HG3.out
            have hqcr := (g23.cell (p := ⟨qb, qof + t, none⟩) hql).trans hqc0
            have hqlr := Nat.lt_of_lt_of_le hql g23.size
            have hdp := depend_any _ L a c wr2 (HVN.out.grew (grew_trans HG1.out (grew_trans HG2.out g23)))
            obtain ⟨d, hd⟩ : ∃ d, dep L a c = d := ⟨_, rfl⟩
            rw [hd] at hdp
            have HDP := hid hdp; have HD := hid hd; have HTK := hid htk; have HMEM := hid hmem
            clear hdp hd htk hmem hc hqc0 g23
            cases d
            · go_wp2_with (go_at_call 74; (with_reducible refine HDP.out.mono ?_); rintro e w5 ⟨rfl, hx5⟩; have HX5 := hid hx5; clear hx5)
              go_roundg (nq - (t + 1))
              case measure => have := HK2.out; omega
              case rel => exact ⟨t + 1, by omega, by go_num, hid rfl, hid (by rw [HTK.out, List.any_append, HQA.out]; simp [HD.out]), hid (grew_trans HG3.out HX5.out)⟩
            · have hcl : clash (dep L) p q = true := by
                have h2 : q.any (dep L a) = true := List.any_eq_true.2 ⟨c, HMEM.out, HD.out⟩
                have h1 := HCS.out
                rw [h2] at h1
                unfold clash at h1 ⊢
                rw [List.any_eq_true] at h1 ⊢
                obtain ⟨z, hz1, hz2⟩ := h1
                exact ⟨z, List.mem_of_mem_take hz1, hz2⟩
              have hbe : bothM L x y = ([], 5) := by rw [HBM.out, if_pos hcl]
              have HBE := hid hbe
              clear hcl hbe
              go_wp2_with (go_at_call 74; (with_reducible refine HDP.out.mono ?_); rintro e w5 ⟨rfl, hx5⟩; have HX5 := hid hx5; clear hx5)
              go_ret2
              refine ⟨.slice none 0 0, by rw [HBE.out]; rfl, by rw [HBE.out]; exact wd_nil _, grew_trans HG1.out (grew_trans HG2.out (grew_trans HG.out (grew_trans HG3.out HX5.out)))⟩
          · obtain rfl : nq = t := by omega
            have hqa := HQA.out
            rw [List.take_of_length_le (by rw [HNQ.out]; exact Nat.le_refl _)] at hqa
            have HQA2 := hid hqa
            clear hqa
            go_wp2
            go_roundg (np - (j + 1))
            case measure => have := HK.out; omega
            case rel => exact ⟨j + 1, by omega, by go_num, rfl, hid (by rw [HCS.out]; exact HQA2.out), hid (grew_trans HG.out HG3.out)⟩
      · obtain rfl : np = j := by omega
        have hcl := HCL.out
        rw [List.take_of_length_le (by rw [HNP.out]; exact Nat.le_refl _)] at hcl
        have hbe : bothM L x y = formedM (dep L) N (b ++ p ++ q) := by rw [HBM.out, hcl]; rfl
        have HBE := hid hbe
        have HG0 := hid (grew_trans HG1.out (grew_trans HG2.out HG.out))
        have HBR := hid (HBV.out.grew HG.out); have HPR := hid (HPV.out.grew HG.out); have HQR := hid (HQV.out.grew HG.out)
        have HSRC1 := hid (src_ints (w := wr.drew) (HPV.out.grew (grew_trans HG.out (grew_drew (grew_refl wr)))).wd.ints)
        rw [HNP.out] at HSRC1
        have hwl : w.heap.size ≤ w1.heap.size := HG1.out.size
        clear hcl hbe
        have HBD := hid (HBV.out.grew (grew_trans HG.out (grew_drew (grew_refl wr))))
        have hw1r : w1.heap.size ≤ wr.drew.heap.size := by have := HG2.out.size; have := HG.out.size; show _ ≤ wr.heap.size; omega
        have hww1 : w.heap.size < w1.heap.size := by have := HG1.out.size; have := lt_of_obj (show W0.heap[w.heap.size]? = _ from by rw [← hW0]; exact heap_alloc_new w _); have := hg1s.out; omega
        go_wp2
        go_region_law (first
          | ((refine step_append_seg (by rfl) _ _ 25 25 (by rfl) w1.heap.size 3 i0 (.int .i64 0) 1 8 Try.underlying25 hi0 hi1 hi2 hi3 rfl _ nb _ (by rfl) HBD.out _ (by rfl) np _ HSRC1.out (by unfold maxLen; omega) (by omega) hw1r ?_); go_loud (
              intro v7 w7 hown7 hgrow7 hblk7
              have hk7 : Keeps (fun k _ => (Value.slice ba nb bc).ownBlock = some k) wr w7 := ((Keeps.refl _ wr).drew).trans (keeps_of_grown hgrow7)
              have hb7 : Grew w w7 := HG0.out.trans (hk7.below HG0.out.size (fun k o e => by have := (HBR.out.own k e).1; omega))
              obtain ⟨a7, c7, rfl, _⟩ := hown7.shape
              have hq7 := src_ints (HQR.out.keeps hk7 (fun k o h e => h e)).wd.ints
              rw [HNQ.out] at hq7
              have HOWN7 := hid hown7; have HB7 := hid hb7; have HSRC2 := hid hq7
              have t0 := cell_keeps hk7 (fun x _ e => by have := (HBR.out.own _ e).1; omega) r0
              have t1 := cell_keeps hk7 (fun x _ e => by have := (HBR.out.own _ e).1; omega) r1
              have tz := Nat.lt_of_lt_of_le rz hk7.size
              have hw17 : w1.heap.size ≤ w7.heap.size := Nat.le_trans hw1r hk7.size
              clear hown7 hgrow7 hblk7 hk7 hb7 hq7))
          | ((refine step_append_seg (by rfl) _ _ 25 25 (by rfl) w1.heap.size 3 i0 (.int .i64 0) 1 8 Try.underlying25 hi0 hi1 hi2 hi3 rfl _ (nb + np) _ (by rfl) HOWN7.out _ (by rfl) nq _ HSRC2.out (by unfold maxLen; omega) (by omega) hw17 ?_); go_loud (
              intro v8 w8 hown8 hgrow8 hblk8
              have hk8 : Keeps (fun k _ => (Value.slice a7 (nb + np) c7).ownBlock = some k) w7 w8 := keeps_of_grown hgrow8
              have hb8 : Grew w w8 := HB7.out.trans (hk8.below HB7.out.size (fun k o e => by have := (HOWN7.out.own k e).1; omega))
              obtain ⟨a8, c8, rfl, _⟩ := hown8.shape
              rw [← List.map_append, ← List.map_append] at hown8
              have HOWN8 := hid hown8; have HB8 := hid hb8
              have u0 := cell_keeps hk8 (fun x _ e => by have := (HOWN7.out.own _ e).1; omega) t0
              have u1 := cell_keeps hk8 (fun x _ e => by have := (HOWN7.out.own _ e).1; omega) t1
              have uz := Nat.lt_of_lt_of_le tz hk8.size
              clear hown8 hgrow8 hblk8 hk8 hb8))
          | (go_simp; go_at_call 75; (with_reducible refine (limited_any _ L N _ (b ++ p ++ q) w8 HN.out hN6 (letters_append (letters_append HCG.out.1.ok HCG.out.2.1.ok) HCG.out.2.2.ok) (HVN.out.grew HB8.out) (by have h := HOWN8.out; rw [show nb + np + nq = (b ++ p ++ q).length by rw [List.length_append, List.length_append, HNB.out, HNP.out, HNQ.out]] at h ⊢; exact IsWd.of_seg h)).mono ?_); rintro e w9 ⟨uz', rfl, hu, hg9⟩; have HU := hid hu; have HG9 := hid hg9; obtain ⟨_, _, rfl⟩ := isWd_slice hu; clear hu hg9))
        all_goals (
          go_wp2
          go_ret2
          refine ⟨_, ?_, by rw [HBE.out]; exact HU.out, grew_trans HB8.out HG9.out⟩
          rw [HBE.out, List.append_assoc]; rfl)
  · have hne : (r != 0) = true := by simpa using hr0
    have HR0 := hid hr0
    clear hr0
    go_enter Try.func25, Try.ntmps25
    go_wp2_with (go_at_call 64; (with_reducible refine HASK.out.mono ?_); rintro e w1 ⟨rfl, hx⟩; have HG1 := hid (grew_trans g0 hx); clear hx)
    go_ret2
    exact ⟨_, by rw [show (bothM L x y).2 = r by unfold bothM; rw [HR.out, if_neg HR0.out]]; rfl, by rw [show (bothM L x y).1 = [] by unfold bothM; rw [HR.out, if_neg HR0.out]]; exact wd_nil _, HG1.out⟩

end Go.Proofs.Ytddnpooffcjhnaa
