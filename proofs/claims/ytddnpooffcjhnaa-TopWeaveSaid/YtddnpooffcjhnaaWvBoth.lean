/- Walk: Both, of the program. -/
import Derived.Test.YtddnpooffcjhnaaWvSh
import Derived.Test.YtddnpooffcjhnaaWvJ
namespace Go.Proofs.Ytddnpooffcjhnaa
open Go.RowKit Go.Lin Go.Lin.Wv

theorem ints_at {w : World} {a : Option Addr} {n c : Nat} {xs : List Int} (h : IsInts Any w (.slice a n c) xs) {i : Nat} (hi : i < xs.length) : ∃ b off, a = some ⟨b, off, none⟩ ∧ b < w.heap.size ∧ w.cell? ⟨b, off + i, none⟩ = some (.int .i64 (nth xs i)) := by
  obtain ⟨a', c', e, _, h3⟩ := h
  simp only [Value.slice.injEq] at e
  obtain ⟨rfl, -, -⟩ := e
  obtain ⟨b, off, o, h4, h5, _, h6⟩ := h3 i hi
  exact ⟨b, off, h4, lt_of_obj h5, h6⟩

theorem clash_succ {D : Int → Int → Bool} {p q : List Int} {j : Nat} (hj : j < p.length) : clash D (p.take (j + 1)) q = (clash D (p.take j) q || q.any (D (nth p j))) := by
  unfold clash
  rw [take_succ_nth hj, List.any_append]
  simp

theorem rows_grew {w w' : World} {v : Value} {ws : List (List Int)} (h : IsRows Any w v ws) (hg : Grew w w') : IsRows Any w' v ws := let ⟨V, h1, h2⟩ := h; ⟨V, Reads.grew h1 hg, fun i hi => Reads.grew (h2 i hi) hg⟩

theorem lens_three {x y z : List Int} (hx : x.length ≤ 100) (hy : y.length ≤ 100) (hz : z.length ≤ 100) : ∀ i, i < [x, y, z].length → (nthL [x, y, z] i).length ≤ 100 := fun j hj => by
  have hj' : j = 0 ∨ j = 1 ∨ j = 2 := by simp at hj; omega
  rcases hj' with rfl | rfl | rfl
  · exact hx
  · exact hy
  · exact hz

set_option maxHeartbeats 8000000 in
set_option maxRecDepth 20000 in
theorem both24_any (v : Value) (L : Lt) (uv wv : Value) (x y : List Int) (w : World) (hn : L.n ≤ 9223372036854775807) (hv : IsLt w v L) (hx : IsWd w uv x) (hy : IsWd w wv y) :
    Calls Try.prog 24 #[v, uv, wv] w fun e w' => Gives e w w' (bothM L x y) := by
  have HV := hid hv
  obtain ⟨s, rfl, -⟩ := hv
  obtain ⟨ua, uc, rfl⟩ := isWd_slice hx
  obtain ⟨xa, xc, rfl⟩ := isWd_slice hy
  obtain ⟨W0, hW0, g0, k0, k1, hz⟩ := box2 w (.int .i64 L.n) s 24
  obtain ⟨W1, hW1⟩ : ∃ W1, W0.alloc (.cells #[.slice ua x.length uc, .slice xa y.length xc] 25) = W1 := ⟨_, rfl⟩
  have g1 : Grew W0 W1 := by rw [← hW1]; exact grew_alloc (grew_refl _) _
  have g01 := grew_trans g0 g1
  obtain ⟨m, hm⟩ : ∃ m, x.length = m := ⟨_, rfl⟩
  have HM := hid hm
  obtain ⟨n, hnn⟩ : ∃ n, y.length = n := ⟨_, rfl⟩
  have HNN := hid hnn
  have HXM := hid (show IsWd w (.slice ua m uc) x by rw [← hm]; exact hx)
  have HYM := hid (show IsWd w (.slice xa n xc) y by rw [← hnn]; exact hy)
  obtain ⟨r, hr⟩ : ∃ r, wrong L [x, y] = r := ⟨_, rfl⟩
  have HR := hid hr
  have HG01 := hid g01
  by_cases hr0 : r = 0
  · subst hr0
    obtain ⟨hv1, hw1, hw2⟩ := wrong_two hr
    have hok := newLoom_ok _ L _ [x, y] W1 hn (HV.out.grew g01) (by rw [← hW1]; exact rows_two (Reads.grew hx.ints g0) (Reads.grew hy.ints g0) 25) hr
    have HOK := hid hok
    have HW1 := hid hw1; have HW2 := hid hw2
    rw [hm, hnn] at hW1 ⊢
    clear hr hx hy hm hnn hok hv1 hw1 hw2
    go_enter Try.func24, Try.ntmps24
    go_wp2_with (first
      | (go_at_call 60; (with_reducible refine HOK.out.mono ?_); go_loud (
          rintro e w1 ⟨B, N, hN, hN1, hN6, rfl, hB, hL, hg1⟩
          have HN := hid hN
          obtain ⟨hl1, hlw1⟩ := isW_iff hN HW1.out
          obtain ⟨hl2, hlw2⟩ := isW_iff hN HW2.out
          obtain ⟨W8, hW8, g8, e8, hz8⟩ := box1 w1 (.pointer (some ⟨B, 0, none⟩)) 58
          have HL := hid (hL.grew g8)
          have HG1 := hid (grew_trans HG01.out (grew_trans hg1 g8))
          have hcg := common_good (L := L) (N := N) ⟨hl1, hlw1⟩ ⟨hl2, hlw2⟩
          have HCG := hid hcg
          have HCO := hid (common_any (dep L) B N x y _ _ W8 hN6 hlw1 hlw2 (by omega) (by omega) HL.out (HXM.out.grew HG1.out) (HYM.out.grew HG1.out))
          clear hN hL hg1 hB hcg))
      | (go_at_call 66; (with_reducible refine HCO.out.mono ?_); go_loud (
          rintro e w2 ⟨bv, pv, qv, rfl, hbv, hpv, hqv, hg2⟩
          obtain ⟨ba, bc, rfl⟩ := isWd_slice hbv
          obtain ⟨pa, pc, rfl⟩ := isWd_slice hpv
          obtain ⟨qa, qc, rfl⟩ := isWd_slice hqv
          have HBV := hid hbv; have HPV := hid hpv; have HQV := hid hqv; have HG2 := hid hg2
          have e82 := (hg2.cell (p := ⟨w1.heap.size, 0, none⟩) hz8).trans e8
          have hz82 := Nat.lt_of_lt_of_le hz8 hg2.size
          clear hbv hpv hqv hg2)))
    have hbm : bothM L x y = if clash (dep L) (common (dep L) N x y).2.1 (common (dep L) N x y).2.2 then ([], 5) else formedM (dep L) N ((common (dep L) N x y).1 ++ (common (dep L) N x y).2.1 ++ (common (dep L) N x y).2.2) := by
      unfold bothM; rw [HR.out, if_pos rfl, HN.out]; rfl
    have HBM := hid hbm
    clear hbm
    obtain ⟨⟨b, p, q⟩, hcm⟩ : ∃ C, common (dep L) N x y = C := ⟨_, rfl⟩
    rw [hcm] at HBV HPV HQV HCG HBM ⊢
    simp only at HBV HPV HQV HCG HBM ⊢
    obtain ⟨np, hnp⟩ : ∃ n, p.length = n := ⟨_, rfl⟩
    obtain ⟨nq, hnq⟩ : ∃ n, q.length = n := ⟨_, rfl⟩
    obtain ⟨nb, hnb⟩ : ∃ n, b.length = n := ⟨_, rfl⟩
    have HNP := hid hnp
    have hp10 := HCG.out.2.1.len; have hq10 := HCG.out.2.2.len; have hb10 := HCG.out.1.len
    rw [hnp] at hp10; rw [hnq] at hq10; rw [hnb] at hb10
    rw [hnp] at HPV ⊢; rw [hnq] at HQV ⊢; rw [hnb] at HBV ⊢
    clear hcm hnp hnq hnb HCO
    go_loopg [14, 36] np (fun k _ i wr => ∃ j : Nat, j ≤ np ∧ i = .int .i64 j ∧ k = np - j ∧ Hid (clash (dep L) (p.take j) q = false) ∧ Hid (Grew w2 wr))
    case atStart => exact ⟨0, by omega, rfl, rfl, hid rfl, hid (grew_refl _)⟩
    case round =>
      obtain ⟨j, hj, rfl, hk, HCL, HG⟩ := hrel
      have HK := hid hk; clear hk
      rename World => wr
      have e8r := (HG.out.cell (p := ⟨w1.heap.size, 0, none⟩) hz82).trans e82
      have hz8r := Nat.lt_of_lt_of_le hz82 HG.out.size
      by_cases hlt : j < np
      · have hjp : j < p.length := by rw [HNP.out]; exact hlt
        obtain ⟨pb, pof, rfl, hpl, hpc0⟩ := ints_at HPV.out.ints hjp
        have hcs := clash_succ (D := dep L) (q := q) hjp
        have hzz := HCG.out.2.1.ok (nth p j) (by rw [nth_lt hjp]; exact List.getElem_mem _)
        obtain ⟨a, ha⟩ : ∃ a, nth p j = a := ⟨_, rfl⟩
        rw [ha] at hpc0 hcs hzz
        obtain ⟨a', rfl⟩ : ∃ a' : Nat, a = a' := ⟨a.toNat, by omega⟩
        have hpcr := (HG.out.cell (p := ⟨pb, pof + j, none⟩) hpl).trans hpc0
        have hplr := Nat.lt_of_lt_of_le hpl HG.out.size
        obtain ⟨W9, hW9, g9, e9, hz9⟩ := box1 wr (.int .i64 (a' : Int)) 3
        have hgw := grew_trans HG2.out (grew_trans HG.out g9)
        have hcf := containsFunc_any 71 #[.pointer (some ⟨w1.heap.size, 0, none⟩), .pointer (some ⟨wr.heap.size, 0, none⟩)] (fun z => dep L a' z) (.slice qa nq qc) q W9 entered71 (Reads.grew HQV.out.ints (grew_trans HG.out g9))
          (fun i hi => both1_says B N w1.heap.size wr.heap.size a' (nth q i) W9 hN6 (by omega) (HCG.out.2.2.ok _ (by rw [nth_lt hi]; exact List.getElem_mem _)) (HL.out.grew hgw) ((g9.cell (p := ⟨w1.heap.size, 0, none⟩) hz8r).trans e8r) e9)
        rw [HCL.out, Bool.false_or] at hcs
        obtain ⟨t, ht⟩ : ∃ t, q.any (fun z => dep L (a' : Int) z) = t := ⟨_, rfl⟩
        rw [ht] at hcf
        have HCF := hid hcf
        have HCS := hid (hcs.trans ht)
        have HG9 := hid (grew_trans HG.out g9)
        clear hcf hcs ht hgw hpc0 ha hzz e9 g9
        cases t
        · go_wp2_with (go_at_call 70; (with_reducible refine HCF.out.mono ?_); rintro e w5 ⟨rfl, hx5⟩; have HX5 := hid hx5; clear hx5)
          go_roundg (np - (j + 1))
          case measure => have := HK.out; omega
          case rel => exact ⟨j + 1, by omega, by go_num, rfl, HCS, hid (grew_trans HG9.out HX5.out)⟩
        · have hcl : clash (dep L) p q = true := by
            have h1 := HCS.out
            unfold clash at h1 ⊢
            rw [List.any_eq_true] at h1 ⊢
            obtain ⟨z, hz1, hz2⟩ := h1
            exact ⟨z, List.mem_of_mem_take hz1, hz2⟩
          have hbe : bothM L x y = ([], 5) := by rw [HBM.out, if_pos hcl]
          have HBE := hid hbe
          clear hcl hbe
          go_wp2_with (go_at_call 70; (with_reducible refine HCF.out.mono ?_); rintro e w5 ⟨rfl, hx5⟩; have HX5 := hid hx5; clear hx5)
          go_ret2
          refine ⟨.slice none 0 0, by rw [HBE.out]; rfl, by rw [HBE.out]; exact wd_nil _, grew_trans HG1.out (grew_trans HG2.out (grew_trans HG9.out HX5.out))⟩
      · obtain rfl : np = j := by omega
        have hcl := HCL.out
        rw [List.take_of_length_le (by rw [HNP.out]; exact Nat.le_refl _)] at hcl
        have hbe : bothM L x y = formedM (dep L) N (b ++ p ++ q) := by rw [HBM.out, hcl]; rfl
        have HBE := hid hbe
        have gwr := grew_trans HG2.out HG.out
        have HGR := hid gwr
        have hbr := HBV.out.grew HG.out; have hpr := HPV.out.grew HG.out; have hqr := HQV.out.grew HG.out
        have HBR := hid hbr; have HPR := hid hpr; have HQR := hid hqr
        have hlr := HL.out.grew gwr
        have HLR := hid hlr
        clear hcl hbe gwr hbr hpr hqr hlr
        go_wp2
        go_region_law (first
          | (go_simp; go_at_call 73; (with_reducible refine (concat_any _ [b, p, q] (wr.alloc (.cells #[.slice ba nb bc, .slice pa np pc, .slice qa nq qc] 25)).drew (rows_grew (rows_three HBR.out.ints HPR.out.ints HQR.out.ints 25) (grew_drew (grew_refl _))) (by simp) (lens_three (by have := HCG.out.1.len; omega) (by have := HCG.out.2.1.len; omega) (by have := HCG.out.2.2.len; omega))).mono ?_); go_loud (
              rintro e w6 ⟨cv, rfl, hs6, hg6⟩
              have hfx : [b, p, q].flatten = b ++ p ++ q := by simp
              rw [hfx] at hs6
              have HS6 := hid hs6
              have hg6' : Grew wr w6 := grew_trans (grew_drew (grew_alloc (grew_refl wr) (.cells #[.slice ba nb bc, .slice pa np pc, .slice qa nq qc] 25))) hg6
              have HG6 := hid hg6'
              have e86 := (hg6'.cell (p := ⟨w1.heap.size, 0, none⟩) hz8r).trans e8r
              have hz86 := Nat.lt_of_lt_of_le hz8r hg6'.size
              clear hs6 hg6 hfx hg6'))
          | (go_simp; go_at_call 72; (with_reducible refine (formed_any B N _ (b ++ p ++ q) w6 hN6 (letters_append (letters_append HCG.out.1.ok HCG.out.2.1.ok) HCG.out.2.2.ok) (HLR.out.grew HG6.out) (IsWd.of_seg HS6.out)).mono ?_); rintro e w7 ⟨uz, rfl, hu7, hg7⟩; have HU7 := hid hu7; have HG7 := hid hg7; obtain ⟨_, _, rfl⟩ := isWd_slice hu7; clear hu7 hg7))
        all_goals (
          go_wp2
          go_ret2
          refine ⟨_, ?_, by rw [HBE.out]; exact HU7.out, grew_trans HG1.out (grew_trans HGR.out (grew_trans HG6.out HG7.out))⟩
          rw [HBE.out, List.append_assoc]; rfl)
  · have hbad := newLoom_bad _ L _ [x, y] W1 hn (HV.out.grew g01) (by rw [← hW1]; exact rows_two (Reads.grew hx.ints g0) (Reads.grew hy.ints g0) 25) (by rw [hr]; exact hr0)
    rw [hr] at hbad
    have hne : (r != 0) = true := by simpa using hr0
    have HB := hid hbad; have HR0 := hid hr0
    rw [hm, hnn] at hW1 ⊢
    clear hr hx hy hm hnn hbad hr0
    go_enter Try.func24, Try.ntmps24
    go_wp2_with (go_at_call 60; (with_reducible refine HB.out.mono ?_); rintro e w1 ⟨rfl, hg1⟩; have HG1 := hid (grew_trans HG01.out hg1); clear hg1)
    go_ret2
    exact ⟨_, by rw [show (bothM L x y).2 = r by unfold bothM; rw [HR.out, if_neg HR0.out]]; rfl, by rw [show (bothM L x y).1 = [] by unfold bothM; rw [HR.out, if_neg HR0.out]]; exact wd_nil _, grew_alloc HG1.out _⟩

end Go.Proofs.Ytddnpooffcjhnaa
