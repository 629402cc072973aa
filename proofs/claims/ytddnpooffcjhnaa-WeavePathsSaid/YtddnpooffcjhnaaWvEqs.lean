/- Walk: slices.Equal (86). Equal, of the program (43) and of the reference (44, 87). -/
import Derived.Test.YtddnpooffcjhnaaWvGives
namespace Go.Proofs.Ytddnpooffcjhnaa
open Go.RowKit Go.Lin Go.Lin.Wv

set_option maxHeartbeats 2000000 in
theorem equal86_any (v v' : Value) (l m : List Int) (w : World) (hv : IsInts Any w v l) (hv' : IsInts Any w v' m) :
    Calls Try.prog 86 #[v, v'] w fun e w' => e = .returned (.bool (l == m)) ∧ Grew w w' := by
  obtain ⟨a, cap, rfl, hm, hc⟩ := hv
  obtain ⟨a', cap', rfl, hm', hc'⟩ := hv'
  have HC := hid hc; clear hc
  have HC' := hid hc'; clear hc'
  obtain ⟨r, hr⟩ : ∃ r, (l == m) = r := ⟨_, rfl⟩
  rw [hr]
  have HR := hid hr; clear hr
  obtain ⟨n, hn⟩ : ∃ n, l.length = n := ⟨_, rfl⟩
  obtain ⟨n', hn'⟩ : ∃ n, m.length = n := ⟨_, rfl⟩
  rw [hn] at hm HC ⊢
  rw [hn'] at hm' HC' ⊢
  have HN := hid hn
  have HN' := hid hn'
  by_cases hne : n = n'
  · subst hne
    clear hn hn'
    have hg := grew_refl w
    go_enter Try.func86, Try.ntmps86
    go_wp2
    go_loopg [5, 13] n (fun k _ i wr => ∃ j : Nat, j ≤ n ∧ i = .int .i64 j ∧ k = n - j ∧ Hid (l.take j = m.take j) ∧ Grew w wr)
    case atStart => exact ⟨0, by omega, rfl, rfl, hid (by simp), hg⟩
    case round =>
      clear hg
      obtain ⟨j, hj, rfl, hk, HT, hg⟩ := hrel
      have HK := hid hk; clear hk
      by_cases hlt : j < n
      · obtain ⟨b1, off1, o1, rfl, hb1, _, hcj1⟩ := HC.out j hlt
        obtain ⟨b2, off2, o2, rfl, hb2, _, hcj2⟩ := HC'.out j hlt
        have hbl1 := lt_of_obj hb1
        have hbl2 := lt_of_obj hb2
        have d1 := (hg.cell (p := ⟨b1, off1 + j, none⟩) hbl1).trans hcj1
        have d2 := (hg.cell (p := ⟨b2, off2 + j, none⟩) hbl2).trans hcj2
        clear hb1 hb2 hcj1 hcj2
        by_cases he : nth l j = nth m j
        · have hd : (nth l j != nth m j) = false := by simp [he]
          have HE := hid he; clear he
          go_wp2
          go_quiet (fail)
          go_wp2
          go_roundg (n - (j + 1))
          case measure => have := HK.out; omega
          case rel => exact ⟨j + 1, by omega, by go_num, rfl, hid (take_eq_succ HT.out (by rw [HN.out]; exact hlt) (by rw [HN'.out]; exact hlt) HE.out), grew_drewN hg _⟩
        · have hd : (nth l j != nth m j) = true := by simpa using he
          have HE := hid he; clear he
          go_wp2
          go_quiet (fail)
          go_wp2
          go_ret
          refine ⟨ret_bool (Eq.trans ?_ HR.out), grew_drewN hg _⟩
          symm
          rw [beq_eq_false_iff_ne]
          rintro rfl
          exact HE.out rfl
      · obtain rfl : j = n := by omega
        go_wp2
        go_ret
        refine ⟨ret_bool (Eq.trans ?_ HR.out), hg⟩
        have h1 := HT.out
        rw [List.take_of_length_le (by rw [HN.out]; omega), List.take_of_length_le (by rw [HN'.out]; omega)] at h1
        rw [h1]; simp
  · have hd : ((n : Int) != (n' : Int)) = true := by simp; omega
    have HNE := hid hne
    clear hne hn hn'
    go_enter Try.func86, Try.ntmps86
    go_wp2
    go_ret
    refine ⟨ret_bool (Eq.trans ?_ HR.out), grew_refl _⟩
    symm
    rw [beq_eq_false_iff_ne]
    rintro rfl
    exact HNE.out (HN.out.symm.trans HN'.out)

end Go.Proofs.Ytddnpooffcjhnaa
namespace Go.Lin.Wv
def eqM (L : Lt) (x y : List Int) : Bool × Int := if wrong L [x, y] = 0 then (first (dep L) L.n.toNat x == first (dep L) L.n.toNat y, 0) else (false, wrong L [x, y])
theorem first_beq {L : Lt} {N : Nat} {x y : List Int} (hx : ∀ z ∈ x, 0 ≤ z ∧ z < (N : Int)) (hy : ∀ z ∈ y, 0 ≤ z ∧ z < (N : Int)) : (first (dep L) N x == first (dep L) N y) = (rest (dep L) x y == some []) := by
  rw [Bool.eq_iff_iff, beq_iff_eq, beq_iff_eq, first_iff (dep_refl L) (dep_comm L) hx hy, alike_iff (dep_refl L) (dep_comm L)]
end Go.Lin.Wv
namespace Go.Proofs.Ytddnpooffcjhnaa
open Go.RowKit Go.Lin Go.Lin.Wv

set_option maxHeartbeats 4000000 in
set_option maxRecDepth 20000 in
theorem requal87_any (v : Value) (L : Lt) (uv wv : Value) (x y : List Int) (w : World) (hlen : y.length ≤ 1000) (hv : IsLt w v L) (hx : IsInts Any w uv x) (hy : IsWd w wv y) :
    Calls Try.prog 87 #[v, uv, wv] w fun e w' => e = .returned (.bool (rest (dep L) x y == some [])) ∧ Grew w w' := by
  have h77 := fun (W : World) (hW : Grew w W) => restR_any v L uv wv x y W hlen (hv.grew hW) (Reads.grew hx hW) (hy.grew hW)
  obtain ⟨s, rfl, -⟩ := hv
  obtain ⟨W0, hW0, g0, k0, k1, hz⟩ := box2 w (.int .i64 L.n) s 24
  obtain ⟨q, hq⟩ : ∃ q, rest (dep L) x y = q := ⟨_, rfl⟩
  rw [hq] at h77 ⊢
  clear hq hx hy
  cases q with
  | none =>
    simp only [Option.isSome_none, Option.getD_none] at h77
    have H := hid h77
    clear h77
    go_enter Try.func87, Try.ntmps87
    go_wp2_with (go_at_call 77; (with_reducible refine (H.out _ g0).mono ?_); rintro e w1 ⟨u, rfl, hu, hx⟩; have HX := hid hx; clear hx hu)
    go_ret
    exact ⟨rfl, grew_trans g0 HX.out⟩
  | some l =>
    simp only [Option.isSome_some, Option.getD_some] at h77
    have H := hid h77
    have hb : (some l == some ([] : List Int)) = ((l.length : Int) == 0) := by
      cases l with
      | nil => rfl
      | cons a t => simp; omega
    rw [hb]
    obtain ⟨r, hr⟩ : ∃ r, ((l.length : Int) == 0) = r := ⟨_, rfl⟩
    rw [hr]
    clear h77 hb
    cases r
    all_goals
      go_enter Try.func87, Try.ntmps87
      go_wp2_with (go_at_call 77; (with_reducible refine (H.out _ g0).mono ?_); rintro e w1 ⟨u, rfl, hu, hx⟩; obtain ⟨la, lc, rfl⟩ := isWd_slice hu; have HX := hid hx; clear hx hu)
      go_ret
      exact ⟨rfl, grew_trans g0 HX.out⟩

set_option maxHeartbeats 4000000 in
set_option maxRecDepth 20000 in
theorem equal43_any (v : Value) (L : Lt) (uv wv : Value) (x y : List Int) (w : World) (hn : L.n ≤ 9223372036854775807) (hv : IsLt w v L) (hx : IsWd w uv x) (hy : IsWd w wv y) :
    Calls Try.prog 43 #[v, uv, wv] w fun e w' => e = .returned (.tuple #[.bool (eqM L x y).1, .int .i64 (eqM L x y).2]) ∧ Grew w w' := by
  have HV := hid hv
  obtain ⟨s, rfl, -⟩ := hv
  obtain ⟨ua, uc, rfl⟩ := isWd_slice hx
  obtain ⟨xa, xc, rfl⟩ := isWd_slice hy
  obtain ⟨W0, hW0, g0, k0, k1, hz⟩ := box2 w (.int .i64 L.n) s 24
  obtain ⟨W1, hW1⟩ : ∃ W1, W0.alloc (.cells #[.slice ua x.length uc, .slice xa y.length xc] 25) = W1 := ⟨_, rfl⟩
  have g1 : Grew W0 W1 := by rw [← hW1]; exact grew_alloc (grew_refl _) _
  have g01 := grew_trans g0 g1
  obtain ⟨m, hm⟩ : ∃ m, x.length = m := ⟨_, rfl⟩
  have HM := hid hm
  obtain ⟨n, hnn⟩ : ∃ n, y.length = n := ⟨_, rfl⟩
  have HNN := hid hnn
  have HXM := hid (show IsWd w (.slice ua m uc) x by rw [← hm]; exact hx)
  have HYM := hid (show IsWd w (.slice xa n xc) y by rw [← hnn]; exact hy)
  obtain ⟨r, hr⟩ : ∃ r, wrong L [x, y] = r := ⟨_, rfl⟩
  have HR := hid hr
  have HX := hid hx; have HY := hid hy
  have HG01 := hid g01
  by_cases hr0 : r = 0
  · subst hr0
    obtain ⟨hv1, hw1, hw2⟩ := wrong_two hr
    have hok := newLoom_ok _ L _ [x, y] W1 hn (HV.out.grew g01) (by rw [← hW1]; exact rows_two (Reads.grew hx.ints g0) (Reads.grew hy.ints g0) 25) hr
    have HOK := hid hok
    have HW1 := hid hw1; have HW2 := hid hw2
    rw [hm, hnn] at hW1 ⊢
    clear hr hx hy hm hnn hok hv1 hw1 hw2
    go_enter Try.func43, Try.ntmps43
    go_wp2_with (first
      | (go_at_call 60; (with_reducible refine HOK.out.mono ?_); rintro e w1 ⟨B, N, hN, hN1, hN6, rfl, hB, hL, hg1⟩; have HL := hid hL; have HN := hid hN; have HG1 := hid (grew_trans HG01.out hg1); obtain ⟨hl1, hlw1⟩ := isW_iff hN HW1.out; obtain ⟨hl2, hlw2⟩ := isW_iff hN HW2.out; have HL1 := hid hl1; have HL2 := hid hl2; clear hN hL hg1 hB)
      | (go_at_call 67; (with_reducible refine (first_any (dep L) B N x _ w1 hN6 hlw1 (by omega) HL.out (HXM.out.grew HG1.out)).mono ?_); rintro e w2 ⟨u, rfl, hs2, hg2⟩; have HS2 := hid hs2; have HG2 := hid hg2; clear hs2 hg2)
      | (go_at_call 67; (with_reducible refine (first_any (dep L) B N y _ w2 hN6 hlw2 (by omega) (HL.out.grew HG2.out) (HYM.out.grew (grew_trans HG1.out HG2.out))).mono ?_); rintro e w3 ⟨u3, rfl, hs3, hg3⟩; have HS3 := hid hs3; have HG3 := hid hg3; clear hs3 hg3)
      | (go_at_call 86; (with_reducible refine (equal86_any _ _ (first (dep L) N x) (first (dep L) N y) w3 (IsWd.of_seg (HS2.out.grew HG3.out)).ints (IsWd.of_seg HS3.out).ints).mono ?_); rintro e w4 ⟨rfl, hx⟩; have HG4 := hid hx; clear hx))
    go_ret2
    exact ⟨by unfold eqM; rw [HR.out, if_pos rfl, HN.out, Int.toNat_natCast]; rfl, grew_trans HG1.out (grew_trans HG2.out (grew_trans HG3.out HG4.out))⟩
  · have hbad := newLoom_bad _ L _ [x, y] W1 hn (HV.out.grew g01) (by rw [← hW1]; exact rows_two (Reads.grew hx.ints g0) (Reads.grew hy.ints g0) 25) (by rw [hr]; exact hr0)
    rw [hr] at hbad
    have hne : (r == 0) = false := by simpa using hr0
    have HB := hid hbad; have HR0 := hid hr0
    rw [hm, hnn] at hW1 ⊢
    clear hr hx hy hm hnn hbad hr0
    go_enter Try.func43, Try.ntmps43
    go_wp2_with (go_at_call 60; (with_reducible refine HB.out.mono ?_); rintro e w1 ⟨rfl, hg1⟩; have HG1 := hid (grew_trans HG01.out hg1); clear hg1)
    go_ret2
    exact ⟨by unfold eqM; rw [HR.out, if_neg HR0.out]; rfl, HG1.out⟩

set_option maxHeartbeats 4000000 in
set_option maxRecDepth 20000 in
theorem rEqual44_any (v : Value) (L : Lt) (uv wv : Value) (x y : List Int) (w : World) (hv : IsLt w v L) (hx : IsWd w uv x) (hy : IsWd w wv y) :
    Calls Try.prog 44 #[v, uv, wv] w fun e w' => e = .returned (.tuple #[.bool (eqM L x y).1, .int .i64 (eqM L x y).2]) ∧ Grew w w' := by
  have HV := hid hv
  obtain ⟨s, hveq, -⟩ := id hv
  subst hveq
  obtain ⟨ua, uc, rfl⟩ := isWd_slice hx
  obtain ⟨xa, xc, rfl⟩ := isWd_slice hy
  obtain ⟨W0, hW0, g0, k0, k1, hz⟩ := box2 w (.int .i64 L.n) s 24
  have hask := asked_any _ L _ _ x y W0 (hv.grew g0) (hx.grew g0).ints (hy.grew g0).ints
  obtain ⟨m, hm⟩ : ∃ m, x.length = m := ⟨_, rfl⟩
  have HM := hid hm
  obtain ⟨n, hnn⟩ : ∃ n, y.length = n := ⟨_, rfl⟩
  have HNN := hid hnn
  have HXM := hid (show IsWd w (.slice ua m uc) x by rw [← hm]; exact hx)
  have HYM := hid (show IsWd w (.slice xa n xc) y by rw [← hnn]; exact hy)
  obtain ⟨r, hr⟩ : ∃ r, wrong L [x, y] = r := ⟨_, rfl⟩
  rw [hr] at hask
  have HR := hid hr
  have HX := hid hx; have HY := hid hy
  rw [hm, hnn] at hask
  have HASK := hid hask
  rw [hm, hnn]
  have hg := grew_refl W0
  clear hask hr hx hy hm hnn hv
  by_cases hr0 : r = 0
  · subst hr0
    obtain ⟨hv1, hw1, hw2⟩ := wrong_two HR.out
    obtain ⟨⟨h1, h6⟩, -⟩ := valid_iff hv1
    obtain ⟨N, hN⟩ : ∃ N : Nat, L.n = N := ⟨L.n.toNat, by omega⟩
    have hN6 : N ≤ 6 := by omega
    obtain ⟨hl1, hlw1⟩ := isW_iff hN hw1; obtain ⟨hl2, hlw2⟩ := isW_iff hN hw2
    have HN := hid hN; have HL1 := hid hl1; have HL2 := hid hl2; have HVN := hid (show IsLt w (.agg #[.int .i64 (N : Int), s]) L by rw [← hN]; exact HV.out)
    rw [hN] at hW0 k0 HASK ⊢
    clear hN hv1 hw1 hw2 h1 h6
    go_enter Try.func44, Try.ntmps44
    go_wp2_with (first
      | (go_at_call 64; (with_reducible refine HASK.out.mono ?_); rintro e w1 ⟨rfl, hx⟩; replace hg := grew_trans hg hx; have hc := (bcell hg).1; have HG1 := hid (grew_trans g0 hg); clear hx)
      | (go_at_call 87; (with_reducible refine (requal87_any _ L _ _ x y w1 (by have := HL2.out; omega) (HVN.out.grew HG1.out) (HXM.out.grew HG1.out).ints (HYM.out.grew HG1.out)).mono ?_); rintro e w2 ⟨rfl, hg2⟩; have HG2 := hid hg2; clear hg2))
    go_ret2
    exact ⟨by unfold eqM; rw [HR.out, if_pos rfl, HN.out, Int.toNat_natCast, first_beq hlw1 hlw2]; rfl, grew_trans HG1.out HG2.out⟩
  · have hne : (r != 0) = true := by simpa using hr0
    have HR0 := hid hr0
    clear hr0
    go_enter Try.func44, Try.ntmps44
    go_wp2_with (go_at_call 64; (with_reducible refine HASK.out.mono ?_); rintro e w1 ⟨rfl, hx⟩; have HG1 := hid (grew_trans g0 hx); clear hx)
    go_ret2
    exact ⟨by unfold eqM; rw [HR.out, if_neg HR0.out]; rfl, HG1.out⟩

end Go.Proofs.Ytddnpooffcjhnaa
