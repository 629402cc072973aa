/- IsPath, of the program (47). IsPath, of the reference (46). Walk: slices.Index (88). -/
import Derived.Test.YtddnpooffcjhnaaWvEqs
import Derived.Test.YtddnpooffcjhnaaWvExchA
namespace Go.Lin.Wv
/-- Exchanges, one after the other. -/
def runP (D : Int → Int → Bool) : List Int → List Int → Option (List Int)
  | x, [] => some x
  | x, i :: p => if canM D x i then runP D (swapM x i.toNat) p else none
def endsAt (y : List Int) : Option (List Int) → Bool
  | some c => c == y
  | none => false
def isPathM (L : Lt) (x y p : List Int) : Bool × Int := if wrong L [x, y] = 0 then (if 1000 < p.length then (false, 0) else (endsAt y (runP (dep L) x p), 0)) else (false, wrong L [x, y])

theorem runP_drop {D : Int → Int → Bool} {x p : List Int} {j : Nat} (h : j < p.length) : runP D x (p.drop j) = if canM D x (nth p j) then runP D (swapM x (nth p j).toNat) (p.drop (j + 1)) else none := by
  rw [List.drop_eq_getElem_cons h, ← nth_lt h]; rfl

theorem mem_swapM {x : List Int} {i : Nat} (h : i + 1 < x.length) : ∀ z ∈ swapM x i, z ∈ x := by
  intro z hz
  unfold swapM at hz
  rcases List.mem_or_eq_of_mem_set hz with hz | rfl
  · rcases List.mem_or_eq_of_mem_set hz with hz | rfl
    · exact hz
    · rw [nth_lt h]; exact List.getElem_mem _
  · rw [nth_lt (by omega : i < x.length)]; exact List.getElem_mem _
end Go.Lin.Wv
namespace Go.Proofs.Ytddnpooffcjhnaa
open Go.RowKit Go.Lin Go.Lin.Wv

set_option maxHeartbeats 4000000 in
set_option maxRecDepth 20000 in
theorem isPath47_any (v : Value) (L : Lt) (uv wv pv : Value) (x y p : List Int) (w : World) (hn : L.n ≤ 9223372036854775807) (hv : IsLt w v L) (hx : IsWd w uv x) (hy : IsWd w wv y) (hp : IsWd w pv p) :
    Calls Try.prog 47 #[v, uv, wv, pv] w fun e w' => e = .returned (.tuple #[.bool (isPathM L x y p).1, .int .i64 (isPathM L x y p).2]) ∧ Grew w w' := by
  have HV := hid hv
  obtain ⟨s, rfl, -⟩ := hv
  obtain ⟨ua, uc, rfl⟩ := isWd_slice hx
  obtain ⟨xa, xc, rfl⟩ := isWd_slice hy
  obtain ⟨pa, pc, hpe, -, pa', pc', hpe2, hpm, hpc⟩ := hp
  subst hpe
  obtain ⟨rfl, rfl⟩ : pa = pa' ∧ pc = pc' := by simp at hpe2; exact hpe2
  clear hpe2
  obtain ⟨W0, hW0, g0, k0, k1, hz⟩ := box2 w (.int .i64 L.n) s 24
  obtain ⟨W1, hW1⟩ : ∃ W1, W0.alloc (.cells #[.slice ua x.length uc, .slice xa y.length xc] 25) = W1 := ⟨_, rfl⟩
  have g1 : Grew W0 W1 := by rw [← hW1]; exact grew_alloc (grew_refl _) _
  have g01 := grew_trans g0 g1
  obtain ⟨m, hm⟩ : ∃ m, x.length = m := ⟨_, rfl⟩
  have HM := hid hm
  obtain ⟨n, hnn⟩ : ∃ n, y.length = n := ⟨_, rfl⟩
  obtain ⟨k, hkk⟩ : ∃ n, p.length = n := ⟨_, rfl⟩
  have HKK := hid hkk
  rw [hkk] at hpm hpc
  have HPC := hid hpc
  have HXM := hid (show IsWd w (.slice ua m uc) x by rw [← hm]; exact hx)
  have HYM := hid (show IsWd w (.slice xa n xc) y by rw [← hnn]; exact hy)
  obtain ⟨r, hr⟩ : ∃ r, wrong L [x, y] = r := ⟨_, rfl⟩
  have HG01 := hid g01
  have hrows : IsRows Any W1 (.slice (some ⟨W0.heap.size, 0, none⟩) 2 2) [x, y] := by rw [← hW1]; exact rows_two (Reads.grew hx.ints g0) (Reads.grew hy.ints g0) 25
  rw [hkk]
  clear hpc g1
  by_cases hr0 : r = 0
  · subst hr0
    obtain ⟨hv1, hw1, hw2⟩ := wrong_two hr
    have hok := newLoom_ok _ L _ [x, y] W1 hn (HV.out.grew g01) hrows hr
    have HOK := hid hok
    have HW1 := hid hw1
    have hem : isPathM L x y p = if 1000 < k then (false, 0) else (endsAt y (runP (dep L) x p), 0) := by unfold isPathM; rw [if_pos hr, hkk]
    have hl10 : m ≤ 10 := by unfold isW at hw1; simp at hw1; rw [← hm]; exact hw1.1
    rw [hm, hnn] at hW1 ⊢
    by_cases hbig : 1000 < k
    · rw [if_pos hbig] at hem
      have HEM := hid hem
      have hbz : (1000 : Int) < (k : Int) := by omega
      clear hr hx hy hm hnn hkk hok hv1 hw1 hw2 hem hrows
      go_enter Try.func47, Try.ntmps47
      go_wp2_with (go_at_call 60; (with_reducible refine HOK.out.mono ?_); rintro e w1 ⟨B, N, hN, hN1, hN6, rfl, hB, hL, hg1⟩; have HG1 := hid (grew_trans HG01.out hg1); clear hN hL hg1 hB hN1 hN6)
      go_ret2
      exact ⟨by rw [HEM.out]; rfl, HG1.out⟩
    · rw [if_neg hbig] at hem
      have hbz : ¬ (1000 : Int) < (k : Int) := by omega
      obtain ⟨R, hR⟩ : ∃ R, runP (dep L) x p = R := ⟨_, rfl⟩
      rw [hR] at hem
      have HEM := hid hem; have HR := hid hR
      clear hr hx hy hm hnn hkk hok hv1 hw1 hw2 hem hR hrows
      go_enter Try.func47, Try.ntmps47
      go_wp2_with (first
        | (go_at_call 60; (with_reducible refine HOK.out.mono ?_); rintro e w1 ⟨B, N, hN, hN1, hN6, rfl, hB, hL, hg1⟩; have HL := hid hL; have HN6 := hid hN6; have HG1 := hid (grew_trans HG01.out hg1); obtain ⟨hl1, hlw1⟩ := isW_iff hN HW1.out; have HLW := hid hlw1; clear hN hL hg1 hB hN1 hN6 hl1 hlw1)
        | (go_at_call 80; (with_reducible refine (clone_ints _ m x _ HM.out (by omega) (HXM.out.grew HG1.out).ints).mono ?_); rintro e w2 ⟨u, rfl, hs2, hg2⟩; have HS2 := hid hs2; have HG2 := hid hg2; clear hs2 hg2))
      go_loopg [14, 35] k (fun gk _ i wr => ∃ (j : Nat) (cur : List Int), j ≤ k ∧ i = .int .i64 j ∧ gk = k - j ∧ Hid (runP (dep L) cur (p.drop j) = R) ∧ Hid (cur.length = m ∧ ∀ z ∈ cur, 0 ≤ z ∧ z < (N : Int)) ∧ Hid (Seg wr w1.heap.size 3 1 u m (cur.map (.int .i64))) ∧ Hid (Below w1.heap.size w1 wr))
      case atStart => exact ⟨0, x, by omega, rfl, rfl, hid (by rw [List.drop_zero]; exact HR.out), hid ⟨HM.out, HLW.out⟩, HS2, HG2⟩
      case round =>
        obtain ⟨j, cur, hj, rfl, hgk, HRR, HCU, HSG, HG⟩ := hrel
        have HGK := hid hgk; clear hgk
        rename World => wr
        have hgw := HG1.out.trans (HG.out.mono HG1.out.size)
        have HGW := hid hgw
        by_cases hlt : j < k
        · obtain ⟨bb, off, o, rfl, hob, -, hcj0⟩ := HPC.out j hlt
          have hbl := lt_of_obj hob
          have hcj1 := (hgw.cell (p := ⟨bb, off + j, none⟩) hbl).trans hcj0
          have hbl1 := Nat.lt_of_lt_of_le hbl hgw.size
          have hjx : j < p.length := by rw [HKK.out]; exact hlt
          have hst := runP_drop (D := dep L) (x := cur) hjx
          rw [HRR.out] at hst
          obtain ⟨q, hq⟩ : ∃ q, nth p j = q := ⟨_, rfl⟩
          rw [hq] at hst
          simp only [hq] at hcj1
          obtain ⟨cc, hcc⟩ : ∃ c, canM (dep L) cur q = c := ⟨_, rfl⟩
          rw [hcc] at hst
          have HST := hid hst; have HCC := hid hcc
          have h81 := exchange81_any (D := dep L) B N w1.heap.size u cur m q wr HCU.out.1 HN6.out (by omega) HCU.out.2 (HL.out.grew HG.out) HG.out.size HSG.out
          rw [hcc] at h81
          have H81 := hid h81
          clear hob hcj0 hgw hjx hst hq hcc h81
          cases cc
          · go_wp2_with (go_at_call 81; (with_reducible refine H81.out.mono ?_); rintro e w3 ⟨rfl, hs3, hb3⟩; have HG3 := hid (HG.out.trans hb3); clear hs3 hb3)
            go_ret2
            exact ⟨by rw [HEM.out, HST.out]; rfl, HG1.out.trans (HG3.out.mono HG1.out.size)⟩
          · go_wp2_with (go_at_call 81; (with_reducible refine H81.out.mono ?_); rintro e w3 ⟨rfl, hs3, hb3⟩; have HS3 := hid hs3; have HG3 := hid (HG.out.trans hb3); clear hs3 hb3)
            go_roundg (k - (j + 1))
            case measure => have := HGK.out; omega
            case rel =>
              obtain ⟨qn, hqn, hql⟩ := canM_pos HCC.out
              refine ⟨j + 1, swapM cur q.toNat, by omega, by go_num, rfl, hid (by rw [HST.out]; rfl), hid ⟨(swapM_length _ _).trans HCU.out.1, fun z hz => ?_⟩, hid (by have h3 := HS3.out; rw [exM_yes HCC.out] at h3; exact h3), HG3⟩
              rw [hqn, Int.toNat_natCast] at hz
              exact HCU.out.2 z (mem_swapM hql z hz)
        · obtain rfl : k = j := by omega
          have hfin := HRR.out
          rw [List.drop_of_length_le (by rw [HKK.out]; exact Nat.le_refl _)] at hfin
          have HFIN := hid hfin
          have H86 := hid (equal86_any u (.slice xa n xc) cur y wr (wd_seg HSG.out HCU.out.1).ints (HYM.out.grew HGW.out).ints)
          clear hfin
          go_wp2_with (go_at_call 86; (with_reducible refine H86.out.mono ?_); rintro e w4 ⟨rfl, hx⟩; have HX := hid hx; clear hx)
          go_ret2
          exact ⟨by rw [HEM.out, ← HFIN.out]; rfl, grew_trans HGW.out HX.out⟩
  · have hbad := newLoom_bad _ L _ [x, y] W1 hn (HV.out.grew g01) hrows (by rw [hr]; exact hr0)
    rw [hr] at hbad
    have hne : (r != 0) = true := by simpa using hr0
    have HEM := hid (show isPathM L x y p = (false, r) by unfold isPathM; rw [hr, if_neg hr0])
    have HB := hid hbad
    rw [hm, hnn] at hW1 ⊢
    clear hr hx hy hm hnn hbad hr0 hrows hkk
    go_enter Try.func47, Try.ntmps47
    go_wp2_with (go_at_call 60; (with_reducible refine HB.out.mono ?_); rintro e w1 ⟨rfl, hg1⟩; have HG1 := hid (grew_trans HG01.out hg1); clear hg1)
    go_ret2
    exact ⟨by rw [HEM.out]; rfl, HG1.out⟩

end Go.Proofs.Ytddnpooffcjhnaa
namespace Go.Proofs.Ytddnpooffcjhnaa
open Go.RowKit Go.Lin Go.Lin.Wv

set_option maxHeartbeats 4000000 in
set_option maxRecDepth 20000 in
theorem rIsPath46_any (v : Value) (L : Lt) (uv wv pv : Value) (x y p : List Int) (w : World) (hv : IsLt w v L) (hx : IsWd w uv x) (hy : IsWd w wv y) (hp : IsWd w pv p) :
    Calls Try.prog 46 #[v, uv, wv, pv] w fun e w' => e = .returned (.tuple #[.bool (isPathM L x y p).1, .int .i64 (isPathM L x y p).2]) ∧ Grew w w' := by
  have HV := hid hv
  obtain ⟨s, hveq, -⟩ := id hv
  subst hveq
  obtain ⟨ua, uc, rfl⟩ := isWd_slice hx
  obtain ⟨xa, xc, rfl⟩ := isWd_slice hy
  obtain ⟨pa, pc, hpe, -, pa', pc', hpe2, hpm, hpc⟩ := hp
  subst hpe
  obtain ⟨rfl, rfl⟩ : pa = pa' ∧ pc = pc' := by simp at hpe2; exact hpe2
  clear hpe2
  obtain ⟨W0, hW0, g0, k0, k1, hz⟩ := box2 w (.int .i64 L.n) s 24
  have hask := asked_any _ L _ _ x y W0 (hv.grew g0) (hx.grew g0).ints (hy.grew g0).ints
  obtain ⟨m, hm⟩ : ∃ m, x.length = m := ⟨_, rfl⟩
  have HM := hid hm
  obtain ⟨n, hnn⟩ : ∃ n, y.length = n := ⟨_, rfl⟩
  obtain ⟨k, hkk⟩ : ∃ n, p.length = n := ⟨_, rfl⟩
  have HKK := hid hkk
  rw [hkk] at hpm hpc
  have HPC := hid hpc
  have HXM := hid (show IsWd w (.slice ua m uc) x by rw [← hm]; exact hx)
  have HYM := hid (show IsWd w (.slice xa n xc) y by rw [← hnn]; exact hy)
  obtain ⟨r, hr⟩ : ∃ r, wrong L [x, y] = r := ⟨_, rfl⟩
  rw [hr, hm, hnn] at hask
  have HASK := hid hask
  have hg := grew_refl W0
  rw [hkk]
  clear hpc hask
  by_cases hr0 : r = 0
  · subst hr0
    obtain ⟨hv1, hw1, hw2⟩ := wrong_two hr
    have hem : isPathM L x y p = if 1000 < k then (false, 0) else (endsAt y (runP (dep L) x p), 0) := by unfold isPathM; rw [if_pos hr, hkk]
    have hl10 : m ≤ 10 := by unfold isW at hw1; simp at hw1; rw [← hm]; exact hw1.1
    rw [hm, hnn]
    by_cases hbig : 1000 < k
    · rw [if_pos hbig] at hem
      have HEM := hid hem
      have hbz : (1000 : Int) < (k : Int) := by omega
      clear hr hx hy hm hnn hkk hv1 hw1 hw2 hem hv
      go_enter Try.func46, Try.ntmps46
      go_wp2_with (go_at_call 64; (with_reducible refine HASK.out.mono ?_); rintro e w1 ⟨rfl, hx⟩; replace hg := grew_trans hg hx; clear hx)
      go_ret2
      exact ⟨by rw [HEM.out]; rfl, grew_trans g0 hg⟩
    · rw [if_neg hbig] at hem
      have hbz : ¬ (1000 : Int) < (k : Int) := by omega
      obtain ⟨R, hR⟩ : ∃ R, runP (dep L) x p = R := ⟨_, rfl⟩
      rw [hR] at hem
      have HEM := hid hem; have HR := hid hR
      clear hr hx hy hm hnn hkk hv1 hw1 hw2 hem hR hv
      go_enter Try.func46, Try.ntmps46
      go_wp2_with (go_at_call 64; (with_reducible refine HASK.out.mono ?_); rintro e w1 ⟨rfl, hx⟩; replace hg := grew_trans hg hx; clear hx)
      go_loopg [11, 13, 27] k (fun gk cu _ i wr => ∃ (j : Nat) (cur : List Int) (ca : Option Addr) (cp : Nat), j ≤ k ∧ i = .int .i64 j ∧ gk = k - j ∧ cu = .slice ca m cp ∧ Hid (runP (dep L) cur (p.drop j) = R) ∧ Hid (cur.length = m) ∧ Hid (IsWd wr (.slice ca m cp) cur) ∧ Hid (Grew W0 wr))
      case atStart => exact ⟨0, x, ua, uc, by omega, rfl, rfl, rfl, hid (by rw [List.drop_zero]; exact HR.out), HM, hid (HXM.out.grew (grew_trans g0 hg)), hid hg⟩
      case round =>
        clear hg
        obtain ⟨j, cur, ca, cp, hj, rfl, hgk, rfl, HRR, HCU, HSG, HG⟩ := hrel
        have HGK := hid hgk; clear hgk
        rename World => wr
        have hgw := grew_trans g0 HG.out
        have HGW := hid hgw
        by_cases hlt : j < k
        · obtain ⟨bb, off, o, rfl, hob, -, hcj0⟩ := HPC.out j hlt
          have hbl := lt_of_obj hob
          have hcj1 := (hgw.cell (p := ⟨bb, off + j, none⟩) hbl).trans hcj0
          have hbl1 := Nat.lt_of_lt_of_le hbl hgw.size
          have kw0 := (HG.out.cell (p := ⟨w.heap.size, 0, none⟩) hz).trans k0
          have kw1 := (HG.out.cell (p := ⟨w.heap.size, 1, none⟩) hz).trans k1
          have hzw := Nat.lt_of_lt_of_le hz HG.out.size
          have hjx : j < p.length := by rw [HKK.out]; exact hlt
          have hst := runP_drop (D := dep L) (x := cur) hjx
          rw [HRR.out] at hst
          obtain ⟨q, hq⟩ : ∃ q, nth p j = q := ⟨_, rfl⟩
          rw [hq] at hst
          simp only [hq] at hcj1
          obtain ⟨cc, hcc⟩ : ∃ c, canM (dep L) cur q = c := ⟨_, rfl⟩
          rw [hcc] at hst
          have HST := hid hst; have HCC := hid hcc
          have h82 := can82_any _ L (.slice ca m cp) cur m q wr HCU.out (by omega) (HV.out.grew hgw) HSG.out.ints
          rw [hcc] at h82
          have H82 := hid h82
          clear hob hcj0 hgw hjx hst hq hcc h82
          cases cc
          · go_wp2_with (go_at_call 82; (with_reducible refine H82.out.mono ?_); rintro e w3 ⟨rfl, hx⟩; have HX := hid hx; clear hx)
            go_ret2
            exact ⟨by rw [HEM.out, HST.out]; rfl, grew_trans HGW.out HX.out⟩
          · obtain ⟨qn, rfl, hql⟩ := canM_pos HCC.out
            have hqm : qn + 1 < m := by rw [HCU.out] at hql; exact hql
            have HQM := hid hqm
            clear hql hqm
            go_wp2_with (first
              | (go_at_call 82; (with_reducible refine H82.out.mono ?_); rintro e w3 ⟨rfl, hx⟩; have HX := hid hx; clear hx)
              | (go_at_call 83; (with_reducible refine (exchanged83_any _ cur m qn _ HCU.out (by omega) HQM.out (HSG.out.grew HX.out).ints).mono ?_); rintro e w4 ⟨u4, rfl, hs4, hx4⟩; have hw4 := wd_seg hs4 ((swapM_length _ _).trans HCU.out); obtain ⟨a4, c4, hu4⟩ := isWd_slice hw4; rw [swapM_length, HCU.out] at hu4; subst hu4; have HW4 := hid hw4; have HX4 := hid hx4; clear hs4 hw4 hx4))
            go_roundg (k - (j + 1))
            case measure => have := HGK.out; omega
            case rel => exact ⟨j + 1, swapM cur qn, a4, c4, by omega, by go_num, rfl, rfl, hid (by rw [HST.out, if_pos trivial, Int.toNat_natCast]), hid ((swapM_length _ _).trans HCU.out), HW4, hid (grew_trans HG.out (grew_trans HX.out HX4.out))⟩
        · obtain rfl : k = j := by omega
          have hfin := HRR.out
          rw [List.drop_of_length_le (by rw [HKK.out]; exact Nat.le_refl _)] at hfin
          have HFIN := hid hfin
          have H23 := hid (sameInts_any (.slice ca m cp) (.slice xa n xc) cur y wr HSG.out.ints (HYM.out.grew HGW.out).ints)
          clear hfin
          go_wp2_with (go_at_call 23; (with_reducible refine H23.out.mono ?_); rintro e w4 ⟨rfl, hx⟩; have HX := hid hx; clear hx)
          go_ret2
          exact ⟨by rw [HEM.out, ← HFIN.out]; rfl, grew_trans HGW.out HX.out⟩
  · have hne : (r != 0) = true := by simpa using hr0
    have HEM := hid (show isPathM L x y p = (false, r) by unfold isPathM; rw [hr, if_neg hr0])
    rw [hm, hnn]
    clear hr hx hy hm hnn hr0 hkk hv
    go_enter Try.func46, Try.ntmps46
    go_wp2_with (go_at_call 64; (with_reducible refine HASK.out.mono ?_); rintro e w1 ⟨rfl, hx⟩; replace hg := grew_trans hg hx; clear hx)
    go_ret2
    exact ⟨by rw [HEM.out]; rfl, grew_trans g0 hg⟩

end Go.Proofs.Ytddnpooffcjhnaa
namespace Go.Proofs.Ytddnpooffcjhnaa
open Go.RowKit Go.Lin Go.Lin.Wv

set_option maxHeartbeats 1000000 in
theorem index88_any (v : Value) (xs : List Int) (b : Int) (w : World) (hx : IsInts Any w v xs) :
    Calls Try.prog 88 #[v, .int .i64 b] w fun e w' => ∃ r : Int, e = .returned (.int .i64 r) ∧ ((r = -1 ∧ ∀ t, t < xs.length → nth xs t ≠ b) ∨ ∃ i : Nat, i < xs.length ∧ r = i ∧ (∀ t, t < i → nth xs t ≠ b) ∧ nth xs i = b) ∧ Grew w w' := by
  obtain ⟨a, cap, rfl, hm, hc⟩ := hx
  have HC := hid hc; clear hc
  go_enter Try.func88, Try.ntmps88
  go_wp2
  go_loopg [5, 8] (xs.length) (fun k _ i wr => ∃ j : Nat, j ≤ xs.length ∧ i = .int .i64 j ∧ k = xs.length - j ∧ Hid (∀ t, t < j → nth xs t ≠ b) ∧ Grew w wr)
  case atStart => exact ⟨0, Nat.zero_le _, rfl, rfl, hid (fun t ht => by omega), grew_refl _⟩
  case round =>
    obtain ⟨j, hj, rfl, hk, HT, hg⟩ := hrel
    have HK := hid hk; clear hk
    by_cases hlt : j < xs.length
    · obtain ⟨bb, off, o, rfl, hb, _, hcj⟩ := HC.out j hlt
      have hbl := lt_of_obj hb
      have hcj0 := (hg.cell (p := ⟨bb, off + j, none⟩) hbl).trans hcj
      have hbl1 := Nat.lt_of_lt_of_le hbl hg.size
      clear hb hcj
      obtain ⟨y, hy⟩ : ∃ y, nth xs j = y := ⟨_, rfl⟩
      have HY := hid hy
      simp only [hy] at hcj0
      clear hy
      by_cases hop : b = y
      · subst hop
        have hdd : (b == b) = true := by simp
        go_wp2
        go_ret
        exact ⟨(j : Int), rfl, .inr ⟨j, hlt, rfl, HT.out, HY.out⟩, hg⟩
      · have hdd : (b == y) = false := by simpa using hop
        have HO := hid hop
        clear hop
        go_wp2
        go_roundg (xs.length - (j + 1))
        case measure => have := HK.out; omega
        case rel =>
          refine ⟨j + 1, by omega, by go_num, rfl, hid (fun t ht => ?_), hg⟩
          rcases Nat.lt_or_ge t j with h | h
          · exact HT.out t h
          · obtain rfl : t = j := by omega
            rw [HY.out]; exact fun e => HO.out e.symm
    · obtain rfl : j = xs.length := by omega
      go_wp2
      go_ret
      exact ⟨-1, rfl, .inl ⟨rfl, HT.out⟩, hg⟩

end Go.Proofs.Ytddnpooffcjhnaa
