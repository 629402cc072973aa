/- Starts, First of the reference (57, 56); Turned, of both (50, 58). -/
import Derived.Test.YtddnpooffcjhnaaWvRev
import Derived.Test.YtddnpooffcjhnaaWvStarts
import Derived.Test.YtddnpooffcjhnaaWvPt
namespace Go.Lin.Wv
def turnedM (L : Lt) (x : List Int) : List Int × Int := if wrong L [x] = 0 then (first (dep L) L.n.toNat x.reverse, 0) else ([], wrong L [x])
end Go.Lin.Wv
namespace Go.Proofs.Ytddnpooffcjhnaa
open Go.RowKit Go.Lin Go.Lin.Wv

theorem wd_first3 {L : Lt} {N : Nat} {y : List Int} {w' : World} {b : Nat} {u : Value} (hy : ∀ z ∈ y, 0 ≤ z ∧ z < (N : Int)) (h : Seg w' b 3 1 u y.length ((first (dep L) N y).map (.int .i64))) : IsWd w' u (first (dep L) N y) := by
  have e : y.length = (first (dep L) N y).length := (alike_first (dep_comm L) hy).length (dep_refl L)
  rw [e] at h
  exact IsWd.of_seg h

set_option maxHeartbeats 4000000 in
set_option maxRecDepth 20000 in
theorem rStarts57_any (v : Value) (L : Lt) (uv : Value) (x : List Int) (w : World) (hv : IsLt w v L) (hx : IsWd w uv x) :
    Calls Try.prog 57 #[v, uv] w fun e w' => Gives e w w' (startsM L x) := by
  have HV := hid hv
  obtain ⟨s, hveq, -⟩ := id hv
  subst hveq
  obtain ⟨ua, uc, rfl⟩ := isWd_slice hx
  obtain ⟨W0, hW0, g0, k0, k1, hz⟩ := box2 w (.int .i64 L.n) s 24
  have hask := asked_any _ L _ (.slice none 0 0) x [] W0 (hv.grew g0) (hx.grew g0).ints (Reads.nil _ _ _ _ _)
  rw [wrong_nil] at hask
  obtain ⟨m, hm⟩ : ∃ m, x.length = m := ⟨_, rfl⟩
  have HM := hid hm
  have HXM := hid (show IsWd w (.slice ua m uc) x by rw [← hm]; exact hx)
  
  obtain ⟨r, hr⟩ : ∃ r, wrong L [x] = r := ⟨_, rfl⟩
  rw [hr] at hask
  have HR := hid hr
  have HX := hid hx
  rw [hm] at hask
  have HASK := hid hask
  rw [hm]
  have hg := grew_refl W0
  clear hask hr hx hm hv
  by_cases hr0 : r = 0
  · subst hr0
    obtain ⟨hv1, hw1⟩ := wrong_one HR.out
    obtain ⟨⟨h1, h6⟩, -⟩ := valid_iff hv1
    obtain ⟨N, hN⟩ : ∃ N : Nat, L.n = N := ⟨L.n.toNat, by omega⟩
    have hN6 : N ≤ 6 := by omega
    obtain ⟨hl1, hlw1⟩ := isW_iff hN hw1
    have HN := hid hN; have HL1 := hid hl1; have HVN := hid (show IsLt w (.agg #[.int .i64 (N : Int), s]) L by rw [← hN]; exact HV.out)
    rw [hN] at hW0 k0 HASK ⊢
    clear hN hv1 hw1 h1 h6
    go_enter Try.func57, Try.ntmps57
    go_wp2_with (first
      | (go_at_call 64; (with_reducible refine HASK.out.mono ?_); rintro e w1 ⟨rfl, hx⟩; replace hg := grew_trans hg hx; have hc := (bcell hg).1; have HG1 := hid (grew_trans g0 hg); clear hx)
      | (go_at_call 94; (with_reducible refine (rStarts_any _ L _ x N w1 HN.out hN6 (HVN.out.grew HG1.out) (HXM.out.grew HG1.out).ints).mono ?_); rintro e w2 ⟨u, rfl, hs2, hg2⟩; have HS2 := hid hs2; have HG2 := hid hg2; clear hs2 hg2))
    go_ret2
    refine ⟨u, ?_, ?_, grew_trans HG1.out HG2.out⟩
    · rw [show (startsM L x).2 = 0 by unfold startsM; rw [HR.out, if_pos rfl]]; rfl
    · rw [show (startsM L x).1 = starts (dep L) N x by unfold startsM; rw [HR.out, if_pos rfl, HN.out, Int.toNat_natCast]]; exact IsWd.of_seg HS2.out
  · have hne : (r != 0) = true := by simpa using hr0
    have HR0 := hid hr0
    clear hr0
    go_enter Try.func57, Try.ntmps57
    go_wp2_with (go_at_call 64; (with_reducible refine HASK.out.mono ?_); rintro e w1 ⟨rfl, hx⟩; have HG1 := hid (grew_trans g0 hx); clear hx)
    go_ret2
    exact ⟨_, by rw [show (startsM L x).2 = r by unfold startsM; rw [HR.out, if_neg HR0.out]]; rfl, by rw [show (startsM L x).1 = [] by unfold startsM; rw [HR.out, if_neg HR0.out]]; exact wd_nil _, HG1.out⟩

set_option maxHeartbeats 4000000 in
set_option maxRecDepth 20000 in
theorem rFirst56_any (v : Value) (L : Lt) (uv : Value) (x : List Int) (w : World) (hv : IsLt w v L) (hx : IsWd w uv x) :
    Calls Try.prog 56 #[v, uv] w fun e w' => Gives e w w' (firstM L x) := by
  have HV := hid hv
  obtain ⟨s, hveq, -⟩ := id hv
  subst hveq
  obtain ⟨ua, uc, rfl⟩ := isWd_slice hx
  obtain ⟨W0, hW0, g0, k0, k1, hz⟩ := box2 w (.int .i64 L.n) s 24
  have hask := asked_any _ L _ (.slice none 0 0) x [] W0 (hv.grew g0) (hx.grew g0).ints (Reads.nil _ _ _ _ _)
  rw [wrong_nil] at hask
  obtain ⟨m, hm⟩ : ∃ m, x.length = m := ⟨_, rfl⟩
  have HM := hid hm
  have HXM := hid (show IsWd w (.slice ua m uc) x by rw [← hm]; exact hx)
  
  obtain ⟨r, hr⟩ : ∃ r, wrong L [x] = r := ⟨_, rfl⟩
  rw [hr] at hask
  have HR := hid hr
  have HX := hid hx
  rw [hm] at hask
  have HASK := hid hask
  rw [hm]
  have hg := grew_refl W0
  clear hask hr hx hm hv
  by_cases hr0 : r = 0
  · subst hr0
    obtain ⟨hv1, hw1⟩ := wrong_one HR.out
    obtain ⟨⟨h1, h6⟩, -⟩ := valid_iff hv1
    obtain ⟨N, hN⟩ : ∃ N : Nat, L.n = N := ⟨L.n.toNat, by omega⟩
    have hN6 : N ≤ 6 := by omega
    obtain ⟨hl1, hlw1⟩ := isW_iff hN hw1
    have HN := hid hN; have HL1 := hid hl1; have HVN := hid (show IsLt w (.agg #[.int .i64 (N : Int), s]) L by rw [← hN]; exact HV.out)
    rw [hN] at hW0 k0 HASK ⊢
    clear hN hv1 hw1 h1 h6
    go_enter Try.func56, Try.ntmps56
    go_wp2_with (first
      | (go_at_call 64; (with_reducible refine HASK.out.mono ?_); rintro e w1 ⟨rfl, hx⟩; replace hg := grew_trans hg hx; have hc := (bcell hg).1; have HG1 := hid (grew_trans g0 hg); clear hx)
      | (go_at_call 69; (with_reducible refine (rFirst_any _ L _ x N w1 HN.out hN6 hlw1 (by have := HL1.out; omega) (HVN.out.grew HG1.out) (HXM.out.grew HG1.out)).mono ?_); rintro e w2 ⟨u, rfl, hs2, hg2⟩; have HS2 := hid hs2; have HG2 := hid hg2; clear hs2 hg2))
    go_ret2
    refine ⟨u, ?_, ?_, grew_trans HG1.out HG2.out⟩
    · rw [show (firstM L x).2 = 0 by unfold firstM; rw [HR.out, if_pos rfl]]; rfl
    · rw [show (firstM L x).1 = first (dep L) N x by unfold firstM; rw [HR.out, if_pos rfl, HN.out, Int.toNat_natCast]]; exact wd_first3 hlw1 HS2.out
  · have hne : (r != 0) = true := by simpa using hr0
    have HR0 := hid hr0
    clear hr0
    go_enter Try.func56, Try.ntmps56
    go_wp2_with (go_at_call 64; (with_reducible refine HASK.out.mono ?_); rintro e w1 ⟨rfl, hx⟩; have HG1 := hid (grew_trans g0 hx); clear hx)
    go_ret2
    exact ⟨_, by rw [show (firstM L x).2 = r by unfold firstM; rw [HR.out, if_neg HR0.out]]; rfl, by rw [show (firstM L x).1 = [] by unfold firstM; rw [HR.out, if_neg HR0.out]]; exact wd_nil _, HG1.out⟩

set_option maxHeartbeats 4000000 in
set_option maxRecDepth 20000 in
theorem turned50_any (v : Value) (L : Lt) (uv : Value) (x : List Int) (w : World) (hn : L.n ≤ 9223372036854775807) (hv : IsLt w v L) (hx : IsWd w uv x) :
    Calls Try.prog 50 #[v, uv] w fun e w' => Gives e w w' (turnedM L x) := by
  have HV := hid hv
  obtain ⟨s, rfl, -⟩ := hv
  obtain ⟨ua, uc, rfl⟩ := isWd_slice hx
  obtain ⟨W0, hW0, g0, k0, k1, hz⟩ := box2 w (.int .i64 L.n) s 24
  obtain ⟨W1, hW1⟩ : ∃ W1, W0.alloc (.cells #[.slice ua x.length uc] 25) = W1 := ⟨_, rfl⟩
  have g1 : Grew W0 W1 := by rw [← hW1]; exact grew_alloc (grew_refl _) _
  have g01 := grew_trans g0 g1
  obtain ⟨m, hm⟩ : ∃ m, x.length = m := ⟨_, rfl⟩
  have HM := hid hm
  have HXM := hid (show IsWd w (.slice ua m uc) x by rw [← hm]; exact hx)
  
  obtain ⟨r, hr⟩ : ∃ r, wrong L [x] = r := ⟨_, rfl⟩
  have HR := hid hr
  have HX := hid hx
  have HG01 := hid g01
  by_cases hr0 : r = 0
  · subst hr0
    obtain ⟨hv1, hw1⟩ := wrong_one hr
    have hok := newLoom_ok _ L _ [x] W1 hn (HV.out.grew g01) (by rw [← hW1]; exact rows_one (Reads.grew hx.ints g0) 25) hr
    have HOK := hid hok
    have HW1 := hid hw1
    rw [hm] at hW1 ⊢
    clear hr hx hm hok hv1 hw1
    go_enter Try.func50, Try.ntmps50
    go_wp2_with (first
      | (go_at_call 60; (with_reducible refine HOK.out.mono ?_); rintro e w1 ⟨B, N, hN, hN1, hN6, rfl, hB, hL, hg1⟩; have HL := hid hL; have HN := hid hN; have HG1 := hid (grew_trans HG01.out hg1); obtain ⟨hl1, hlw1⟩ := isW_iff hN HW1.out; have HL1 := hid hl1; clear hN hL hg1 hB)
      | (go_at_call 80; (with_reducible refine (clone_ints _ m x w1 HM.out (by have := HL1.out; have := HM.out; omega) (HXM.out.grew HG1.out).ints).mono ?_); rintro e w2 ⟨u2, rfl, hs2, hg2⟩; have HS2 := hid hs2; have HG2 := hid hg2; have HRV := hid (reverse91_any w1.heap.size u2 x m w2 HM.out (by have := HL1.out; have := HM.out; omega) hg2.size hs2); clear hs2 hg2)
      | (go_at_call 91; (with_reducible refine HRV.out.mono ?_); rintro e w3 ⟨rfl, hs3, hk3⟩; have HS3 := hid hs3; have HG3 := hid (show Grew w1 w3 from HG2.out.trans (hk3.below HG2.out.size (fun k o e => (HS2.out.own k e).1))); clear hs3 hk3)
      | (go_at_call 67; (with_reducible refine (first_any (dep L) B N x.reverse _ w3 hN6 (fun z hz => hlw1 z (List.mem_reverse.1 hz)) (by rw [List.length_reverse]; have := HL1.out; omega) (HL.out.grew HG3.out) (IsWd.of_seg HS3.out)).mono ?_); rintro e w4 ⟨u4, rfl, hs4, hg4⟩; have HS4 := hid hs4; have HG4 := hid hg4; clear hs4 hg4))
    go_ret2
    refine ⟨u4, ?_, ?_, grew_trans HG1.out (grew_trans HG3.out HG4.out)⟩
    · rw [show (turnedM L x).2 = 0 by unfold turnedM; rw [HR.out, if_pos rfl]]; rfl
    · rw [show (turnedM L x).1 = first (dep L) N x.reverse by unfold turnedM; rw [HR.out, if_pos rfl, HN.out, Int.toNat_natCast]]; exact IsWd.of_seg HS4.out
  · have hbad := newLoom_bad _ L _ [x] W1 hn (HV.out.grew g01) (by rw [← hW1]; exact rows_one (Reads.grew hx.ints g0) 25) (by rw [hr]; exact hr0)
    rw [hr] at hbad
    have hne : (r != 0) = true := by simpa using hr0
    have HB := hid hbad; have HR0 := hid hr0
    rw [hm] at hW1 ⊢
    clear hr hx hm hbad hr0
    go_enter Try.func50, Try.ntmps50
    go_wp2_with (go_at_call 60; (with_reducible refine HB.out.mono ?_); rintro e w1 ⟨rfl, hg1⟩; have HG1 := hid (grew_trans HG01.out hg1); clear hg1)
    go_ret2
    exact ⟨_, by rw [show (turnedM L x).2 = r by unfold turnedM; rw [HR.out, if_neg HR0.out]]; rfl, by rw [show (turnedM L x).1 = [] by unfold turnedM; rw [HR.out, if_neg HR0.out]]; exact wd_nil _, HG1.out⟩

set_option maxHeartbeats 4000000 in
set_option maxRecDepth 20000 in
theorem rTurned58_any (v : Value) (L : Lt) (uv : Value) (x : List Int) (w : World) (hv : IsLt w v L) (hx : IsWd w uv x) :
    Calls Try.prog 58 #[v, uv] w fun e w' => Gives e w w' (turnedM L x) := by
  have HV := hid hv
  obtain ⟨s, hveq, -⟩ := id hv
  subst hveq
  obtain ⟨ua, uc, rfl⟩ := isWd_slice hx
  obtain ⟨W0, hW0, g0, k0, k1, hz⟩ := box2 w (.int .i64 L.n) s 24
  have hask := asked_any _ L _ (.slice none 0 0) x [] W0 (hv.grew g0) (hx.grew g0).ints (Reads.nil _ _ _ _ _)
  rw [wrong_nil] at hask
  obtain ⟨m, hm⟩ : ∃ m, x.length = m := ⟨_, rfl⟩
  have HM := hid hm
  have HXM := hid (show IsWd w (.slice ua m uc) x by rw [← hm]; exact hx)
  
  obtain ⟨r, hr⟩ : ∃ r, wrong L [x] = r := ⟨_, rfl⟩
  rw [hr] at hask
  have HR := hid hr
  have HX := hid hx
  rw [hm] at hask
  have HASK := hid hask
  rw [hm]
  have hg := grew_refl W0
  clear hask hr hx hm hv
  by_cases hr0 : r = 0
  · subst hr0
    obtain ⟨hv1, hw1⟩ := wrong_one HR.out
    obtain ⟨⟨h1, h6⟩, -⟩ := valid_iff hv1
    obtain ⟨N, hN⟩ : ∃ N : Nat, L.n = N := ⟨L.n.toNat, by omega⟩
    have hN6 : N ≤ 6 := by omega
    obtain ⟨hl1, hlw1⟩ := isW_iff hN hw1
    have HN := hid hN; have HL1 := hid hl1; have HVN := hid (show IsLt w (.agg #[.int .i64 (N : Int), s]) L by rw [← hN]; exact HV.out)
    rw [hN] at hW0 k0 HASK ⊢
    have hm10 : (m : Int) ≤ 10 := by rw [← HM.out]; omega
    clear hN hv1 hw1 h1 h6
    go_enter Try.func58, Try.ntmps58
    go_wp2_with (first
      | (go_at_call 64; (with_reducible refine HASK.out.mono ?_); rintro e w1 ⟨rfl, hx⟩; replace hg := grew_trans hg hx; have hc := (bcell hg).1; have HG1 := hid (grew_trans g0 hg); clear hx)
      | (fail))
    have HG0 := hid hg
    clear hg hc
    go_loopg [7, 8] m (fun gk out i wr => ∃ (j : Nat) (z : Int), j ≤ m ∧ i = .int .i64 z ∧ Hid (gk = m - j) ∧ Hid (z = (m : Int) - 1 - j) ∧ Hid (Seg wr w1.heap.size 3 1 out j ((x.reverse.take j).map (.int .i64))) ∧ Hid (Grew w1 wr))
    case atStart => exact ⟨0, (m : Int) - 1, by omega, rfl, hid rfl, hid (by omega), hid (Seg.nil _ _ _ _), hid (grew_refl _)⟩
    case round =>
      obtain ⟨j, z, hj, rfl, HK, HZ, HSG, HGW⟩ := hrel
      rename World => wr
      have hzz := HZ.out
      have hgw := grew_trans HG1.out HGW.out
      by_cases hlt : j < m
      · obtain ⟨k, rfl⟩ : ∃ k : Nat, z = k := ⟨z.toNat, by omega⟩
        obtain ⟨b, off, o, rfl, hob, hcb⟩ := wd_cell HXM.out k (by omega)
        have hbl := lt_of_obj hob
        have hcb1 := (hgw.cell (p := ⟨b, off + k, none⟩) hbl).trans hcb
        have hbl1 := Nat.lt_of_lt_of_le hbl hgw.size
        obtain ⟨a, ha⟩ : ∃ a, nth x k = a := ⟨_, rfl⟩
        rw [ha] at hcb1
        have hst : x.reverse.take (j + 1) = x.reverse.take j ++ [a] := by
          have hjr : j < x.reverse.length := by rw [List.length_reverse, HM.out]; exact hlt
          rw [take_succ_nth hjr, ← ha]
          have : nth x.reverse j = nth x k := by
            rw [nth_lt hjr, List.getElem_reverse, nth_lt (by rw [HM.out]; omega)]
            simp only [HM.out, show m - 1 - j = k by omega]
          rw [this]
        have HST := hid hst
        obtain ⟨vs, hvs⟩ : ∃ vs, (x.reverse.take j).map (Value.int .i64) = vs := ⟨_, rfl⟩
        have HVS := hid hvs
        rw [hvs] at HSG
        have hk0 : (0 : Int) ≤ (k : Int) := by omega
        have hkm : (k : Int) < (m : Int) := by omega
        have hk10 : (k : Int) ≤ 10 := by omega
        have hw1 := HGW.out.size
        have hj9 : j < 1000000000 := by have := HL1.out; have := HM.out; omega
        have HW := hid hgw
        clear hob hcb ha hst hvs hzz hgw
        go_wp2_with (at_builtin; go_loud (refine wpList_append_one rfl _ _ 25 rfl w1.heap.size 3 Try.underlying25 Try.info3 rfl (by decide) _ j _ rfl (HSG.out.alloc _) _ _ _ rfl (one_new _ _ _) rfl hj9 ?_ ?_); (simp only [World.size_alloc]; omega); intro v9 w9 hown9 hgrow9 hblk9; have HGR9 := hid hgrow9; clear hgrow9 hblk9)
        have hk9 := ((Keeps.refl (fun k _ => u7.ownBlock = some k) wr).alloc (.cells #[.int .i64 a] 3)).trans (keeps_of_grown HGR9.out)
        have hb9 : Below w1.heap.size wr w9 := hk9.below (by omega) (fun k o e => (HSG.out.own k e).1)
        have HW9 := hid (show Grew w1 w9 from HGW.out.trans hb9)
        clear hk9 hb9
        go_roundg (m - (j + 1))
        case measure => have := HK.out; omega
        case rel => exact ⟨j + 1, (k : Int) - 1, by omega, rfl, hid rfl, hid (by have := HZ.out; omega), hid (by rw [HST.out, List.map_append, HVS.out]; exact hown9), HW9⟩
      · obtain rfl : j = m := by omega
        have hzn : ¬ (0 : Int) ≤ z := by omega
        have hfull : x.reverse.take j = x.reverse := List.take_of_length_le (by rw [List.length_reverse, HM.out]; exact Nat.le_refl _)
        have hsg := HSG.out
        rw [hfull] at hsg
        have HSG2 := hid hsg
        have kw0 := ((grew_trans HG0.out HGW.out).cell (p := ⟨w.heap.size, 0, none⟩) hz).trans k0
        have kw1 := ((grew_trans HG0.out HGW.out).cell (p := ⟨w.heap.size, 1, none⟩) hz).trans k1
        have hzw := Nat.lt_of_lt_of_le hz (grew_trans HG0.out HGW.out).size
        clear hsg hfull
        go_wp2_with (go_at_call 69; (with_reducible refine (rFirst_any _ L _ x.reverse N wr HN.out hN6 (fun z hz => hlw1 z (List.mem_reverse.1 hz)) (by rw [List.length_reverse]; have := HL1.out; omega) (HVN.out.grew hgw) (IsWd.of_seg HSG2.out)).mono ?_); rintro e w4 ⟨u4, rfl, hs4, hg4⟩; have HS4 := hid hs4; have HG4 := hid hg4; clear hs4 hg4)
        go_ret2
        refine ⟨u4, ?_, ?_, grew_trans hgw HG4.out⟩
        · rw [show (turnedM L x).2 = 0 by unfold turnedM; rw [HR.out, if_pos rfl]]; rfl
        · rw [show (turnedM L x).1 = first (dep L) N x.reverse by unfold turnedM; rw [HR.out, if_pos rfl, HN.out, Int.toNat_natCast]]
          have h := HS4.out
          have hlf : x.reverse.length = (first (dep L) N x.reverse).length := (alike_first (dep_comm L) (fun z hz => hlw1 z (List.mem_reverse.1 hz))).length (dep_refl L)
          rw [hlf] at h
          exact IsWd.of_seg h
  · have hne : (r != 0) = true := by simpa using hr0
    have HR0 := hid hr0
    clear hr0
    go_enter Try.func58, Try.ntmps58
    go_wp2_with (go_at_call 64; (with_reducible refine HASK.out.mono ?_); rintro e w1 ⟨rfl, hx⟩; have HG1 := hid (grew_trans g0 hx); clear hx)
    go_ret2
    exact ⟨_, by rw [show (turnedM L x).2 = r by unfold turnedM; rw [HR.out, if_neg HR0.out]]; rfl, by rw [show (turnedM L x).1 = [] by unfold turnedM; rw [HR.out, if_neg HR0.out]]; exact wd_nil _, HG1.out⟩

end Go.Proofs.Ytddnpooffcjhnaa
