/- Walk: slices.Equal (86). Equal, of the program (43) and of the reference (44, 87). IsPath, of the program (47). IsPath, of the reference (46). Walk: slices.Index (88). Plain law: neighbours that do not depend may change places. Path, of the program (45). -/
import Derived.Test.YtddnpooffcjhnaaWvG
import Derived.Test.YtddnpooffcjhnaaWvExchA
import Derived.Test.YtddnpooffcjhnaaWvM
namespace Go.Proofs.Ytddnpooffcjhnaa
open Go.RowKit Go.Lin Go.Lin.Wv

set_option maxHeartbeats 2000000 in
theorem equal86_any (v v' : Value) (l m : List Int) (w : World) (hv : IsInts Any w v l) (hv' : IsInts Any w v' m) :
    Calls Try.prog 86 #[v, v'] w fun e w' => e = .returned (.bool (l == m)) ∧ Grew w w' := by
  obtain ⟨a, cap, rfl, hm, hc⟩ := hv
  obtain ⟨a', cap', rfl, hm', hc'⟩ := hv'
  have HC := hid hc; clear hc
  have HC' := hid hc'; clear hc'
  obtain ⟨r, hr⟩ : ∃ r, (l == m) = r := ⟨_, rfl⟩
  rw [hr]
  have HR := hid hr; clear hr
  obtain ⟨n, hn⟩ : ∃ n, l.length = n := ⟨_, rfl⟩
  obtain ⟨n', hn'⟩ : ∃ n, m.length = n := ⟨_, rfl⟩
  rw [hn] at hm HC ⊢
  rw [hn'] at hm' HC' ⊢
  have HN := hid hn
  have HN' := hid hn'
  by_cases hne : n = n'
  · subst hne
    clear hn hn'
    have hg := grew_refl w
    go_enter Try.func86, Try.ntmps86
    go_wp2
    go_loopg [5, 13] n (fun k _ i wr => ∃ j : Nat, j ≤ n ∧ i = .int .i64 j ∧ k = n - j ∧ Hid (l.take j = m.take j) ∧ Grew w wr)
    case atStart => exact ⟨0, by omega, rfl, rfl, hid (by simp), hg⟩
    case round =>
      clear hg
      obtain ⟨j, hj, rfl, hk, HT, hg⟩ := hrel
      have HK := hid hk; clear hk
      by_cases hlt : j < n
      · obtain ⟨b1, off1, o1, rfl, hb1, _, hcj1⟩ := HC.out j hlt
        obtain ⟨b2, off2, o2, rfl, hb2, _, hcj2⟩ := HC'.out j hlt
        have hbl1 := lt_of_obj hb1
        have hbl2 := lt_of_obj hb2
        have d1 := (hg.cell (p := ⟨b1, off1 + j, none⟩) hbl1).trans hcj1
        have d2 := (hg.cell (p := ⟨b2, off2 + j, none⟩) hbl2).trans hcj2
        clear hb1 hb2 hcj1 hcj2
        by_cases he : nth l j = nth m j
        · have hd : (nth l j != nth m j) = false := by simp [he]
          have HE := hid he; clear he
          go_wp2
          go_quiet (fail)
          go_wp2
          go_roundg (n - (j + 1))
          case measure => have := HK.out; omega
          case rel => exact ⟨j + 1, by omega, by go_num, rfl, hid (take_eq_succ HT.out (by rw [HN.out]; exact hlt) (by rw [HN'.out]; exact hlt) HE.out), grew_drewN hg _⟩
        · have hd : (nth l j != nth m j) = true := by simpa using he
          have HE := hid he; clear he
          go_wp2
          go_quiet (fail)
          go_wp2
          go_ret
          refine ⟨ret_bool (Eq.trans ?_ HR.out), grew_drewN hg _⟩
          symm
          rw [beq_eq_false_iff_ne]
          rintro rfl
          exact HE.out rfl
      · obtain rfl : j = n := by omega
        go_wp2
        go_ret
        refine ⟨ret_bool (Eq.trans ?_ HR.out), hg⟩
        have h1 := HT.out
        rw [List.take_of_length_le (by rw [HN.out]; omega), List.take_of_length_le (by rw [HN'.out]; omega)] at h1
        rw [h1]; simp
  · have hd : ((n : Int) != (n' : Int)) = true := by simp; omega
    have HNE := hid hne
    clear hne hn hn'
    go_enter Try.func86, Try.ntmps86
    go_wp2
    go_ret
    refine ⟨ret_bool (Eq.trans ?_ HR.out), grew_refl _⟩
    symm
    rw [beq_eq_false_iff_ne]
    rintro rfl
    exact HNE.out (HN.out.symm.trans HN'.out)

end Go.Proofs.Ytddnpooffcjhnaa
namespace Go.Lin.Wv
def eqM (L : Lt) (x y : List Int) : Bool × Int := if wrong L [x, y] = 0 then (first (dep L) L.n.toNat x == first (dep L) L.n.toNat y, 0) else (false, wrong L [x, y])
theorem first_beq {L : Lt} {N : Nat} {x y : List Int} (hx : ∀ z ∈ x, 0 ≤ z ∧ z < (N : Int)) (hy : ∀ z ∈ y, 0 ≤ z ∧ z < (N : Int)) : (first (dep L) N x == first (dep L) N y) = (rest (dep L) x y == some []) := by
  rw [Bool.eq_iff_iff, beq_iff_eq, beq_iff_eq, first_iff (dep_refl L) (dep_comm L) hx hy, alike_iff (dep_refl L) (dep_comm L)]
end Go.Lin.Wv
namespace Go.Proofs.Ytddnpooffcjhnaa
open Go.RowKit Go.Lin Go.Lin.Wv

set_option maxHeartbeats 4000000 in
set_option maxRecDepth 20000 in
theorem requal87_any (v : Value) (L : Lt) (uv wv : Value) (x y : List Int) (w : World) (hlen : y.length ≤ 1000) (hv : IsLt w v L) (hx : IsInts Any w uv x) (hy : IsWd w wv y) :
    Calls Try.prog 87 #[v, uv, wv] w fun e w' => e = .returned (.bool (rest (dep L) x y == some [])) ∧ Grew w w' := by
  have h77 := fun (W : World) (hW : Grew w W) => restR_any v L uv wv x y W hlen (hv.grew hW) (Reads.grew hx hW) (hy.grew hW)
  obtain ⟨s, rfl, -⟩ := hv
  obtain ⟨W0, hW0, g0, k0, k1, hz⟩ := box2 w (.int .i64 L.n) s 24
  obtain ⟨q, hq⟩ : ∃ q, rest (dep L) x y = q := ⟨_, rfl⟩
  rw [hq] at h77 ⊢
  clear hq hx hy
  cases q with
  | none =>
    simp only [Option.isSome_none, Option.getD_none] at h77
    have H := hid h77
    clear h77
    go_enter Try.func87, Try.ntmps87
    go_wp2_with (go_at_call 77; (with_reducible refine (H.out _ g0).mono ?_); rintro e w1 ⟨u, rfl, hu, hx⟩; have HX := hid hx; clear hx hu)
    go_ret
    exact ⟨rfl, grew_trans g0 HX.out⟩
  | some l =>
    simp only [Option.isSome_some, Option.getD_some] at h77
    have H := hid h77
    have hb : (some l == some ([] : List Int)) = ((l.length : Int) == 0) := by
      cases l with
      | nil => rfl
      | cons a t => simp; omega
    rw [hb]
    obtain ⟨r, hr⟩ : ∃ r, ((l.length : Int) == 0) = r := ⟨_, rfl⟩
    rw [hr]
    clear h77 hb
    cases r
    all_goals
      go_enter Try.func87, Try.ntmps87
      go_wp2_with (go_at_call 77; (with_reducible refine (H.out _ g0).mono ?_); rintro e w1 ⟨u, rfl, hu, hx⟩; obtain ⟨la, lc, rfl⟩ := isWd_slice hu; have HX := hid hx; clear hx hu)
      go_ret
      exact ⟨rfl, grew_trans g0 HX.out⟩

set_option maxHeartbeats 4000000 in
set_option maxRecDepth 20000 in
theorem equal43_any (v : Value) (L : Lt) (uv wv : Value) (x y : List Int) (w : World) (hn : L.n ≤ 9223372036854775807) (hv : IsLt w v L) (hx : IsWd w uv x) (hy : IsWd w wv y) :
    Calls Try.prog 43 #[v, uv, wv] w fun e w' => e = .returned (.tuple #[.bool (eqM L x y).1, .int .i64 (eqM L x y).2]) ∧ Grew w w' := by
  have HV := hid hv
  obtain ⟨s, rfl, -⟩ := hv
  obtain ⟨ua, uc, rfl⟩ := isWd_slice hx
  obtain ⟨xa, xc, rfl⟩ := isWd_slice hy
  obtain ⟨W0, hW0, g0, k0, k1, hz⟩ := box2 w (.int .i64 L.n) s 24
  obtain ⟨W1, hW1⟩ : ∃ W1, W0.alloc (.cells #[.slice ua x.length uc, .slice xa y.length xc] 25) = W1 := ⟨_, rfl⟩
  have g1 : Grew W0 W1 := by rw [← hW1]; exact grew_alloc (grew_refl _) _
  have g01 := grew_trans g0 g1
  obtain ⟨m, hm⟩ : ∃ m, x.length = m := ⟨_, rfl⟩
  have HM := hid hm
  obtain ⟨n, hnn⟩ : ∃ n, y.length = n := ⟨_, rfl⟩
  have HNN := hid hnn
  have HXM := hid (show IsWd w (.slice ua m uc) x by rw [← hm]; exact hx)
  have HYM := hid (show IsWd w (.slice xa n xc) y by rw [← hnn]; exact hy)
  obtain ⟨r, hr⟩ : ∃ r, wrong L [x, y] = r := ⟨_, rfl⟩
  have HR := hid hr
  have HX := hid hx; have HY := hid hy
  have HG01 := hid g01
  by_cases hr0 : r = 0
  · subst hr0
    obtain ⟨hv1, hw1, hw2⟩ := wrong_two hr
    have hok := newLoom_ok _ L _ [x, y] W1 hn (HV.out.grew g01) (by rw [← hW1]; exact rows_two (Reads.grew hx.ints g0) (Reads.grew hy.ints g0) 25) hr
    have HOK := hid hok
    have HW1 := hid hw1; have HW2 := hid hw2
    rw [hm, hnn] at hW1 ⊢
    clear hr hx hy hm hnn hok hv1 hw1 hw2
    go_enter Try.func43, Try.ntmps43
    go_wp2_with (first
      | (go_at_call 60; (with_reducible refine HOK.out.mono ?_); rintro e w1 ⟨B, N, hN, hN1, hN6, rfl, hB, hL, hg1⟩; have HL := hid hL; have HN := hid hN; have HG1 := hid (grew_trans HG01.out hg1); obtain ⟨hl1, hlw1⟩ := isW_iff hN HW1.out; obtain ⟨hl2, hlw2⟩ := isW_iff hN HW2.out; have HL1 := hid hl1; have HL2 := hid hl2; clear hN hL hg1 hB)
      | (go_at_call 67; (with_reducible refine (first_any (dep L) B N x _ w1 hN6 hlw1 (by omega) HL.out (HXM.out.grew HG1.out)).mono ?_); rintro e w2 ⟨u, rfl, hs2, hg2⟩; have HS2 := hid hs2; have HG2 := hid hg2; clear hs2 hg2)
      | (go_at_call 67; (with_reducible refine (first_any (dep L) B N y _ w2 hN6 hlw2 (by omega) (HL.out.grew HG2.out) (HYM.out.grew (grew_trans HG1.out HG2.out))).mono ?_); rintro e w3 ⟨u3, rfl, hs3, hg3⟩; have HS3 := hid hs3; have HG3 := hid hg3; clear hs3 hg3)
      | (go_at_call 86; (with_reducible refine (equal86_any _ _ (first (dep L) N x) (first (dep L) N y) w3 (IsWd.of_seg (HS2.out.grew HG3.out)).ints (IsWd.of_seg HS3.out).ints).mono ?_); rintro e w4 ⟨rfl, hx⟩; have HG4 := hid hx; clear hx))
    go_ret2
    exact ⟨by unfold eqM; rw [HR.out, if_pos rfl, HN.out, Int.toNat_natCast]; rfl, grew_trans HG1.out (grew_trans HG2.out (grew_trans HG3.out HG4.out))⟩
  · have hbad := newLoom_bad _ L _ [x, y] W1 hn (HV.out.grew g01) (by rw [← hW1]; exact rows_two (Reads.grew hx.ints g0) (Reads.grew hy.ints g0) 25) (by rw [hr]; exact hr0)
    rw [hr] at hbad
    have hne : (r == 0) = false := by simpa using hr0
    have HB := hid hbad; have HR0 := hid hr0
    rw [hm, hnn] at hW1 ⊢
    clear hr hx hy hm hnn hbad hr0
    go_enter Try.func43, Try.ntmps43
    go_wp2_with (go_at_call 60; (with_reducible refine HB.out.mono ?_); rintro e w1 ⟨rfl, hg1⟩; have HG1 := hid (grew_trans HG01.out hg1); clear hg1)
    go_ret2
    exact ⟨by unfold eqM; rw [HR.out, if_neg HR0.out]; rfl, HG1.out⟩

set_option maxHeartbeats 4000000 in
set_option maxRecDepth 20000 in
theorem rEqual44_any (v : Value) (L : Lt) (uv wv : Value) (x y : List Int) (w : World) (hv : IsLt w v L) (hx : IsWd w uv x) (hy : IsWd w wv y) :
    Calls Try.prog 44 #[v, uv, wv] w fun e w' => e = .returned (.tuple #[.bool (eqM L x y).1, .int .i64 (eqM L x y).2]) ∧ Grew w w' := by
  have HV := hid hv
  obtain ⟨s, hveq, -⟩ := id hv
  subst hveq
  obtain ⟨ua, uc, rfl⟩ := isWd_slice hx
  obtain ⟨xa, xc, rfl⟩ := isWd_slice hy
  obtain ⟨W0, hW0, g0, k0, k1, hz⟩ := box2 w (.int .i64 L.n) s 24
  have hask := asked_any _ L _ _ x y W0 (hv.grew g0) (hx.grew g0).ints (hy.grew g0).ints
  obtain ⟨m, hm⟩ : ∃ m, x.length = m := ⟨_, rfl⟩
  have HM := hid hm
  obtain ⟨n, hnn⟩ : ∃ n, y.length = n := ⟨_, rfl⟩
  have HNN := hid hnn
  have HXM := hid (show IsWd w (.slice ua m uc) x by rw [← hm]; exact hx)
  have HYM := hid (show IsWd w (.slice xa n xc) y by rw [← hnn]; exact hy)
  obtain ⟨r, hr⟩ : ∃ r, wrong L [x, y] = r := ⟨_, rfl⟩
  rw [hr] at hask
  have HR := hid hr
  have HX := hid hx; have HY := hid hy
  rw [hm, hnn] at hask
  have HASK := hid hask
  rw [hm, hnn]
  have hg := grew_refl W0
  clear hask hr hx hy hm hnn hv
  by_cases hr0 : r = 0
  · subst hr0
    obtain ⟨hv1, hw1, hw2⟩ := wrong_two HR.out
    obtain ⟨⟨h1, h6⟩, -⟩ := valid_iff hv1
    obtain ⟨N, hN⟩ : ∃ N : Nat, L.n = N := ⟨L.n.toNat, by omega⟩
    have hN6 : N ≤ 6 := by omega
    obtain ⟨hl1, hlw1⟩ := isW_iff hN hw1; obtain ⟨hl2, hlw2⟩ := isW_iff hN hw2
    have HN := hid hN; have HL1 := hid hl1; have HL2 := hid hl2; have HVN := hid (show IsLt w (.agg #[.int .i64 (N : Int), s]) L by rw [← hN]; exact HV.out)
    rw [hN] at hW0 k0 HASK ⊢
    clear hN hv1 hw1 hw2 h1 h6
    go_enter Try.func44, Try.ntmps44
    go_wp2_with (first
      | (go_at_call 64; (with_reducible refine HASK.out.mono ?_); rintro e w1 ⟨rfl, hx⟩; replace hg := grew_trans hg hx; have hc := (bcell hg).1; have HG1 := hid (grew_trans g0 hg); clear hx)
      | (go_at_call 87; (with_reducible refine (requal87_any _ L _ _ x y w1 (by have := HL2.out; omega) (HVN.out.grew HG1.out) (HXM.out.grew HG1.out).ints (HYM.out.grew HG1.out)).mono ?_); rintro e w2 ⟨rfl, hg2⟩; have HG2 := hid hg2; clear hg2))
    go_ret2
    exact ⟨by unfold eqM; rw [HR.out, if_pos rfl, HN.out, Int.toNat_natCast, first_beq hlw1 hlw2]; rfl, grew_trans HG1.out HG2.out⟩
  · have hne : (r != 0) = true := by simpa using hr0
    have HR0 := hid hr0
    clear hr0
    go_enter Try.func44, Try.ntmps44
    go_wp2_with (go_at_call 64; (with_reducible refine HASK.out.mono ?_); rintro e w1 ⟨rfl, hx⟩; have HG1 := hid (grew_trans g0 hx); clear hx)
    go_ret2
    exact ⟨by unfold eqM; rw [HR.out, if_neg HR0.out]; rfl, HG1.out⟩

end Go.Proofs.Ytddnpooffcjhnaa
namespace Go.Lin.Wv
/-- Exchanges, one after the other. -/
def runP (D : Int → Int → Bool) : List Int → List Int → Option (List Int)
  | x, [] => some x
  | x, i :: p => if canM D x i then runP D (swapM x i.toNat) p else none
def endsAt (y : List Int) : Option (List Int) → Bool
  | some c => c == y
  | none => false
def isPathM (L : Lt) (x y p : List Int) : Bool × Int := if wrong L [x, y] = 0 then (if 1000 < p.length then (false, 0) else (endsAt y (runP (dep L) x p), 0)) else (false, wrong L [x, y])

theorem runP_drop {D : Int → Int → Bool} {x p : List Int} {j : Nat} (h : j < p.length) : runP D x (p.drop j) = if canM D x (nth p j) then runP D (swapM x (nth p j).toNat) (p.drop (j + 1)) else none := by
  rw [List.drop_eq_getElem_cons h, ← nth_lt h]; rfl

theorem mem_swapM {x : List Int} {i : Nat} (h : i + 1 < x.length) : ∀ z ∈ swapM x i, z ∈ x := by
  intro z hz
  unfold swapM at hz
  rcases List.mem_or_eq_of_mem_set hz with hz | rfl
  · rcases List.mem_or_eq_of_mem_set hz with hz | rfl
    · exact hz
    · rw [nth_lt h]; exact List.getElem_mem _
  · rw [nth_lt (by omega : i < x.length)]; exact List.getElem_mem _
end Go.Lin.Wv
namespace Go.Proofs.Ytddnpooffcjhnaa
open Go.RowKit Go.Lin Go.Lin.Wv

set_option maxHeartbeats 4000000 in
set_option maxRecDepth 20000 in
theorem isPath47_any (v : Value) (L : Lt) (uv wv pv : Value) (x y p : List Int) (w : World) (hn : L.n ≤ 9223372036854775807) (hv : IsLt w v L) (hx : IsWd w uv x) (hy : IsWd w wv y) (hp : IsWd w pv p) :
    Calls Try.prog 47 #[v, uv, wv, pv] w fun e w' => e = .returned (.tuple #[.bool (isPathM L x y p).1, .int .i64 (isPathM L x y p).2]) ∧ Grew w w' := by
  have HV := hid hv
  obtain ⟨s, rfl, -⟩ := hv
  obtain ⟨ua, uc, rfl⟩ := isWd_slice hx
  obtain ⟨xa, xc, rfl⟩ := isWd_slice hy
  obtain ⟨pa, pc, hpe, -, pa', pc', hpe2, hpm, hpc⟩ := hp
  subst hpe
  obtain ⟨rfl, rfl⟩ : pa = pa' ∧ pc = pc' := by simp at hpe2; exact hpe2
  clear hpe2
  obtain ⟨W0, hW0, g0, k0, k1, hz⟩ := box2 w (.int .i64 L.n) s 24
  obtain ⟨W1, hW1⟩ : ∃ W1, W0.alloc (.cells #[.slice ua x.length uc, .slice xa y.length xc] 25) = W1 := ⟨_, rfl⟩
  have g1 : Grew W0 W1 := by rw [← hW1]; exact grew_alloc (grew_refl _) _
  have g01 := grew_trans g0 g1
  obtain ⟨m, hm⟩ : ∃ m, x.length = m := ⟨_, rfl⟩
  have HM := hid hm
  obtain ⟨n, hnn⟩ : ∃ n, y.length = n := ⟨_, rfl⟩
  obtain ⟨k, hkk⟩ : ∃ n, p.length = n := ⟨_, rfl⟩
  have HKK := hid hkk
  rw [hkk] at hpm hpc
  have HPC := hid hpc
  have HXM := hid (show IsWd w (.slice ua m uc) x by rw [← hm]; exact hx)
  have HYM := hid (show IsWd w (.slice xa n xc) y by rw [← hnn]; exact hy)
  obtain ⟨r, hr⟩ : ∃ r, wrong L [x, y] = r := ⟨_, rfl⟩
  have HG01 := hid g01
  have hrows : IsRows Any W1 (.slice (some ⟨W0.heap.size, 0, none⟩) 2 2) [x, y] := by rw [← hW1]; exact rows_two (Reads.grew hx.ints g0) (Reads.grew hy.ints g0) 25
  rw [hkk]
  clear hpc g1
  by_cases hr0 : r = 0
  · subst hr0
    obtain ⟨hv1, hw1, hw2⟩ := wrong_two hr
    have hok := newLoom_ok _ L _ [x, y] W1 hn (HV.out.grew g01) hrows hr
    have HOK := hid hok
    have HW1 := hid hw1
    have hem : isPathM L x y p = if 1000 < k then (false, 0) else (endsAt y (runP (dep L) x p), 0) := by unfold isPathM; rw [if_pos hr, hkk]
    have hl10 : m ≤ 10 := by unfold isW at hw1; simp at hw1; rw [← hm]; exact hw1.1
    rw [hm, hnn] at hW1 ⊢
    by_cases hbig : 1000 < k
    · rw [if_pos hbig] at hem
      have HEM := hid hem
      have hbz : (1000 : Int) < (k : Int) := by omega
      clear hr hx hy hm hnn hkk hok hv1 hw1 hw2 hem hrows
      go_enter Try.func47, Try.ntmps47
      go_wp2_with (go_at_call 60; (with_reducible refine HOK.out.mono ?_); rintro e w1 ⟨B, N, hN, hN1, hN6, rfl, hB, hL, hg1⟩; have HG1 := hid (grew_trans HG01.out hg1); clear hN hL hg1 hB hN1 hN6)
      go_ret2
      exact ⟨by rw [HEM.out]; rfl, HG1.out⟩
    · rw [if_neg hbig] at hem
      have hbz : ¬ (1000 : Int) < (k : Int) := by omega
      obtain ⟨R, hR⟩ : ∃ R, runP (dep L) x p = R := ⟨_, rfl⟩
      rw [hR] at hem
      have HEM := hid hem; have HR := hid hR
      clear hr hx hy hm hnn hkk hok hv1 hw1 hw2 hem hR hrows
      go_enter Try.func47, Try.ntmps47
      go_wp2_with (first
        | (go_at_call 60; (with_reducible refine HOK.out.mono ?_); rintro e w1 ⟨B, N, hN, hN1, hN6, rfl, hB, hL, hg1⟩; have HL := hid hL; have HN6 := hid hN6; have HG1 := hid (grew_trans HG01.out hg1); obtain ⟨hl1, hlw1⟩ := isW_iff hN HW1.out; have HLW := hid hlw1; clear hN hL hg1 hB hN1 hN6 hl1 hlw1)
        | (go_at_call 80; (with_reducible refine (clone_ints _ m x _ HM.out (by omega) (HXM.out.grew HG1.out).ints).mono ?_); rintro e w2 ⟨u, rfl, hs2, hg2⟩; have HS2 := hid hs2; have HG2 := hid hg2; clear hs2 hg2))
      go_loopg [14, 35] k (fun gk _ i wr => ∃ (j : Nat) (cur : List Int), j ≤ k ∧ i = .int .i64 j ∧ gk = k - j ∧ Hid (runP (dep L) cur (p.drop j) = R) ∧ Hid (cur.length = m ∧ ∀ z ∈ cur, 0 ≤ z ∧ z < (N : Int)) ∧ Hid (Seg wr w1.heap.size 3 1 u m (cur.map (.int .i64))) ∧ Hid (Below w1.heap.size w1 wr))
      case atStart => exact ⟨0, x, by omega, rfl, rfl, hid (by rw [List.drop_zero]; exact HR.out), hid ⟨HM.out, HLW.out⟩, HS2, HG2⟩
      case round =>
        obtain ⟨j, cur, hj, rfl, hgk, HRR, HCU, HSG, HG⟩ := hrel
        have HGK := hid hgk; clear hgk
        rename World => wr
        have hgw := HG1.out.trans (HG.out.mono HG1.out.size)
        have HGW := hid hgw
        by_cases hlt : j < k
        · obtain ⟨bb, off, o, rfl, hob, -, hcj0⟩ := HPC.out j hlt
          have hbl := lt_of_obj hob
          have hcj1 := (hgw.cell (p := ⟨bb, off + j, none⟩) hbl).trans hcj0
          have hbl1 := Nat.lt_of_lt_of_le hbl hgw.size
          have hjx : j < p.length := by rw [HKK.out]; exact hlt
          have hst := runP_drop (D := dep L) (x := cur) hjx
          rw [HRR.out] at hst
          obtain ⟨q, hq⟩ : ∃ q, nth p j = q := ⟨_, rfl⟩
          rw [hq] at hst
          simp only [hq] at hcj1
          obtain ⟨cc, hcc⟩ : ∃ c, canM (dep L) cur q = c := ⟨_, rfl⟩
          rw [hcc] at hst
          have HST := hid hst; have HCC := hid hcc
          have h81 := exchange81_any (D := dep L) B N w1.heap.size u cur m q wr HCU.out.1 HN6.out (by omega) HCU.out.2 (HL.out.grew HG.out) HG.out.size HSG.out
          rw [hcc] at h81
          have H81 := hid h81
          clear hob hcj0 hgw hjx hst hq hcc h81
          cases cc
          · go_wp2_with (go_at_call 81; (with_reducible refine H81.out.mono ?_); rintro e w3 ⟨rfl, hs3, hb3⟩; have HG3 := hid (HG.out.trans hb3); clear hs3 hb3)
            go_ret2
            exact ⟨by rw [HEM.out, HST.out]; rfl, HG1.out.trans (HG3.out.mono HG1.out.size)⟩
          · go_wp2_with (go_at_call 81; (with_reducible refine H81.out.mono ?_); rintro e w3 ⟨rfl, hs3, hb3⟩; have HS3 := hid hs3; have HG3 := hid (HG.out.trans hb3); clear hs3 hb3)
            go_roundg (k - (j + 1))
            case measure => have := HGK.out; omega
            case rel =>
              obtain ⟨qn, hqn, hql⟩ := canM_pos HCC.out
              refine ⟨j + 1, swapM cur q.toNat, by omega, by go_num, rfl, hid (by rw [HST.out]; rfl), hid ⟨(swapM_length _ _).trans HCU.out.1, fun z hz => ?_⟩, hid (by have h3 := HS3.out; rw [exM_yes HCC.out] at h3; exact h3), HG3⟩
              rw [hqn, Int.toNat_natCast] at hz
              exact HCU.out.2 z (mem_swapM hql z hz)
        · obtain rfl : k = j := by omega
          have hfin := HRR.out
          rw [List.drop_of_length_le (by rw [HKK.out]; exact Nat.le_refl _)] at hfin
          have HFIN := hid hfin
          have H86 := hid (equal86_any u (.slice xa n xc) cur y wr (wd_seg HSG.out HCU.out.1).ints (HYM.out.grew HGW.out).ints)
          clear hfin
          go_wp2_with (go_at_call 86; (with_reducible refine H86.out.mono ?_); rintro e w4 ⟨rfl, hx⟩; have HX := hid hx; clear hx)
          go_ret2
          exact ⟨by rw [HEM.out, ← HFIN.out]; rfl, grew_trans HGW.out HX.out⟩
  · have hbad := newLoom_bad _ L _ [x, y] W1 hn (HV.out.grew g01) hrows (by rw [hr]; exact hr0)
    rw [hr] at hbad
    have hne : (r != 0) = true := by simpa using hr0
    have HEM := hid (show isPathM L x y p = (false, r) by unfold isPathM; rw [hr, if_neg hr0])
    have HB := hid hbad
    rw [hm, hnn] at hW1 ⊢
    clear hr hx hy hm hnn hbad hr0 hrows hkk
    go_enter Try.func47, Try.ntmps47
    go_wp2_with (go_at_call 60; (with_reducible refine HB.out.mono ?_); rintro e w1 ⟨rfl, hg1⟩; have HG1 := hid (grew_trans HG01.out hg1); clear hg1)
    go_ret2
    exact ⟨by rw [HEM.out]; rfl, HG1.out⟩

end Go.Proofs.Ytddnpooffcjhnaa
namespace Go.Proofs.Ytddnpooffcjhnaa
open Go.RowKit Go.Lin Go.Lin.Wv

set_option maxHeartbeats 4000000 in
set_option maxRecDepth 20000 in
theorem rIsPath46_any (v : Value) (L : Lt) (uv wv pv : Value) (x y p : List Int) (w : World) (hv : IsLt w v L) (hx : IsWd w uv x) (hy : IsWd w wv y) (hp : IsWd w pv p) :
    Calls Try.prog 46 #[v, uv, wv, pv] w fun e w' => e = .returned (.tuple #[.bool (isPathM L x y p).1, .int .i64 (isPathM L x y p).2]) ∧ Grew w w' := by
  have HV := hid hv
  obtain ⟨s, hveq, -⟩ := id hv
  subst hveq
  obtain ⟨ua, uc, rfl⟩ := isWd_slice hx
  obtain ⟨xa, xc, rfl⟩ := isWd_slice hy
  obtain ⟨pa, pc, hpe, -, pa', pc', hpe2, hpm, hpc⟩ := hp
  subst hpe
  obtain ⟨rfl, rfl⟩ : pa = pa' ∧ pc = pc' := by simp at hpe2; exact hpe2
  clear hpe2
  obtain ⟨W0, hW0, g0, k0, k1, hz⟩ := box2 w (.int .i64 L.n) s 24
  have hask := asked_any _ L _ _ x y W0 (hv.grew g0) (hx.grew g0).ints (hy.grew g0).ints
  obtain ⟨m, hm⟩ : ∃ m, x.length = m := ⟨_, rfl⟩
  have HM := hid hm
  obtain ⟨n, hnn⟩ : ∃ n, y.length = n := ⟨_, rfl⟩
  obtain ⟨k, hkk⟩ : ∃ n, p.length = n := ⟨_, rfl⟩
  have HKK := hid hkk
  rw [hkk] at hpm hpc
  have HPC := hid hpc
  have HXM := hid (show IsWd w (.slice ua m uc) x by rw [← hm]; exact hx)
  have HYM := hid (show IsWd w (.slice xa n xc) y by rw [← hnn]; exact hy)
  obtain ⟨r, hr⟩ : ∃ r, wrong L [x, y] = r := ⟨_, rfl⟩
  rw [hr, hm, hnn] at hask
  have HASK := hid hask
  have hg := grew_refl W0
  rw [hkk]
  clear hpc hask
  by_cases hr0 : r = 0
  · subst hr0
    obtain ⟨hv1, hw1, hw2⟩ := wrong_two hr
    have hem : isPathM L x y p = if 1000 < k then (false, 0) else (endsAt y (runP (dep L) x p), 0) := by unfold isPathM; rw [if_pos hr, hkk]
    have hl10 : m ≤ 10 := by unfold isW at hw1; simp at hw1; rw [← hm]; exact hw1.1
    rw [hm, hnn]
    by_cases hbig : 1000 < k
    · rw [if_pos hbig] at hem
      have HEM := hid hem
      have hbz : (1000 : Int) < (k : Int) := by omega
      clear hr hx hy hm hnn hkk hv1 hw1 hw2 hem hv
      go_enter Try.func46, Try.ntmps46
      go_wp2_with (go_at_call 64; (with_reducible refine HASK.out.mono ?_); rintro e w1 ⟨rfl, hx⟩; replace hg := grew_trans hg hx; clear hx)
      go_ret2
      exact ⟨by rw [HEM.out]; rfl, grew_trans g0 hg⟩
    · rw [if_neg hbig] at hem
      have hbz : ¬ (1000 : Int) < (k : Int) := by omega
      obtain ⟨R, hR⟩ : ∃ R, runP (dep L) x p = R := ⟨_, rfl⟩
      rw [hR] at hem
      have HEM := hid hem; have HR := hid hR
      clear hr hx hy hm hnn hkk hv1 hw1 hw2 hem hR hv
      go_enter Try.func46, Try.ntmps46
      go_wp2_with (go_at_call 64; (with_reducible refine HASK.out.mono ?_); rintro e w1 ⟨rfl, hx⟩; replace hg := grew_trans hg hx; clear hx)
      go_loopg [11, 13, 27] k (fun gk cu _ i wr => ∃ (j : Nat) (cur : List Int) (ca : Option Addr) (cp : Nat), j ≤ k ∧ i = .int .i64 j ∧ gk = k - j ∧ cu = .slice ca m cp ∧ Hid (runP (dep L) cur (p.drop j) = R) ∧ Hid (cur.length = m) ∧ Hid (IsWd wr (.slice ca m cp) cur) ∧ Hid (Grew W0 wr))
      case atStart => exact ⟨0, x, ua, uc, by omega, rfl, rfl, rfl, hid (by rw [List.drop_zero]; exact HR.out), HM, hid (HXM.out.grew (grew_trans g0 hg)), hid hg⟩
      case round =>
        clear hg
        obtain ⟨j, cur, ca, cp, hj, rfl, hgk, rfl, HRR, HCU, HSG, HG⟩ := hrel
        have HGK := hid hgk; clear hgk
        rename World => wr
        have hgw := grew_trans g0 HG.out
        have HGW := hid hgw
        by_cases hlt : j < k
        · obtain ⟨bb, off, o, rfl, hob, -, hcj0⟩ := HPC.out j hlt
          have hbl := lt_of_obj hob
          have hcj1 := (hgw.cell (p := ⟨bb, off + j, none⟩) hbl).trans hcj0
          have hbl1 := Nat.lt_of_lt_of_le hbl hgw.size
          have kw0 := (HG.out.cell (p := ⟨w.heap.size, 0, none⟩) hz).trans k0
          have kw1 := (HG.out.cell (p := ⟨w.heap.size, 1, none⟩) hz).trans k1
          have hzw := Nat.lt_of_lt_of_le hz HG.out.size
          have hjx : j < p.length := by rw [HKK.out]; exact hlt
          have hst := runP_drop (D := dep L) (x := cur) hjx
          rw [HRR.out] at hst
          obtain ⟨q, hq⟩ : ∃ q, nth p j = q := ⟨_, rfl⟩
          rw [hq] at hst
          simp only [hq] at hcj1
          obtain ⟨cc, hcc⟩ : ∃ c, canM (dep L) cur q = c := ⟨_, rfl⟩
          rw [hcc] at hst
          have HST := hid hst; have HCC := hid hcc
          have h82 := can82_any _ L (.slice ca m cp) cur m q wr HCU.out (by omega) (HV.out.grew hgw) HSG.out.ints
          rw [hcc] at h82
          have H82 := hid h82
          clear hob hcj0 hgw hjx hst hq hcc h82
          cases cc
          · go_wp2_with (go_at_call 82; (with_reducible refine H82.out.mono ?_); rintro e w3 ⟨rfl, hx⟩; have HX := hid hx; clear hx)
            go_ret2
            exact ⟨by rw [HEM.out, HST.out]; rfl, grew_trans HGW.out HX.out⟩
          · obtain ⟨qn, rfl, hql⟩ := canM_pos HCC.out
            have hqm : qn + 1 < m := by rw [HCU.out] at hql; exact hql
            have HQM := hid hqm
            clear hql hqm
            go_wp2_with (first
              | (go_at_call 82; (with_reducible refine H82.out.mono ?_); rintro e w3 ⟨rfl, hx⟩; have HX := hid hx; clear hx)
              | (go_at_call 83; (with_reducible refine (exchanged83_any _ cur m qn _ HCU.out (by omega) HQM.out (HSG.out.grew HX.out).ints).mono ?_); rintro e w4 ⟨u4, rfl, hs4, hx4⟩; have hw4 := wd_seg hs4 ((swapM_length _ _).trans HCU.out); obtain ⟨a4, c4, hu4⟩ := isWd_slice hw4; rw [swapM_length, HCU.out] at hu4; subst hu4; have HW4 := hid hw4; have HX4 := hid hx4; clear hs4 hw4 hx4))
            go_roundg (k - (j + 1))
            case measure => have := HGK.out; omega
            case rel => exact ⟨j + 1, swapM cur qn, a4, c4, by omega, by go_num, rfl, rfl, hid (by rw [HST.out, if_pos trivial, Int.toNat_natCast]), hid ((swapM_length _ _).trans HCU.out), HW4, hid (grew_trans HG.out (grew_trans HX.out HX4.out))⟩
        · obtain rfl : k = j := by omega
          have hfin := HRR.out
          rw [List.drop_of_length_le (by rw [HKK.out]; exact Nat.le_refl _)] at hfin
          have HFIN := hid hfin
          have H23 := hid (sameInts_any (.slice ca m cp) (.slice xa n xc) cur y wr HSG.out.ints (HYM.out.grew HGW.out).ints)
          clear hfin
          go_wp2_with (go_at_call 23; (with_reducible refine H23.out.mono ?_); rintro e w4 ⟨rfl, hx⟩; have HX := hid hx; clear hx)
          go_ret2
          exact ⟨by rw [HEM.out, ← HFIN.out]; rfl, grew_trans HGW.out HX.out⟩
  · have hne : (r != 0) = true := by simpa using hr0
    have HEM := hid (show isPathM L x y p = (false, r) by unfold isPathM; rw [hr, if_neg hr0])
    rw [hm, hnn]
    clear hr hx hy hm hnn hr0 hkk hv
    go_enter Try.func46, Try.ntmps46
    go_wp2_with (go_at_call 64; (with_reducible refine HASK.out.mono ?_); rintro e w1 ⟨rfl, hx⟩; replace hg := grew_trans hg hx; clear hx)
    go_ret2
    exact ⟨by rw [HEM.out]; rfl, grew_trans g0 hg⟩

end Go.Proofs.Ytddnpooffcjhnaa
namespace Go.Proofs.Ytddnpooffcjhnaa
open Go.RowKit Go.Lin Go.Lin.Wv

set_option maxHeartbeats 1000000 in
theorem index88_any (v : Value) (xs : List Int) (b : Int) (w : World) (hx : IsInts Any w v xs) :
    Calls Try.prog 88 #[v, .int .i64 b] w fun e w' => ∃ r : Int, e = .returned (.int .i64 r) ∧ ((r = -1 ∧ ∀ t, t < xs.length → nth xs t ≠ b) ∨ ∃ i : Nat, i < xs.length ∧ r = i ∧ (∀ t, t < i → nth xs t ≠ b) ∧ nth xs i = b) ∧ Grew w w' := by
  obtain ⟨a, cap, rfl, hm, hc⟩ := hx
  have HC := hid hc; clear hc
  go_enter Try.func88, Try.ntmps88
  go_wp2
  go_loopg [5, 8] (xs.length) (fun k _ i wr => ∃ j : Nat, j ≤ xs.length ∧ i = .int .i64 j ∧ k = xs.length - j ∧ Hid (∀ t, t < j → nth xs t ≠ b) ∧ Grew w wr)
  case atStart => exact ⟨0, Nat.zero_le _, rfl, rfl, hid (fun t ht => by omega), grew_refl _⟩
  case round =>
    obtain ⟨j, hj, rfl, hk, HT, hg⟩ := hrel
    have HK := hid hk; clear hk
    by_cases hlt : j < xs.length
    · obtain ⟨bb, off, o, rfl, hb, _, hcj⟩ := HC.out j hlt
      have hbl := lt_of_obj hb
      have hcj0 := (hg.cell (p := ⟨bb, off + j, none⟩) hbl).trans hcj
      have hbl1 := Nat.lt_of_lt_of_le hbl hg.size
      clear hb hcj
      obtain ⟨y, hy⟩ : ∃ y, nth xs j = y := ⟨_, rfl⟩
      have HY := hid hy
      simp only [hy] at hcj0
      clear hy
      by_cases hop : b = y
      · subst hop
        have hdd : (b == b) = true := by simp
        go_wp2
        go_ret
        exact ⟨(j : Int), rfl, .inr ⟨j, hlt, rfl, HT.out, HY.out⟩, hg⟩
      · have hdd : (b == y) = false := by simpa using hop
        have HO := hid hop
        clear hop
        go_wp2
        go_roundg (xs.length - (j + 1))
        case measure => have := HK.out; omega
        case rel =>
          refine ⟨j + 1, by omega, by go_num, rfl, hid (fun t ht => ?_), hg⟩
          rcases Nat.lt_or_ge t j with h | h
          · exact HT.out t h
          · obtain rfl : t = j := by omega
            rw [HY.out]; exact fun e => HO.out e.symm
    · obtain rfl : j = xs.length := by omega
      go_wp2
      go_ret
      exact ⟨-1, rfl, .inl ⟨rfl, HT.out⟩, hg⟩

end Go.Proofs.Ytddnpooffcjhnaa
namespace Go.Lin.Wv

theorem swapM_cons (z : Int) (x : List Int) (k : Nat) : swapM (z :: x) (k + 1) = z :: swapM x k := by simp [swapM, nth]
theorem swapM_zero (a c : Int) (q : List Int) : swapM (a :: c :: q) 0 = c :: a :: q := by simp [swapM, nth]

theorem swapM_alike {D : Int → Int → Bool} (hr : ∀ a, D a a = true) (hs : ∀ a b, D a b = D b a) : ∀ (k : Nat) (x : List Int), k + 1 < x.length → D (nth x k) (nth x (k + 1)) = false → Alike D x (swapM x k)
  | 0, [], h, _ => by simp at h
  | 0, [_], h, _ => by simp at h
  | 0, a :: c :: q, _, hd => by
    rw [swapM_zero]
    have h1 : Alike D ([a] ++ [c]) ([c] ++ [a]) := pass_word hr hs (fun u hu v hv => by
      rw [List.mem_singleton.1 hu, List.mem_singleton.1 hv]; simpa [nth] using hd)
    exact h1.append (Alike.refl q)
  | k + 1, [], h, _ => by simp at h
  | k + 1, z :: x, h, hd => by
    rw [swapM_cons]
    have h1 := swapM_alike hr hs k x (by simp at h; omega) (by simpa [nth] using hd)
    exact (Alike.refl [z]).append h1

/-- What exchanges lead to is alike. -/
theorem runP_alike {D : Int → Int → Bool} (hr : ∀ a, D a a = true) (hs : ∀ a b, D a b = D b a) : ∀ (p : List Int) (x c : List Int), runP D x p = some c → Alike D x c
  | [], x, c, h => by simp only [runP, Option.some.injEq] at h; subst h; exact Alike.refl _
  | i :: p, x, c, h => by
    unfold runP at h
    split at h
    · rename_i hc
      obtain ⟨k, rfl, hk⟩ := canM_pos hc
      rw [canM_true hk] at hc
      have h1 := swapM_alike hr hs k x hk (by simpa using hc)
      exact h1.trans (runP_alike hr hs p _ c (by simpa using h))
    · cases h

theorem runP_append {D : Int → Int → Bool} : ∀ (p q x : List Int), runP D x (p ++ q) = (runP D x p).bind (fun c => runP D c q)
  | [], q, x => rfl
  | i :: p, q, x => by
    show (if canM D x i then runP D (swapM x i.toNat) (p ++ q) else none) = ((if canM D x i then runP D (swapM x i.toNat) p else none).bind fun c => runP D c q)
    split
    · exact runP_append p q _
    · rfl

/-- The inner loop of Path: the letter at k + d is brought to k. -/
def downP (k : Nat) : Nat → List Int
  | 0 => []
  | d + 1 => ((k + d : Nat) : Int) :: downP k d
def downM (x : List Int) (k : Nat) : Nat → List Int
  | 0 => x
  | d + 1 => downM (swapM x (k + d)) k d

theorem nth_swapM {x : List Int} {i t : Nat} (h : i + 1 < x.length) : nth (swapM x i) t = if t = i then nth x (i + 1) else if t = i + 1 then nth x i else nth x t := by
  unfold swapM nth
  simp only [List.getD, List.getElem?_set, List.length_set]
  by_cases h1 : t = i
  · subst h1; rw [if_neg (by omega)]; simp [show t < x.length by omega]
  · by_cases h2 : t = i + 1
    · subst h2; simp [h]
    · simp [h1, h2, show ¬ i = t by omega, show ¬ i + 1 = t by omega]

/-- If no letter from k to k + d depends on the one at k + d, it can be brought to k; what lies before k stays. -/
theorem down_ok {D : Int → Int → Bool} (b : Int) (k : Nat) : ∀ (d : Nat) (x : List Int), k + d < x.length → nth x (k + d) = b → (∀ t, k ≤ t → t < k + d → D (nth x t) b = false) →
    runP D x (downP k d) = some (downM x k d) ∧ (downM x k d).length = x.length ∧ nth (downM x k d) k = b ∧ ∀ t, t < k → nth (downM x k d) t = nth x t
  | 0, x, h, hb, _ => ⟨rfl, rfl, hb, fun _ _ => rfl⟩
  | d + 1, x, h, hb, hd => by
    have hk : k + d + 1 < x.length := by omega
    have hc : canM D x ((k + d : Nat) : Int) = true := by
      rw [canM_true hk, show k + d + 1 = k + (d + 1) by omega, hb, hd (k + d) (by omega) (by omega)]; rfl
    obtain ⟨h1, h2, h3, h4⟩ := down_ok (D := D) b k d (swapM x (k + d)) (by rw [swapM_length]; omega) (by rw [nth_swapM hk, if_pos rfl, show k + d + 1 = k + (d + 1) by omega]; exact hb)
      (fun t ht1 ht2 => by rw [nth_swapM hk, if_neg (by omega), if_neg (by omega)]; exact hd t ht1 (by omega))
    refine ⟨?_, h2.trans (swapM_length _ _), h3, fun t ht => ?_⟩
    · show (if canM D x ((k + d : Nat) : Int) then runP D (swapM x ((k + d : Nat) : Int).toNat) (downP k d) else none) = _
      rw [if_pos hc, Int.toNat_natCast]; exact h1
    · show nth (downM (swapM x (k + d)) k d) t = nth x t
      rw [h4 t ht, nth_swapM hk, if_neg (by omega), if_neg (by omega)]

theorem free_before {D : Int → Int → Bool} {a : Int} : ∀ {w : List Int} {i : Nat}, free D w a = some i → i < w.length ∧ nth w i = a ∧ ∀ t, t < i → nth w t ≠ a ∧ D a (nth w t) = false
  | [], i, h => by simp [free] at h
  | c :: w, i, h => by
    unfold free at h
    split at h
    · rename_i hc
      simp only [Option.some.injEq] at h
      subst h
      exact ⟨by simp, by simpa [nth] using hc, fun t ht => by omega⟩
    · rename_i hc
      split at h
      · cases h
      · rename_i hd
        obtain ⟨j, hj, rfl⟩ := Option.map_eq_some_iff.1 h
        obtain ⟨h1, h2, h3⟩ := free_before hj
        refine ⟨by simp; omega, by simpa [nth] using h2, fun t ht => ?_⟩
        cases t with
        | zero => exact ⟨by simpa [nth] using hc, by simpa [nth] using hd⟩
        | succ t => have := h3 t (by omega); simpa [nth] using this

theorem take_nth {x y : List Int} {k : Nat} (hx : k ≤ x.length) (hy : k ≤ y.length) (h : ∀ t, t < k → nth x t = nth y t) : x.take k = y.take k := by
  apply List.ext_getElem?
  intro t
  by_cases ht : t < k
  · rw [List.getElem?_take_of_lt ht, List.getElem?_take_of_lt ht, List.getElem?_eq_getElem (by omega), List.getElem?_eq_getElem (by omega), ← nth_lt (by omega), ← nth_lt (by omega), h t ht]
  · rw [List.getElem?_eq_none (by rw [List.length_take]; omega), List.getElem?_eq_none (by rw [List.length_take]; omega)]

/-- One round of Path: letter k of y is found behind k, nothing before it hinders it, and it is brought to k. -/
theorem path_step {D : Int → Int → Bool} (hr : ∀ a, D a a = true) (hs : ∀ a b, D a b = D b a) {cur y : List Int} {k : Nat} (hk : k < y.length) (ha : Alike D cur y) (ht : ∀ t, t < k → nth cur t = nth y t) :
    ∃ d, k + d < cur.length ∧ (∀ t, t < d → nth cur (k + t) ≠ nth y k) ∧ nth cur (k + d) = nth y k ∧ runP D cur (downP k d) = some (downM cur k d) ∧ (downM cur k d).length = cur.length ∧ Alike D (downM cur k d) y ∧ ∀ t, t < k + 1 → nth (downM cur k d) t = nth y t := by
  have hl := ha.length hr
  have h1 : Alike D (cur.drop k) (y.drop k) := by
    have h2 := ha
    rw [← List.take_append_drop k cur, ← List.take_append_drop k y, take_nth (by omega) (by omega) ht] at h2
    exact h2.cancel
  have hy : y.drop k = nth y k :: y.drop (k + 1) := by rw [List.drop_eq_getElem_cons hk, ← nth_lt hk]
  have h3 : (free D (y.drop k) (nth y k)).isSome = true := by rw [hy]; simp [free]
  rw [free_iff hr] at h3
  have h4 : (free D (cur.drop k) (nth y k)).isSome = true := by
    rw [free_iff hr]
    intro c hc
    rw [h1 _ c hc]
    exact h3 c hc
  obtain ⟨d, hd⟩ := Option.isSome_iff_exists.1 h4
  obtain ⟨f1, f2, f3⟩ := free_before hd
  have hn : ∀ t, nth (cur.drop k) t = nth cur (k + t) := fun t => by unfold nth; simp [List.getD, List.getElem?_drop]
  rw [List.length_drop] at f1
  rw [hn] at f2
  obtain ⟨g1, g2, g3, g4⟩ := down_ok (D := D) (nth y k) k d cur (by omega) f2 (fun t t1 t2 => by
    have := (f3 (t - k) (by omega)).2
    rw [hn, show k + (t - k) = t by omega, hs] at this
    exact this)
  refine ⟨d, by omega, fun t h => by have := (f3 t h).1; rwa [hn] at this, f2, g1, g2, (runP_alike hr hs _ _ _ g1).symm.trans ha, fun t h => ?_⟩
  by_cases htk : t < k
  · rw [g4 t htk]; exact ht t htk
  · obtain rfl : t = k := by omega
    exact g3

theorem downP_length (k : Nat) : ∀ d, (downP k d).length = d
  | 0 => rfl
  | d + 1 => by show (downP k d).length + 1 = d + 1; rw [downP_length k d]

end Go.Lin.Wv
namespace Go.Lin.Wv
/-- 0 + 1 + .. + (n - 1). -/
def tri : Nat → Nat
  | 0 => 0
  | n + 1 => n + tri n
theorem tri_le {n : Nat} (h : n ≤ 10) : tri n ≤ 45 := by
  have : n = 0 ∨ n = 1 ∨ n = 2 ∨ n = 3 ∨ n = 4 ∨ n = 5 ∨ n = 6 ∨ n = 7 ∨ n = 8 ∨ n = 9 ∨ n = 10 := by omega
  rcases this with h | h | h | h | h | h | h | h | h | h | h <;> subst h <;> decide
theorem tri_step {n j d : Nat} (h : j + d < n) : d + tri (n - (j + 1)) ≤ tri (n - j) := by
  obtain ⟨r, hr⟩ : ∃ r, n - j = r + 1 := ⟨n - j - 1, by omega⟩
  rw [hr, show n - (j + 1) = r by omega]
  show d + tri r ≤ r + tri r
  omega

/-- What Path answers: the exchanges that lead from x to y, at most 45, or that there is no way. -/
def PathSays (L : Lt) (x y path : List Int) (e : Int) : Prop :=
  (wrong L [x, y] ≠ 0 ∧ path = [] ∧ e = wrong L [x, y]) ∨
  (wrong L [x, y] = 0 ∧ first (dep L) L.n.toNat x ≠ first (dep L) L.n.toNat y ∧ path = [] ∧ e = 5) ∨
  (wrong L [x, y] = 0 ∧ first (dep L) L.n.toNat x = first (dep L) L.n.toNat y ∧ e = 0 ∧ path.length ≤ 45 ∧ runP (dep L) x path = some y)

/-- The inner loop, from its middle: d steps are left. -/
theorem downM_succ (x : List Int) (k d : Nat) : downM x k (d + 1) = downM (swapM x (k + d)) k d := rfl
theorem downP_succ (k d : Nat) : downP k (d + 1) = ((k + d : Nat) : Int) :: downP k d := rfl
end Go.Lin.Wv

namespace Go.Proofs.Ytddnpooffcjhnaa
open Go.RowKit Go.Lin Go.Lin.Wv

theorem runP_down {D : Int → Int → Bool} {cur fin : List Int} {k d : Nat} (h : runP D cur (downP k (d + 1)) = some fin) : canM D cur ((k + d : Nat) : Int) = true ∧ runP D (swapM cur (k + d)) (downP k d) = some fin := by
  rw [downP_succ] at h
  unfold runP at h
  split at h
  · rename_i hc; rw [Int.toNat_natCast] at h; exact ⟨hc, h⟩
  · cases h

theorem runP_snoc {D : Int → Int → Bool} {x p cur : List Int} {k : Nat} (h : runP D x p = some cur) (hc : canM D cur (k : Int) = true) : runP D x (p ++ [(k : Int)]) = some (swapM cur k) := by
  rw [runP_append, h]
  show (if canM D cur (k : Int) then runP D (swapM cur (k : Int).toNat) [] else none) = some (swapM cur k)
  rw [if_pos hc, Int.toNat_natCast]; rfl

theorem wd_cell {w : World} {a : Option Addr} {n c : Nat} {xs : List Int} (h : IsWd w (.slice a n c) xs) (j : Nat) (hj : j < n) : ∃ b off o, a = some ⟨b, off, none⟩ ∧ w.heap[b]? = some o ∧ w.cell? ⟨b, off + j, none⟩ = some (.int .i64 (nth xs j)) := by
  obtain ⟨a1, c1, h1, _, a2, c2, h2, _, hc⟩ := h
  simp only [Value.slice.injEq] at h1 h2
  obtain ⟨rfl, rfl, rfl⟩ := h1
  obtain ⟨rfl, -, rfl⟩ := h2
  obtain ⟨b, off, o, e1, e2, _, e3⟩ := hc j hj
  exact ⟨b, off, o, e1, e2, e3⟩

theorem index88_at (g off cap n j d : Nat) (cur : List Int) (b : Int) (w : World) (hn : cur.length = n) (hR : IsInts Any w (.slice (some ⟨g, off, none⟩) n cap) cur) (hj : j + d < n) (h1 : ∀ t, t < d → nth cur (j + t) ≠ b) (h2 : nth cur (j + d) = b) (c : Nat) :
    Calls Try.prog 88 #[.slice (some ⟨g, off + j, none⟩) (n - j) c, .int .i64 b] w fun e w' => e = .returned (.int .i64 (d : Int)) ∧ Grew w w' := by
  have hR2 : Reads Any w (.slice (some ⟨g, off, none⟩) n cap) n (fun i => .int .i64 (nth cur i)) := by rw [← hn] at hR ⊢; exact hR
  have hp := part_ints hR2 hn j (n - j) c (by omega)
  have hl : (cur.drop j).take (n - j) = cur.drop j := List.take_of_length_le (by rw [List.length_drop, hn]; exact Nat.le_refl _)
  rw [hl, List.length_drop, hn] at hp
  have hnt : ∀ t, nth (cur.drop j) t = nth cur (j + t) := fun t => by unfold nth; simp [List.getD, List.getElem?_drop]
  refine (index88_any _ (cur.drop j) b w hp).mono fun e w' ⟨r, he, hr, hg⟩ => ⟨?_, hg⟩
  rw [he]
  rcases hr with ⟨_, h⟩ | ⟨i, hi, rfl, hi1, hi2⟩
  · exact absurd (by rw [hnt]; exact h2) (h d (by rw [List.length_drop, hn]; omega))
  · have : i = d := by
      rcases Nat.lt_trichotomy i d with h | h | h
      · exact absurd (by rw [← hnt]; exact hi2) (h1 i h)
      · exact h
      · exact absurd (by rw [hnt]; exact h2) (hi1 d h)
    rw [this]

set_option maxHeartbeats 8000000 in
set_option maxRecDepth 20000 in
theorem path45_any (v : Value) (L : Lt) (uv wv : Value) (x y : List Int) (w : World) (hn : L.n ≤ 9223372036854775807) (hv : IsLt w v L) (hx : IsWd w uv x) (hy : IsWd w wv y) :
    Calls Try.prog 45 #[v, uv, wv] w fun e w' => ∃ u path E, e = .returned (.tuple #[u, .int .i64 E]) ∧ PathSays L x y path E ∧ IsWd w' u path ∧ Grew w w' := by
  have HV := hid hv
  obtain ⟨s, rfl, -⟩ := hv
  obtain ⟨ua, uc, rfl⟩ := isWd_slice hx
  obtain ⟨xa, xc, rfl⟩ := isWd_slice hy
  obtain ⟨W0, hW0, g0, k0, k1, hz⟩ := box2 w (.int .i64 L.n) s 24
  obtain ⟨W1, hW1⟩ : ∃ W1, W0.alloc (.cells #[.slice ua x.length uc, .slice xa y.length xc] 25) = W1 := ⟨_, rfl⟩
  have g1 : Grew W0 W1 := by rw [← hW1]; exact grew_alloc (grew_refl _) _
  have g01 := grew_trans g0 g1
  obtain ⟨m, hm⟩ : ∃ m, x.length = m := ⟨_, rfl⟩
  have HM := hid hm
  obtain ⟨n, hnn⟩ : ∃ n, y.length = n := ⟨_, rfl⟩
  have HNN := hid hnn
  have HXM := hid (show IsWd w (.slice ua m uc) x by rw [← hm]; exact hx)
  have HYM := hid (show IsWd w (.slice xa n xc) y by rw [← hnn]; exact hy)
  obtain ⟨r, hr⟩ : ∃ r, wrong L [x, y] = r := ⟨_, rfl⟩
  have HR := hid hr
  have HG01 := hid g01
  by_cases hr0 : r = 0
  · subst hr0
    obtain ⟨hv1, hw1, hw2⟩ := wrong_two hr
    have hok := newLoom_ok _ L _ [x, y] W1 hn (HV.out.grew g01) (by rw [← hW1]; exact rows_two (Reads.grew hx.ints g0) (Reads.grew hy.ints g0) 25) hr
    have HOK := hid hok
    have HW1 := hid hw1; have HW2 := hid hw2; have HV1 := hid hv1
    rw [hm, hnn] at hW1 ⊢
    obtain ⟨q, hq⟩ : ∃ q, (first (dep L) L.n.toNat x == first (dep L) L.n.toNat y) = q := ⟨_, rfl⟩
    have HQ := hid hq
    clear hr hx hy hm hnn hok hv1 hw1 hw2 hq
    cases q
    · go_enter Try.func45, Try.ntmps45
      go_wp2_with (first
        | (go_at_call 60; (with_reducible refine HOK.out.mono ?_); rintro e w1 ⟨B, N, hN, hN1, hN6, rfl, hB, hL, hg1⟩; have HL := hid hL; have HN := hid hN; have HG1 := hid (grew_trans HG01.out hg1); obtain ⟨hl1, hlw1⟩ := isW_iff hN HW1.out; obtain ⟨hl2, hlw2⟩ := isW_iff hN HW2.out; have HL1 := hid hl1; have HL2 := hid hl2; clear hN hL hg1 hB)
        | (go_at_call 67; (with_reducible refine (first_any (dep L) B N x _ w1 hN6 hlw1 (by omega) HL.out (HXM.out.grew HG1.out)).mono ?_); rintro e w2 ⟨u, rfl, hs2, hg2⟩; have HS2 := hid hs2; have HG2 := hid hg2; clear hs2 hg2)
        | (go_at_call 67; (with_reducible refine (first_any (dep L) B N y _ w2 hN6 hlw2 (by omega) (HL.out.grew HG2.out) (HYM.out.grew (grew_trans HG1.out HG2.out))).mono ?_); rintro e w3 ⟨u3, rfl, hs3, hg3⟩; have HS3 := hid hs3; have HG3 := hid hg3; clear hs3 hg3)
        | (go_at_call 86; (with_reducible refine (equal86_any _ _ (first (dep L) N x) (first (dep L) N y) w3 (IsWd.of_seg (HS2.out.grew HG3.out)).ints (IsWd.of_seg HS3.out).ints).mono ?_); rintro e w4 ⟨rfl, hx⟩; have HG4 := hid hx; have hqq := HQ.out; rw [HN.out, Int.toNat_natCast] at hqq; rw [hqq]; have HQQ := hid hqq; clear hx hqq))
      go_ret2
      refine ⟨_, [], 5, rfl, .inr (.inl ⟨HR.out, ?_, rfl, rfl⟩), wd_nil _, grew_trans HG1.out (grew_trans HG2.out (grew_trans HG3.out HG4.out))⟩
      intro e
      have h := HQ.out
      rw [e, beq_self_eq_true] at h
      cases h
    · obtain ⟨N0, hN0⟩ : ∃ N0 : Nat, L.n = N0 := ⟨L.n.toNat, by have := (valid_iff HV1.out).1.1; omega⟩
      have hal : Wv.Alike (dep L) x y := by
        have h := HQ.out
        rw [hN0, Int.toNat_natCast, beq_iff_eq] at h
        exact (first_iff (dep_refl L) (dep_comm L) (isW_iff hN0 HW1.out).2 (isW_iff hN0 HW2.out).2).1 h
      have HAL := hid hal
      have hmn : m = n := by rw [← HM.out, ← HNN.out]; exact hal.length (dep_refl L)
      have hn10 : n ≤ 10 := by rw [← HNN.out]; exact (isW_iff hN0 HW2.out).1
      subst hmn
      have HT45 := hid (tri_le hn10)
      clear hal hN0 N0
      go_enter Try.func45, Try.ntmps45
      go_wp2_with (first
        | (go_at_call 60; (with_reducible refine HOK.out.mono ?_); rintro e w1 ⟨B, N, hN, hN1, hN6, rfl, hB, hL, hg1⟩; have HL := hid hL; have HN := hid hN; have HG1 := hid (grew_trans HG01.out hg1); obtain ⟨hl1, hlw1⟩ := isW_iff hN HW1.out; obtain ⟨hl2, hlw2⟩ := isW_iff hN HW2.out; have HL1 := hid hl1; have HL2 := hid hl2; have HLW := hid hlw1; clear hN hL hg1 hB)
        | (go_at_call 67; (with_reducible refine (first_any (dep L) B N x _ w1 hN6 hlw1 (by omega) HL.out (HXM.out.grew HG1.out)).mono ?_); rintro e w2 ⟨u, rfl, hs2, hg2⟩; have HS2 := hid hs2; have HG2 := hid hg2; clear hs2 hg2)
        | (go_at_call 67; (with_reducible refine (first_any (dep L) B N y _ w2 hN6 hlw2 (by omega) (HL.out.grew HG2.out) (HYM.out.grew (grew_trans HG1.out HG2.out))).mono ?_); rintro e w3 ⟨u3, rfl, hs3, hg3⟩; have HS3 := hid hs3; have HG3 := hid hg3; clear hs3 hg3 hlw1 hlw2)
        | (go_at_call 86; (with_reducible refine (equal86_any _ _ (first (dep L) N x) (first (dep L) N y) w3 (IsWd.of_seg (HS2.out.grew HG3.out)).ints (IsWd.of_seg HS3.out).ints).mono ?_); rintro e w4 ⟨rfl, hx⟩; have HG4 := hid (grew_trans HG1.out (grew_trans HG2.out (grew_trans HG3.out hx))); have HL4 := hid (HL.out.grew (grew_trans HG2.out (grew_trans HG3.out hx))); have hqq := HQ.out; rw [HN.out, Int.toNat_natCast] at hqq; rw [hqq]; clear hx hqq)
        | (go_at_call 80; (with_reducible refine (clone_ints _ m x w4 HM.out (by omega) (HXM.out.grew HG4.out).ints).mono ?_); rintro e w5 ⟨u5, rfl, hs5, hg5⟩; have HS5 := hid hs5; have HG5 := hid hg5; clear hs5 hg5))
      have HUB := hid (fun k (e : u5.ownBlock = some k) => (HS5.out.own k e).1)
      have HUS := hid (fun k (e : u5.ownBlock = some k) => (HS5.out.own k e).2.1)
      go_loopg [10, 12, 13, 14, 40] m (fun gk out _ _ _ i wr => ∃ (j c : Nat) (cur path : List Int), j ≤ m ∧ i = .int .i64 j ∧ gk = m - j ∧ c ≤ 45 ∧ Hid (path.length = c) ∧ Hid (c + tri (m - j) ≤ tri m) ∧ Hid (runP (dep L) x path = some cur) ∧ Hid (Wv.Alike (dep L) cur y) ∧ Hid (∀ t, t < j → nth cur t = nth y t) ∧ Hid (cur.length = m ∧ ∀ z ∈ cur, 0 ≤ z ∧ z < (N : Int)) ∧ Hid (Seg wr w4.heap.size 3 1 u5 m (cur.map (.int .i64))) ∧ Hid (Seg wr w5.heap.size 3 1 out c (path.map (.int .i64))) ∧ Hid (Below w4.heap.size w4 wr) ∧ Hid (w5.heap.size ≤ wr.heap.size))
      case atStart => exact ⟨0, 0, x, [], by omega, rfl, rfl, by omega, hid rfl, hid (by simp), hid rfl, HAL, hid (fun t ht => by omega), hid ⟨HM.out, HLW.out⟩, HS5, hid (Seg.nil _ _ _ _), HG5, hid (Nat.le_refl _)⟩
      case round =>
        obtain ⟨j, c, cur, path, hj, rfl, hgk, hc45, HPL, HTR, HRP, HAC, HNT, HCU, HSU, HSP, HBL, HSZ⟩ := hrel
        have HGK := hid hgk; clear hgk
        rename World => wr
        have hgw := grew_trans HG4.out HBL.out
        have HGW := hid hgw
        by_cases hlt : j < m
        · obtain ⟨by', yoff, yo, rfl, hyo, hyc⟩ := wd_cell HYM.out j hlt
          have hyl := lt_of_obj hyo
          have hyc1 := (hgw.cell (p := ⟨by', yoff + j, none⟩) hyl).trans hyc
          have hyl1 := Nat.lt_of_lt_of_le hyl hgw.size
          obtain ⟨b, hb⟩ : ∃ b, nth y j = b := ⟨_, rfl⟩
          rw [hb] at hyc1
          obtain ⟨d, p1, p2, p3, p4, p5, p6, p7⟩ := path_step (dep_refl L) (dep_comm L) (k := j) (by rw [HNN.out]; exact hlt) HAC.out HNT.out
          rw [hb] at p2 p3
          rw [HCU.out.1] at p1
          obtain ⟨g, off, cap, obj, rfl, hbg, hgc, hncap, hcapm, -⟩ := HSU.out.at (by omega)
          have hix := index88_at g off cap m j d cur b wr HCU.out.1 (by have h := isInts_any HSU.out; exact h) p1 p2 p3
          have HIX := hid hix
          have HP4 := hid p4; have HP6 := hid p6; have HP7 := hid p7
          have hwr : IntKind.i64.wrap ((j : Int) + (d : Int)) = (j : Int) + (d : Int) := IntWalk.i64_in _ (by omega)
          have hcj : ¬ cap ≤ j := by omega
          clear hyo hyc hgw hix p2 p3 p4 p5 p6 p7 hb
          go_wp2_with (go_at_call 88; (with_reducible refine (HIX.out _).mono ?_); rintro e w6 ⟨rfl, hx⟩; have HX6 := hid hx; clear hx)
          have hcnd := runP_append (D := dep L) path (downP j d) x
          have htri := tri_step (n := m) (j := j) (d := d) p1
          obtain ⟨fin, hfin⟩ : ∃ fin, downM cur j d = fin := ⟨_, rfl⟩
          rw [hfin] at HP4 HP6 HP7
          obtain ⟨T, hT⟩ : ∃ T, tri (m - (j + 1)) = T := ⟨_, rfl⟩
          have HT := hid hT
          have hcdT : c + d + T ≤ tri m := by have := HTR.out; rw [hT] at htri; omega
          have hcd : c + d ≤ 45 := by have := HT45.out; omega
          have HCDT := hid hcdT
          have HFIN := hid hfin
          have hoff : ∀ k, (Value.slice (some (⟨g, off, none⟩ : Addr)) m cap).ownBlock = some k → k = g := fun k e => by simp [Value.ownBlock] at e; exact e.symm
          have hgu := HUS.out g rfl
          have HGL4 := hid (HL4.out.grew HBL.out)
          clear hcnd htri hfin hT hcdT hgc hncap hcapm hyl hyc1 hyl1 hwr hcj
          go_loopg [10, 14] d (fun gk2 out2 kk wr2 => ∃ (q c2 : Nat) (z : Int) (cur2 path2 : List Int), q ≤ d ∧ gk2 = q ∧ kk = .int .i64 z ∧ Hid (z = ((j + q : Nat) : Int)) ∧ c2 ≤ 45 ∧ Hid (c2 + q = c + d) ∧ Hid (path2.length = c2) ∧ Hid (runP (dep L) x path2 = some cur2) ∧ Hid (downM cur2 j q = fin ∧ runP (dep L) cur2 (downP j q) = some fin) ∧ Hid (cur2.length = m ∧ ∀ z ∈ cur2, 0 ≤ z ∧ z < (N : Int)) ∧ Hid (Seg wr2 w4.heap.size 3 1 (.slice (some ⟨g, off, none⟩) m cap) m (cur2.map (.int .i64))) ∧ Hid (Seg wr2 w5.heap.size 3 1 out2 c2 (path2.map (.int .i64))) ∧ Hid (Below w4.heap.size w4 wr2) ∧ Hid (w5.heap.size ≤ wr2.heap.size))
          case atStart => exact ⟨d, c, (j : Int) + (d : Int), cur, path, Nat.le_refl _, rfl, rfl, hid (by omega), hc45, hid rfl, HPL, HRP, hid ⟨HFIN.out, HP4.out⟩, HCU, hid (HSU.out.grew HX6.out), hid (HSP.out.grew HX6.out), hid (HBL.out.trans (HX6.out.mono HBL.out.size)), hid (Nat.le_trans HSZ.out HX6.out.size)⟩
          case round =>
            clear HPL HTR HRP HAC HNT HCU HSU HSP HBL HSZ HX6 HP4 hc45
            obtain ⟨q, c2, z, cur2, path2, hq, hgk2, rfl, HZ, hc2, HC2, HPL, HRP, HDN, HCU, HSU, HSP, HBL, HSZ⟩ := hrel
            rename World => wr2
            have HGK2 := hid hgk2; clear hgk2
            rcases q with _ | q
            · have hz0 : z = (j : Int) := HZ.out
              subst hz0
              go_wp2
              go_roundg (m - (j + 1))
              case measure => have := HGK.out; omega
              case rel =>
                have hf : cur2 = fin := HDN.out.1
                subst hf
                exact ⟨j + 1, c2, cur2, path2, by omega, by go_num, rfl, hc2, HPL, hid (by have h1 := HC2.out; have h2 := HCDT.out; rw [HT.out]; omega), HRP, HP6, HP7, HCU, HSU, HSP, HBL, HSZ⟩
            · have hzz : z = ((j + (q + 1) : Nat) : Int) := HZ.out
              have hz0 : 0 ≤ z := by omega
              have hz10 : z ≤ 100 := by omega
              have hlt2 : (j : Int) < z := by omega
              have hzk : z - 1 = ((j + q : Nat) : Int) := by omega
              obtain ⟨hcan, hdn⟩ := runP_down HDN.out.2
              have hex := exchange81_keeps (D := dep L) B N w4.heap.size (.slice (some ⟨g, off, none⟩) m cap) cur2 m (z - 1) wr2 HCU.out.1 hN6 (by omega) HCU.out.2 (HL4.out.grew HBL.out) HBL.out.size HSU.out
              rw [hzk, hcan, ← hzk] at hex
              have hexm : exM (dep L) cur2 (z - 1) = swapM cur2 (j + q) := by rw [hzk, exM_yes hcan, Int.toNat_natCast]
              rw [hexm] at hex
              have HEX := hid hex; have HCAN := hid hcan; have HZK := hid hzk; have HDN2 := hid hdn
              obtain ⟨vs, hvs⟩ : ∃ vs, path2.map (Value.int .i64) = vs := ⟨_, rfl⟩
              have HVS := hid hvs
              rw [hvs] at HSP
              clear hvs hzz hex hexm hzk hcan hdn
              go_wp2_with (first
                | (go_at_call 81; (with_reducible refine HEX.out.mono ?_); rintro e w7 ⟨rfl, hs7, hk7⟩; have HS7 := hid hs7; have HK7 := hid hk7; have hseg := HSP.out.keeps hk7 (fun k o e _ h => by have h2 := hoff k h; have := (HSP.out.own k e).1; omega); have hsz7 := hk7.size; have hz57 := HSZ.out; clear hs7 hk7)
                | (at_builtin; go_loud (refine wpList_append_one rfl _ _ 25 rfl w5.heap.size 3 Try.underlying25 Try.info3 rfl (by decide) _ c2 _ rfl (hseg.alloc _) _ _ _ rfl (one_new _ _ _) rfl (by omega) ?_ ?_); (simp only [World.size_alloc]; omega); intro v9 w9 hown9 hgrow9 hblk9; have HGR9 := hid hgrow9; clear hgrow9 hblk9))
              have hk9 := ((Keeps.refl (fun k _ => u10.ownBlock = some k) w7).alloc (.cells #[.int .i64 (z - 1)] 3)).trans (keeps_of_grown HGR9.out)
              have HK9 := hid hk9
              have HSG9 := hid hseg
              have hb7 : Below w4.heap.size wr2 w7 := HK7.out.below HBL.out.size (fun k o e => by rw [hoff k e]; exact hbg)
              have hb9 : Below w4.heap.size w7 w9 := HK9.out.below (Nat.le_trans HBL.out.size HK7.out.size) (fun k o e => Nat.le_trans HG5.out.size ((HSG9.out.own k e).1))
              have HB9 := hid ((HBL.out.trans hb7).trans hb9)
              clear hk9 hseg hb7 hb9
              go_roundg q
              case measure => have := HGK2.out; omega
              case rel =>
                refine ⟨q, c2 + 1, z - 1, swapM cur2 (j + q), path2 ++ [z - 1], by omega, rfl, rfl, HZK, by have := HC2.out; omega, hid (by have := HC2.out; omega), hid (by rw [List.length_append, HPL.out]; rfl), hid (by rw [HZK.out]; exact runP_snoc HRP.out HCAN.out), hid ⟨HDN.out.1, HDN2.out⟩, hid ⟨(swapM_length _ _).trans HCU.out.1, fun t ht => HCU.out.2 t (mem_swapM (by rw [HCU.out.1]; omega) t ht)⟩, hid (HS7.out.keeps HK9.out (fun k o e _ h => by have h2 := hoff k e; have := (HSG9.out.own k h).1; omega)), hid (by rw [List.map_append, HVS.out]; exact hown9), HB9, hid (Nat.le_trans HSZ.out (Nat.le_trans HK7.out.size HK9.out.size))⟩
        · obtain rfl : j = m := by omega
          have hcy : cur = y := by
            refine ext_nth (by rw [HCU.out.1, HNN.out]) (fun i hi => HNT.out i (by rw [HCU.out.1] at hi; exact hi))
          subst hcy
          go_wp2
          go_ret2
          exact ⟨_, path, 0, rfl, .inr (.inr ⟨HR.out, beq_iff_eq.1 HQ.out, rfl, by rw [HPL.out]; exact hc45, HRP.out⟩), wd_seg HSP.out HPL.out, HGW.out⟩
  · have hbad := newLoom_bad _ L _ [x, y] W1 hn (HV.out.grew g01) (by rw [← hW1]; exact rows_two (Reads.grew hx.ints g0) (Reads.grew hy.ints g0) 25) (by rw [hr]; exact hr0)
    rw [hr] at hbad
    have hne : (r != 0) = true := by simpa using hr0
    have HB := hid hbad; have HR0 := hid hr0
    rw [hm, hnn] at hW1 ⊢
    clear hr hx hy hm hnn hbad hr0
    go_enter Try.func45, Try.ntmps45
    go_wp2_with (go_at_call 60; (with_reducible refine HB.out.mono ?_); rintro e w1 ⟨rfl, hg1⟩; have HG1 := hid (grew_trans HG01.out hg1); clear hg1)
    go_ret2
    exact ⟨_, [], r, rfl, .inl ⟨by rw [HR.out]; exact HR0.out, rfl, HR.out.symm⟩, wd_nil _, HG1.out⟩

end Go.Proofs.Ytddnpooffcjhnaa
