/- The law WeaveSizes: the size of a class is the sum of those of what is left behind each first letter; the class has as many words, all of it and in order; the turned word's class is as great. -/
import Derived.Test.YtddnpooffcjhnaaWvBefore
import Derived.Test.YtddnpooffcjhnaaWvClass
namespace Go.Proofs.Ytddnpooffcjhnaa
open Go.RowKit Go.Lin Go.Lin.Wv

theorem byte_of_wf {x : Int} (h : (Lit.int .u8 x).wf = true) : 0 ≤ x ∧ x ≤ 255 := by
  simp [Lit.wf, IntKind.min, IntKind.max, IntKind.signed, IntKind.bits] at h
  exact ⟨by omega, by omega⟩

theorem wd_lit (w : World) (a : Int) : IsWd (w.alloc (.cells #[.int .i64 a] 3)) (.slice (some ⟨w.heap.size, 0, none⟩) 1 1) [a] :=
  IsWd.of_seg (base := 0) (n := 1) (xs := [a]) (Seg.lit w 0 3 1 #[.int .i64 a] (Nat.zero_le _) rfl)

theorem rest_one {L : Lt} {N : Nat} (hN : L.n = N) (hv : valid L = true) {x : List Int} (gx : GoodW N x) {a : Int} (ha : a ∈ starts (dep L) N x) :
    restM L [a] x = (first (dep L) N (rem (dep L) x a), 0) ∧ GoodW N (first (dep L) N (rem (dep L) x a)) ∧ sizeM (dep L) N (first (dep L) N (rem (dep L) x a)) = sizeM (dep L) N (rem (dep L) x a) := by
  obtain ⟨h1, h2⟩ := mem_starts.1 ha
  obtain ⟨i, hi⟩ := Option.isSome_iff_exists.1 h2
  obtain ⟨hil, -⟩ := free_lt hi
  have ga : GoodW N [a] := ⟨by simp, fun z hz => by rw [List.mem_singleton] at hz; subst hz; exact h1⟩
  have gr : GoodW N (rem (dep L) x a) := ⟨by have := rem_length h2; have := gx.len; omega, fun z hz => gx.ok z (rem_sub hz)⟩
  refine ⟨?_, gr.first, (sizeM_alike (dep_refl L) (dep_comm L) N (alike_first (dep_comm L) gr.ok)).symm⟩
  unfold restM
  rw [if_pos (good_wrong hv hN (by simp; exact ⟨ga, gx⟩))]
  unfold rest
  rw [hi]
  unfold rest restO
  rw [hN, Int.toNat_natCast, free_pos hi]

theorem size48_b (v : Value) (L : Lt) (N : Nat) (hN : L.n = N) (hvl : valid L = true) (wv : Value) (xs : List Int) (z : Nat) (w : World) (hn : L.n ≤ 9223372036854775807) (hg : GoodW N xs) (hz : sizeM (dep L) N xs = z) (hv : IsLt w v L) (hx : IsWd w wv xs) :
    Calls Try.prog 48 #[v, wv] w fun e w' => e = .returned (.tuple #[.int .i64 (z : Int), .int .i64 0]) ∧ Grew w w' :=
  (size48_a v L wv xs w hn hv hx).mono fun e w' ⟨h1, h2⟩ => ⟨by rw [h1, sizeA_good hN hvl hg, hz], h2⟩

set_option maxHeartbeats 16000000 in
set_option maxRecDepth 20000 in
theorem weaveSizes_law (L : Lt) (x : List Int) (b : Int) (v uv : Value) (w : World) (hb : 0 ≤ b ∧ b ≤ 255) (hn : L.n ≤ 9223372036854775807) (hv : IsLt w v L) (hx : IsWd w uv x) :
    Calls Try.prog 11 #[v, uv, .int .u8 b] w fun e w' => e = .returned (.bool true) ∧ Grew w w' := by
  obtain ⟨t, rfl⟩ : ∃ t : Nat, b = t := ⟨b.toNat, by omega⟩
  have ht : t ≤ 255 := by omega
  have hcv : IntKind.i64.wrap (t : Int) = (t : Int) := IntWalk.i64_in _ (by omega)
  clear hb
  obtain ⟨ua, uc, rfl⟩ := isWd_slice hx
  have HV := hid hv
  obtain ⟨s, rfl, -⟩ := hv
  obtain ⟨W0, hW0, g0, k0, k1, hz⟩ := box2 w (.int .i64 L.n) s 24
  have hvp := validP_any _ L _ [x] (W0.alloc (.cells #[.slice ua x.length uc] 25)) ((HV.out.grew g0).grew (grew_alloc (grew_refl _) _)) (rows_one (hx.grew g0).ints 25)
  have HA := hid (fun (W : World) => awake_any W)
  obtain ⟨p, hp⟩ : ∃ p, validM L [x] = p := ⟨_, rfl⟩
  rw [hp] at hvp
  have HVP := hid hvp
  have HX := hid hx
  have hg := grew_refl W0
  clear hvp hx
  cases p with
  | false =>
    clear hp
    go_enter Try.func11, Try.ntmps11
    go_wp2_with (first
      | (go_at_call 32; (with_reducible refine HVP.out.mono ?_); rintro e w2 ⟨rfl, hx⟩; replace hg := grew_trans (grew_alloc (grew_refl W0) _) hx; have hc := (bcell hg).1; clear hx)
      | (go_at_call 17; (with_reducible refine (HA.out _).mono ?_); rintro e w2 ⟨rfl, hx⟩; replace hg := grew_trans hg hx; replace hc := (bcell hg).1; clear hx))
    go_ret
    exact ⟨rfl, grew_trans g0 hg⟩
  | true =>
    obtain ⟨N, hN, hN1, hN6, hall⟩ := validM_spec hp
    have gx : GoodW N x := let ⟨_, h1, h2⟩ := hall x (by simp); ⟨h1, h2⟩
    have hvl : valid L = true := by unfold validM at hp; simp only [Bool.and_eq_true] at hp; exact hp.1.2
    obtain ⟨z, hzz⟩ : ∃ z, sizeM (dep L) N x = z := ⟨_, rfl⟩
    have hzle : z ≤ 60466176 := by rw [← hzz]; exact sizeM_le hN6 gx.len
    have hz1 : 1 ≤ z := by rw [← hzz]; exact sizeM_pos gx.ok
    have gr : GoodW N x.reverse := ⟨by rw [List.length_reverse]; exact gx.len, fun y hy => gx.ok y (List.mem_reverse.1 hy)⟩
    have hzr : sizeM (dep L) N (first (dep L) N x.reverse) = z := by
      rw [← sizeM_alike (dep_refl L) (dep_comm L) N (alike_first (dep_comm L) gr.ok), sizeM_reverse (dep_refl L) (dep_comm L) gx.ok, hzz]
    have H48 := hid (fun (W : World) (hW : Grew w W) => size48_b _ L N hN hvl _ x z W hn gx hzz (HV.out.grew hW) (HX.out.grew hW))
    have H49 := hid (fun (W : World) (hW : Grew w W) => starts49_ok _ L _ x W hn (HV.out.grew hW) (HX.out.grew hW))
    rw [startsM_good hN hvl gx] at H49
    have H50 := hid (fun (W : World) (hW : Grew w W) => turned50_any _ L _ x W hn (HV.out.grew hW) (HX.out.grew hW))
    rw [turnedM_good hN hvl gx] at H50
    have H48t := hid (fun (W : World) (hW : Grew w W) (u : Value) (hu : IsWd W u (first (dep L) N x.reverse)) => size48_b _ L N hN hvl u _ z W hn gr.first hzr (HV.out.grew hW) hu)
    obtain ⟨R, hR⟩ : ∃ R, first (dep L) N x.reverse = R := ⟨_, rfl⟩
    rw [hR] at H50 H48t
    have hca : classA L x t = ((classM (dep L) N x).take t, 0) := by unfold classA; rw [good_wrong hvl hN (by simp; exact gx), if_pos rfl, if_pos ⟨by omega, by omega⟩, hN, Int.toNat_natCast, Int.toNat_natCast]
    have H18 := hid (fun (W : World) (hW : Grew w W) => class18_any _ L _ x t W hn (HV.out.grew hW) (HX.out.grew hW))
    rw [hca] at H18
    have H33 := hid (fun (W : World) (hW : Grew w W) => first33_any _ L _ x W hn (HV.out.grew hW) (HX.out.grew hW))
    rw [firstM_good hN hvl gx] at H33
    obtain ⟨C, hC⟩ : ∃ C, (classM (dep L) N x).take t = C := ⟨_, rfl⟩
    rw [hC] at H18
    obtain ⟨c, hc⟩ : ∃ c, C.length = c := ⟨_, rfl⟩
    have hcl : c = min t z := by rw [← hc, ← hC, List.length_take, classM_length, hzz]
    have hcm : min (z : Int) (t : Int) = (c : Int) := by rw [hcl]; omega
    obtain ⟨S, hS⟩ : ∃ S, starts (dep L) N x = S := ⟨_, rfl⟩
    obtain ⟨m, hm⟩ : ∃ m, x.length = m := ⟨_, rfl⟩
    obtain ⟨n, hnS⟩ : ∃ n, S.length = n := ⟨_, rfl⟩
    have hn6 : n ≤ 6 := by rw [← hnS, ← hS]; exact Nat.le_trans (starts_length _ _) hN6
    have hmn : m = 0 ↔ n = 0 := by
      rw [← hm, ← hnS, ← hS]
      constructor
      · intro h; rw [List.length_eq_zero_iff.1 h]; simp [starts, free]
      · intro h
        by_cases hne : x = []
        · rw [hne]; rfl
        · exact absurd (List.length_eq_zero_iff.1 h) (starts_ne gx.ok hne)
    have HSUM := hid (show m ≠ 0 → sumS (dep L) N x S = z from fun h => by rw [← hzz, ← hS, sizeM_step (by intro e; rw [e] at hm; simp at hm; omega)]; rfl)
    have HZ0 := hid (show m = 0 → z = 1 from fun h => by rw [← hzz, List.length_eq_zero_iff.1 (hm.trans h), sizeM_nil])
    rw [hS] at H49
    have H30 := hid (fun (W : World) (hW : Grew w W) (a : Int) (ha : a ∈ S) (u : Value) (hu : IsWd W u [a]) => (by
      have h := rest30_any _ L u _ [a] x W hn (HV.out.grew hW) hu (HX.out.grew hW)
      rw [(rest_one hN hvl gx (hS ▸ ha)).1] at h
      exact h : Calls Try.prog 30 #[_, u, _] W fun e w' => Gives e W w' (first (dep L) N (rem (dep L) x a), 0)))
    have H48l := hid (fun (W : World) (hW : Grew w W) (a : Int) (ha : a ∈ S) (u : Value) (hu : IsWd W u (first (dep L) N (rem (dep L) x a))) => (by
      obtain ⟨_, h1, h2⟩ := rest_one hN hvl gx (hS ▸ ha)
      exact size48_b _ L N hN hvl u _ _ W hn h1 h2 (HV.out.grew hW) hu : Calls Try.prog 48 #[_, u] W fun e w' => e = .returned (.tuple #[.int .i64 ((sizeM (dep L) N (rem (dep L) x a) : Nat) : Int), .int .i64 0]) ∧ Grew W w'))
    have HCW := hid (show ∀ i, i < c → GoodW N (nthL C i) ∧ first (dep L) N x = first (dep L) N (nthL C i) from fun i hi => by
      have h1 : nthL C i ∈ classM (dep L) N x := by
        have h0 : nthL C i ∈ (classM (dep L) N x).take t := by rw [hC]; exact nthL_mem (by rw [hc]; exact hi)
        exact List.mem_of_mem_take h0
      have h2 := (mem_classM (dep_refl L) (dep_comm L) gx.ok).1 h1
      have gc : GoodW N (nthL C i) := ⟨by rw [← h2.length (dep_refl L)]; exact gx.len, fun y hy => gx.ok y (((h2.perm (dep_refl L)).mem_iff).2 hy)⟩
      exact ⟨gc, (first_iff (dep_refl L) (dep_comm L) gx.ok gc.ok).2 h2⟩)
    have H43 := hid (fun (W : World) (hW : Grew w W) (i : Nat) (hi : i < c) (u : Value) (hu : IsWd W u (nthL C i)) => (by
      have h := equal43_any _ L _ _ x (nthL C i) W hn (HV.out.grew hW) (HX.out.grew hW) hu
      rw [eqM_good hN hvl gx (HCW.out i hi).1, (HCW.out i hi).2, beq_self_eq_true] at h
      exact h : Calls Try.prog 43 #[_, _, u] W fun e w' => e = .returned (.tuple #[.bool true, .int .i64 0]) ∧ Grew W w'))
    have HBF := hid (show ∀ i, i + 1 < c → befW (nthL C i) (nthL C (i + 1)) = true from fun i hi => by
      have h1 := (classM_sorted (D := dep L) N x).sublist (List.take_sublist t _)
      rw [hC] at h1
      rw [nthL_lt (by omega), nthL_lt (by omega)]
      exact List.pairwise_iff_getElem.1 h1 i (i + 1) (by omega) (by omega) (by omega))
    have HFW := hid (show 0 < c → nthL C 0 = first (dep L) N x from fun h => by
      obtain ⟨tl, htl⟩ := class_head (D := dep L) N x.length x rfl gx.ok
      have ht0 : 0 < t := by omega
      obtain ⟨t', rfl⟩ : ∃ t', t = t' + 1 := ⟨t - 1, by omega⟩
      rw [← hC, htl]; rfl)
    have HS := hid hS; have HNS := hid hnS; have HC := hid hc; have GX := hid gx; have HN := hid hN; have HCL := hid hcl; have HMN := hid hmn
    have hbm : ((n : Int) == 0) = ((m : Int) == 0) := by
      rw [Bool.eq_iff_iff, beq_iff_eq, beq_iff_eq]; omega
    obtain ⟨e0, he0⟩ : ∃ e0, ((m : Int) == 0) = e0 := ⟨_, rfl⟩
    rw [he0] at hbm
    obtain ⟨F, hF⟩ : ∃ F, first (dep L) N x = F := ⟨_, rfl⟩
    rw [hF] at H33 HFW
    rw [hm] at HVP H48 H49 H50 H18 H33 H30 H43 ⊢
    clear hp hall hvl gx gr hzr hzz hca hR hC hc hcl hS hnS hm hF hN hmn
    go_enter Try.func11, Try.ntmps11
    go_wp2_with (first
      | (go_at_call 32; (with_reducible refine HVP.out.mono ?_); rintro e w2 ⟨rfl, hx⟩; replace hg := grew_trans (grew_alloc (grew_refl W0) _) hx; have hc := (bcell hg).1; clear hx)
      | (go_at_call 48; (with_reducible refine (H48.out _ (grew_trans g0 hg)).mono ?_); rintro e w3 ⟨rfl, hx⟩; replace hg := grew_trans hg hx; replace hc := (bcell hg).1; clear hx)
      | (go_at_call 49; (with_reducible refine (H49.out _ (grew_trans g0 hg)).mono ?_); rintro e w4 ⟨u4, rfl, hu4, hx⟩; obtain ⟨sa, sc, rfl⟩ := isWd_slice hu4; replace hg := grew_trans hg hx; rw [HNS.out] at hu4 ⊢; replace hc := (bcell hg).1; have HU4 := hid hu4; have HG4 := hid hg; clear hx hu4)
      | (go_at_call 50; (with_reducible refine (H50.out _ (grew_trans g0 hg)).mono ?_); rintro e w5 ⟨u5, rfl, hu5, hx⟩; replace hg := grew_trans hg hx; replace hc := (bcell hg).1; have HU5 := hid hu5; have HG45 := hid hx; clear hx hu5)
      | (go_at_call 48; (with_reducible refine (H48t.out _ (grew_trans g0 hg) _ HU5.out).mono ?_); rintro e w6 ⟨rfl, hx⟩; replace hg := grew_trans hg hx; replace hc := (bcell hg).1; have HG46 := hid (grew_trans HG45.out hx); clear hx)
      | (go_at_call 18; (with_reducible refine (H18.out _ (grew_trans g0 hg)).mono ?_); rintro e w7 ⟨u7, rfl, hu7, hx⟩; obtain ⟨ca, cc, rfl, hcc⟩ := isLs_slice hu7; replace hg := grew_trans hg hx; rw [HC.out] at hu7 hcc ⊢; replace hc := (bcell hg).1; have HU7 := hid hu7; have HG7 := hid hg; have HG47 := hid (grew_trans HG46.out hx); clear hx hu7))
    clear hc hg
    go_loopg [17, 19, 20, 21, 22, 23, 110, 114, 122] n (fun gk sm _ _ _ _ _ j _ _ wr => ∃ (i sum : Nat), i ≤ n ∧ j = .int .i64 (i : Int) ∧ Hid (gk = n - i) ∧ sm = .int .i64 (sum : Int) ∧ Hid (sumS (dep L) N x (S.take i) = sum) ∧ Hid (Grew w7 wr))
    case atStart => exact ⟨0, 0, by omega, rfl, hid rfl, rfl, hid rfl, hid (grew_refl w7)⟩
    case round =>
      obtain ⟨i, sum, hi, rfl, HGK, rfl, HSM, HGR⟩ := hrel
      rename World => wr
      have hg := grew_trans HG7.out HGR.out
      have hc := (bcell hg).1
      have hsle := sumS_le (D := dep L) hN6 GX.out.len (S.take i)
      rw [HSM.out, List.length_take, HNS.out] at hsle
      have hsb : sum ≤ 362797056 := by have : min i n ≤ 6 := by omega
                                       have := Nat.mul_le_mul_right 60466176 this; omega
      clear hsle
      by_cases hin : i < n
      · have hii : (i : Int) < (n : Int) := by omega
        obtain ⟨sb, soff, so, rfl, hso, hsc⟩ := wd_cell HU4.out i hin
        obtain ⟨a, ha⟩ : ∃ a, nth S i = a := ⟨_, rfl⟩
        have hma : a ∈ S := by rw [← ha]; exact nth_memI (by rw [HNS.out]; exact hin)
        have HMA := hid hma
        rw [ha] at hsc
        have hsl := lt_of_obj hso
        have hg4r := grew_trans HG47.out HGR.out
        have hsc1 := (hg4r.cell (p := ⟨sb, soff + i, none⟩) hsl).trans hsc
        have hsl1 := Nat.lt_of_lt_of_le hsl hg4r.size
        obtain ⟨zl, hzl⟩ : ∃ z, sizeM (dep L) N (rem (dep L) x a) = z := ⟨_, rfl⟩
        have hgr : (rem (dep L) x a).length ≤ 10 := by
          have h2 := (mem_starts.1 (HS.out ▸ hma : a ∈ starts (dep L) N x)).2
          have := rem_length h2; have := GX.out.len; omega
        have hzle2 : zl ≤ 60466176 := by rw [← hzl]; exact sizeM_le hN6 hgr
        have hwr : IntKind.i64.wrap ((sum : Int) + (zl : Int)) = (sum : Int) + (zl : Int) := IntWalk.i64_in _ (by omega)
        have H48a := hid (fun (W : World) (hW : Grew w W) => H48l.out W hW a hma)
        rw [hzl] at H48a
        have HSN := hid (show sumS (dep L) N x (S.take (i + 1)) = sum + zl by
          rw [List.take_add_one, List.getElem?_eq_getElem (by rw [HNS.out]; exact hin), Option.toList_some, ← nth_lt (by rw [HNS.out]; exact hin), ha, sumS_snoc, HSM.out, hzl])
        clear hso hsc hma ha hzl hgr hg4r
        go_wp2_with (first
          | (go_at_call 30; (with_reducible refine (H30.out _ (grew_trans g0 (grew_alloc hg _)) a HMA.out _ (wd_lit wr a)).mono ?_); rintro e w8 ⟨u8, rfl, hu8, hx⟩; have HG8 := hid (grew_trans (grew_alloc HGR.out (.cells #[.int .i64 a] 3)) hx); replace hg := grew_trans (grew_alloc hg (.cells #[.int .i64 a] 3)) hx; replace hc := (bcell hg).1; have HU8 := hid hu8; clear hx hu8)
          | (go_at_call 48; (with_reducible refine (H48a.out _ (grew_trans g0 hg) _ HU8.out).mono ?_); rintro e w9 ⟨rfl, hx⟩; replace hg := grew_trans hg hx; replace hc := (bcell hg).1; replace HG8 := hid (grew_trans HG8.out hx); clear hx))
        go_roundg (n - (i + 1))
        case measure => have := HGK.out; omega
        case rel => exact ⟨i + 1, sum + zl, by omega, by go_num, hid rfl, by go_num, HSN, HG8⟩
      · obtain rfl : i = n := by omega
        have hsm := HSM.out
        rw [show S.take i = S from List.take_of_length_le (by rw [HNS.out]; exact Nat.le_refl _)] at hsm
        have hni : ¬ (i : Int) < (i : Int) := by omega
        rcases Nat.eq_zero_or_pos m with hm0 | hmp
        · have hz1' := HZ0.out hm0
          subst hz1'
          have he1 : e0 = true := by rw [← he0]; simp; omega
          subst he1
          have hd1 : decide ((0 : Int) < (m : Int)) = false := by rw [decide_eq_false_iff_not]; omega
          have hd2 : ¬ 0 < m := by omega
          clear hm0 hsm hni HSM hc hg
          go_wp2
          go_loopg [24, 25, 26, 27, 157, 162] c (fun gk _ _ _ _ ii _ wr => ∃ i : Nat, i ≤ c ∧ ii = .int .i64 (i : Int) ∧ Hid (gk = c - i) ∧ Hid (Grew w7 wr))
          case atStart => exact ⟨0, by omega, rfl, hid rfl, HGR⟩
          case round =>
            clear HGR
            obtain ⟨i, hi, rfl, HGK, HGR⟩ := hrel
            rename World => wr
            have hg := grew_trans HG7.out HGR.out
            have hc := (bcell hg).1
            by_cases hic : i < c
            · have hii : (i : Int) < (c : Int) := by omega
              obtain ⟨cb, coff, cobj, u, rfl, hco, hcu, hcw⟩ := HU7.out.at hic
              have hcl := lt_of_obj hco
              have hcu1 := (HGR.out.cell (p := ⟨cb, coff + i, none⟩) hcl).trans hcu
              have hcl1 := Nat.lt_of_lt_of_le hcl HGR.out.size
              obtain ⟨ia, icp, hu⟩ := isWd_slice hcw
              obtain ⟨il, hil⟩ : ∃ l, (nthL C i).length = l := ⟨_, rfl⟩
              rw [hil] at hu
              subst hu
              have HUI := hid (hcw.grew HGR.out)
              have HCWD := hid hcw
              clear hco hcu hcw hil
              rcases Nat.eq_zero_or_pos i with hi0 | hip
              · have hkn : ¬ 0 < i := by omega
                have hkd : decide (0 < i) = false := by simp; omega
                have hkd2 : decide ((0 : Int) < (i : Int)) = false := by rw [decide_eq_false_iff_not]; omega
                clear hi0
                go_wp2_with (first
                  | (go_at_call 43; (with_reducible refine (H43.out _ (grew_trans g0 hg) i hic _ HUI.out).mono ?_); rintro e w8 ⟨rfl, hx⟩; replace hg := grew_trans hg hx; replace hc := (bcell hg).1; have HG8 := hid (grew_trans HGR.out hx); clear hx)
                  | (go_at_call 51; (with_reducible refine (HB51.out _ HG8.out).mono ?_); rintro e w9 ⟨rfl, hx⟩; replace hg := grew_trans hg hx; replace hc := (bcell hg).1; replace HG8 := hid (grew_trans HG8.out hx); clear hx))
                go_roundg (c - (i + 1))
                case measure => have := HGK.out; omega
                case rel => exact ⟨i + 1, by omega, by go_num, hid rfl, HG8⟩
              · obtain ⟨i1, hi1⟩ : ∃ i1, i = i1 + 1 := ⟨i - 1, by omega⟩
                have hkd : decide (0 < i) = true := by simp; omega
                have hkd2 : decide ((0 : Int) < (i : Int)) = true := by rw [decide_eq_true_iff]; omega
                have hki : (0 : Int) < (i : Int) := by omega
                have hwr : IntKind.i64.wrap ((i : Int) - 1) = (i1 : Int) := by rw [IntWalk.i64_in _ (by omega)]; omega
                have hi1c : (i1 : Int) < (c : Int) := by omega
                obtain ⟨cb2, coff2, cobj2, u2, hce, hco2, hcu2, hcw2⟩ := HU7.out.at (show i1 < c by omega)
                simp only [Option.some.injEq, Addr.mk.injEq, and_true] at hce
                obtain ⟨rfl, rfl⟩ := hce
                obtain ⟨ia2, ic2, hu2⟩ := isWd_slice hcw2
                subst hu2
                have hcu3 := (HGR.out.cell (p := ⟨cb, coff + i1, none⟩) hcl).trans hcu2
                have hbf := HBF.out i1 (by omega)
                rw [show i1 + 1 = i from hi1.symm] at hbf
                have hb51 := fun (W : World) (hW : Grew w7 W) => before51_any _ _ (nthL C i1) (nthL C i) W (hcw2.grew hW) (HCWD.out.grew hW) (by have := (HCW.out i1 (by omega)).1.len; omega) (by have := (HCW.out i hic).1.len; omega)
                rw [hbf] at hb51
                have HB51 := hid hb51
                clear hco2 hcu2 hcw2 hi1 hbf hb51
                go_wp2_with (first
                  | (go_at_call 43; (with_reducible refine (H43.out _ (grew_trans g0 hg) i hic _ HUI.out).mono ?_); rintro e w8 ⟨rfl, hx⟩; replace hg := grew_trans hg hx; replace hc := (bcell hg).1; have HG8 := hid (grew_trans HGR.out hx); have hcu8 := (hx.cell (p := ⟨cb, coff + i1, none⟩) hcl1).trans hcu3; have hcl8 := Nat.lt_of_lt_of_le hcl1 hx.size; clear hx)
                  | (go_at_call 51; (with_reducible refine (HB51.out _ HG8.out).mono ?_); rintro e w9 ⟨rfl, hx⟩; replace hg := grew_trans hg hx; replace hc := (bcell hg).1; replace HG8 := hid (grew_trans HG8.out hx); clear hx))
                go_roundg (c - (i + 1))
                case measure => have := HGK.out; omega
                case rel => exact ⟨i + 1, by omega, by go_num, hid rfl, HG8⟩
            · obtain rfl : i = c := by omega
              have hci : ¬ (i : Int) < (i : Int) := by omega
              rcases Nat.eq_zero_or_pos i with hi0 | hip
              · have hz0 : ((i : Int) == 0) = true := by simp; omega
                clear hi0 hci
                go_wp2_with (first
                  | (go_at_call 33; (with_reducible refine (H33.out _ (grew_trans g0 hg)).mono ?_); rintro e w10 ⟨u10, rfl, hu10, hx⟩; replace hg := grew_trans hg hx; replace hc := (bcell hg).1; skip; clear hx hu10)
                  | (go_at_call 23; (with_reducible refine HS23.out.mono ?_); rintro e w11 ⟨rfl, hx⟩; replace hg := grew_trans hg hx; replace hc := (bcell hg).1; clear hx)
                  | (go_at_call 17; (with_reducible refine (HA.out _).mono ?_); rintro e w9 ⟨rfl, hx⟩; replace hg := grew_trans hg hx; replace hc := (bcell hg).1; clear hx))
                go_ret
                exact ⟨rfl, grew_trans g0 hg⟩
              · have hz0 : ((i : Int) == 0) = false := by simp; omega
                have hi00 : (0 : Int) < (i : Int) := by omega
                obtain ⟨cb, coff, cobj, u, rfl, hco, hcu, hcw⟩ := HU7.out.at hip
                have hcl := lt_of_obj hco
                rw [HFW.out hip] at hcw
                have HCUW := hid (And.intro hcu hcw)
                clear hco hcu hcw hci
                go_wp2_with (first
                  | (go_at_call 33; (with_reducible refine (H33.out _ (grew_trans g0 hg)).mono ?_); rintro e w10 ⟨u10, rfl, hu10, hx⟩; replace hg := grew_trans hg hx; replace hc := (bcell hg).1; have HG10 := hid (grew_trans HGR.out hx); have hcu10 := (HG10.out.cell (p := ⟨cb, coff + 0, none⟩) hcl).trans HCUW.out.1; rw [Nat.add_zero] at hcu10; have hcl10 := Nat.lt_of_lt_of_le hcl HG10.out.size; have HS23 := hid (same_true _ u10 F w10 (HCUW.out.2.grew HG10.out).ints hu10.ints); clear hx hu10)
                  | (go_at_call 23; (with_reducible refine HS23.out.mono ?_); rintro e w11 ⟨rfl, hx⟩; replace hg := grew_trans hg hx; replace hc := (bcell hg).1; clear hx)
                  | (go_at_call 17; (with_reducible refine (HA.out _).mono ?_); rintro e w9 ⟨rfl, hx⟩; replace hg := grew_trans hg hx; replace hc := (bcell hg).1; clear hx))
                go_ret
                exact ⟨rfl, grew_trans g0 hg⟩
        · have hsz : sum = z := hsm.symm.trans (HSUM.out (by omega))
          subst hsz
          have he1 : e0 = false := by rw [← he0]; simp; omega
          subst he1
          have hd1 : decide ((0 : Int) < (m : Int)) = true := by rw [decide_eq_true_iff]; omega
          have hd2 : (0 : Int) < (m : Int) := by omega
          clear hsm hni HSM hc hg
          go_wp2
          go_loopg [24, 25, 26, 27, 157, 162] c (fun gk _ _ _ _ ii _ wr => ∃ i : Nat, i ≤ c ∧ ii = .int .i64 (i : Int) ∧ Hid (gk = c - i) ∧ Hid (Grew w7 wr))
          case atStart => exact ⟨0, by omega, rfl, hid rfl, HGR⟩
          case round =>
            clear HGR
            obtain ⟨i, hi, rfl, HGK, HGR⟩ := hrel
            rename World => wr
            have hg := grew_trans HG7.out HGR.out
            have hc := (bcell hg).1
            by_cases hic : i < c
            · have hii : (i : Int) < (c : Int) := by omega
              obtain ⟨cb, coff, cobj, u, rfl, hco, hcu, hcw⟩ := HU7.out.at hic
              have hcl := lt_of_obj hco
              have hcu1 := (HGR.out.cell (p := ⟨cb, coff + i, none⟩) hcl).trans hcu
              have hcl1 := Nat.lt_of_lt_of_le hcl HGR.out.size
              obtain ⟨ia, icp, hu⟩ := isWd_slice hcw
              obtain ⟨il, hil⟩ : ∃ l, (nthL C i).length = l := ⟨_, rfl⟩
              rw [hil] at hu
              subst hu
              have HUI := hid (hcw.grew HGR.out)
              have HCWD := hid hcw
              clear hco hcu hcw hil
              rcases Nat.eq_zero_or_pos i with hi0 | hip
              · have hkn : ¬ 0 < i := by omega
                have hkd : decide (0 < i) = false := by simp; omega
                have hkd2 : decide ((0 : Int) < (i : Int)) = false := by rw [decide_eq_false_iff_not]; omega
                clear hi0
                go_wp2_with (first
                  | (go_at_call 43; (with_reducible refine (H43.out _ (grew_trans g0 hg) i hic _ HUI.out).mono ?_); rintro e w8 ⟨rfl, hx⟩; replace hg := grew_trans hg hx; replace hc := (bcell hg).1; have HG8 := hid (grew_trans HGR.out hx); clear hx)
                  | (go_at_call 51; (with_reducible refine (HB51.out _ HG8.out).mono ?_); rintro e w9 ⟨rfl, hx⟩; replace hg := grew_trans hg hx; replace hc := (bcell hg).1; replace HG8 := hid (grew_trans HG8.out hx); clear hx))
                go_roundg (c - (i + 1))
                case measure => have := HGK.out; omega
                case rel => exact ⟨i + 1, by omega, by go_num, hid rfl, HG8⟩
              · obtain ⟨i1, hi1⟩ : ∃ i1, i = i1 + 1 := ⟨i - 1, by omega⟩
                have hkd : decide (0 < i) = true := by simp; omega
                have hkd2 : decide ((0 : Int) < (i : Int)) = true := by rw [decide_eq_true_iff]; omega
                have hki : (0 : Int) < (i : Int) := by omega
                have hwr : IntKind.i64.wrap ((i : Int) - 1) = (i1 : Int) := by rw [IntWalk.i64_in _ (by omega)]; omega
                have hi1c : (i1 : Int) < (c : Int) := by omega
                obtain ⟨cb2, coff2, cobj2, u2, hce, hco2, hcu2, hcw2⟩ := HU7.out.at (show i1 < c by omega)
                simp only [Option.some.injEq, Addr.mk.injEq, and_true] at hce
                obtain ⟨rfl, rfl⟩ := hce
                obtain ⟨ia2, ic2, hu2⟩ := isWd_slice hcw2
                subst hu2
                have hcu3 := (HGR.out.cell (p := ⟨cb, coff + i1, none⟩) hcl).trans hcu2
                have hbf := HBF.out i1 (by omega)
                rw [show i1 + 1 = i from hi1.symm] at hbf
                have hb51 := fun (W : World) (hW : Grew w7 W) => before51_any _ _ (nthL C i1) (nthL C i) W (hcw2.grew hW) (HCWD.out.grew hW) (by have := (HCW.out i1 (by omega)).1.len; omega) (by have := (HCW.out i hic).1.len; omega)
                rw [hbf] at hb51
                have HB51 := hid hb51
                clear hco2 hcu2 hcw2 hi1 hbf hb51
                go_wp2_with (first
                  | (go_at_call 43; (with_reducible refine (H43.out _ (grew_trans g0 hg) i hic _ HUI.out).mono ?_); rintro e w8 ⟨rfl, hx⟩; replace hg := grew_trans hg hx; replace hc := (bcell hg).1; have HG8 := hid (grew_trans HGR.out hx); have hcu8 := (hx.cell (p := ⟨cb, coff + i1, none⟩) hcl1).trans hcu3; have hcl8 := Nat.lt_of_lt_of_le hcl1 hx.size; clear hx)
                  | (go_at_call 51; (with_reducible refine (HB51.out _ HG8.out).mono ?_); rintro e w9 ⟨rfl, hx⟩; replace hg := grew_trans hg hx; replace hc := (bcell hg).1; replace HG8 := hid (grew_trans HG8.out hx); clear hx))
                go_roundg (c - (i + 1))
                case measure => have := HGK.out; omega
                case rel => exact ⟨i + 1, by omega, by go_num, hid rfl, HG8⟩
            · obtain rfl : i = c := by omega
              have hci : ¬ (i : Int) < (i : Int) := by omega
              rcases Nat.eq_zero_or_pos i with hi0 | hip
              · have hz0 : ((i : Int) == 0) = true := by simp; omega
                clear hi0 hci
                go_wp2_with (first
                  | (go_at_call 33; (with_reducible refine (H33.out _ (grew_trans g0 hg)).mono ?_); rintro e w10 ⟨u10, rfl, hu10, hx⟩; replace hg := grew_trans hg hx; replace hc := (bcell hg).1; skip; clear hx hu10)
                  | (go_at_call 23; (with_reducible refine HS23.out.mono ?_); rintro e w11 ⟨rfl, hx⟩; replace hg := grew_trans hg hx; replace hc := (bcell hg).1; clear hx)
                  | (go_at_call 17; (with_reducible refine (HA.out _).mono ?_); rintro e w9 ⟨rfl, hx⟩; replace hg := grew_trans hg hx; replace hc := (bcell hg).1; clear hx))
                go_ret
                exact ⟨rfl, grew_trans g0 hg⟩
              · have hz0 : ((i : Int) == 0) = false := by simp; omega
                have hi00 : (0 : Int) < (i : Int) := by omega
                obtain ⟨cb, coff, cobj, u, rfl, hco, hcu, hcw⟩ := HU7.out.at hip
                have hcl := lt_of_obj hco
                rw [HFW.out hip] at hcw
                have HCUW := hid (And.intro hcu hcw)
                clear hco hcu hcw hci
                go_wp2_with (first
                  | (go_at_call 33; (with_reducible refine (H33.out _ (grew_trans g0 hg)).mono ?_); rintro e w10 ⟨u10, rfl, hu10, hx⟩; replace hg := grew_trans hg hx; replace hc := (bcell hg).1; have HG10 := hid (grew_trans HGR.out hx); have hcu10 := (HG10.out.cell (p := ⟨cb, coff + 0, none⟩) hcl).trans HCUW.out.1; rw [Nat.add_zero] at hcu10; have hcl10 := Nat.lt_of_lt_of_le hcl HG10.out.size; have HS23 := hid (same_true _ u10 F w10 (HCUW.out.2.grew HG10.out).ints hu10.ints); clear hx hu10)
                  | (go_at_call 23; (with_reducible refine HS23.out.mono ?_); rintro e w11 ⟨rfl, hx⟩; replace hg := grew_trans hg hx; replace hc := (bcell hg).1; clear hx)
                  | (go_at_call 17; (with_reducible refine (HA.out _).mono ?_); rintro e w9 ⟨rfl, hx⟩; replace hg := grew_trans hg hx; replace hc := (bcell hg).1; clear hx))
                go_ret
                exact ⟨rfl, grew_trans g0 hg⟩
end Go.Proofs.Ytddnpooffcjhnaa
