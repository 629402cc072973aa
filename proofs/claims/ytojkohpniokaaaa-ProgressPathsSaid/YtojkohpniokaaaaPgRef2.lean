/- Walks of the reference: ranks (75). -/
import Derived.Test.YtojkohpniokaaaaPgRef1
namespace Go.Lin.Pg
/-- Without ranks that stay all rounds raise. -/
theorem raised_all {ms : List Mv} {N : Nat} (h1 : 1 ≤ N) (hN : InN N ms) {c t : Int} (h : holdsB ms N c t = false) (k : Nat) : (raise (acM ms c t) (wt c t) ms (rounds (acM ms c t) (wt c t) ms N k)).2 = true := by
  cases hb : (raise (acM ms c t) (wt c t) ms (rounds (acM ms c t) (wt c t) ms N k)).2 with
  | true => rfl
  | false =>
    have := (holdsB_iff h1 hN).2 (no_lasso_of_stays (raise_same hb).2)
    rw [h] at this; cases this

theorem stay_ranks {ms : List Mv} {N : Nat} (h1 : 1 ≤ N) (hN : InN N ms) {c t : Int} {k : Nat} (hk : ∀ i, i < k → (raise (acM ms c t) (wt c t) ms (rounds (acM ms c t) (wt c t) ms N i)).2 = true)
    (h : (raise (acM ms c t) (wt c t) ms (rounds (acM ms c t) (wt c t) ms N k)).2 = false) : holdsB ms N c t = true ∧ rounds (acM ms c t) (wt c t) ms N k = ranksM ms N c t := by
  have hno := no_lasso_of_stays (raise_same h).2
  refine ⟨(holdsB_iff h1 hN).2 hno, ?_⟩
  have hst := stays hN hno h1
  have hlt : k ≤ N - 1 := by
    rcases Nat.lt_or_ge (N - 1) k with hx | hx
    · rw [hk _ hx] at hst; cases hst
    · exact hx
  unfold ranksM
  exact (rounds_stay h (N - 1) hlt).symm
end Go.Lin.Pg
namespace Go.Proofs.Ytojkohpniokaaaa
open Go Go.RowKit Go.Lin Go.Lin.Pg

set_option maxHeartbeats 8000000 in
set_option maxRecDepth 100000 in
theorem ranks75_any (g : Gr) (N : Nat) (hG : GOk g N) (c t : Int) (hc : c = 0 ∨ c = 1 ∨ c = 2) (gv : Value) (w : World) (hg : IsGr w gv g) :
    Calls Try.prog 75 #[gv, .int .i64 c, .int .i64 t] w fun e w' => ∃ u, e = .returned (.tuple #[u, .bool (holdsB g.ms N c t)]) ∧ Grew w w' ∧ IsWd w' u (if holdsB g.ms N c t then ranksM g.ms N c t else []) := by
  have HIG := hid hg
  obtain ⟨mv, rfl, hmv⟩ := hg
  obtain ⟨n, hn⟩ : ∃ n, g.ms.length = n := ⟨_, rfl⟩
  obtain ⟨va, vc, hmve, ⟨hm1, hm2⟩, hmvs⟩ := id hmv
  rw [hn] at hmve hm1 hm2
  subst hmve
  have HMVS := hid hmvs
  have HG := hid hG
  have hN := hG.n
  rw [hN] at HIG ⊢
  have hN8 := hG.h8; have hN1 := hG.h1
  have HN := hid hn
  have hn20 : n ≤ 20 := by rw [← hn]; exact hG.h20
  clear hmv hG hmvs hn hN
  obtain ⟨h, hh⟩ : ∃ h, holdsB g.ms N c t = h := ⟨_, rfl⟩
  have HH := hid hh
  rw [hh]
  obtain ⟨W0, hW0, g0, b0, b1, hz⟩ := box2 w (.int .i64 (N : Int)) (.slice va n vc) 24
  have HG0 := hid g0
  have HRCH := hid (reached71_any g N HG.out _ W0 (HIG.out.grew g0))
  clear hh
  obtain ⟨i0, hi0, hi1, hi2, hi3⟩ := info_parts Try.info3
  have HBY := hid hi3
  have HF := hid (fun (m : Mv) (W : World) => falls72_any m c t W hc)
  have hwr : IntKind.i64.wrap ((N : Int) + 1) = ((N + 1 : Nat) : Int) := by rw [show ((N + 1 : Nat) : Int) = (N : Int) + 1 by omega]; exact IntWalk.i64_in _ (by omega)
  obtain ⟨M, hM⟩ : ∃ M, N + 1 = M := ⟨_, rfl⟩
  rw [hM] at hwr
  have HM := hid hM
  have hM9 : M ≤ 9 := by omega
  clear hM hc
  go_enter Try.func75, Try.ntmps75
  go_wp2_with (first
    | (go_at_call 71; (with_reducible refine HRCH.out.mono ?_); rintro e w1 ⟨T, rfl, hx, hT1, hT2⟩; have HX := hid hx; have HT1 := hid hT1; have HT2 := hid hT2; have B0 := (hx.cell (p := ⟨w.heap.size, 0, none⟩) hz).trans b0; have hzx := Nat.lt_of_lt_of_le hz hx.size; clear hx hT1 hT2)
    | (refine wpList_make_full _ rfl _ _ 25 rfl w1.heap.size 3 i0 (.int .i64 0) 1 Try.underlying25 hi0 hi1 hi2 .i64 .i64 (N : Int) (N : Int) N rfl rfl rfl rfl (by rw [HBY.out]; omega) (by unfold maxLen; omega) (Nat.le_refl _) ?_; intro w2 hown2 hgr2; have HS2 := hid (seg_zeros hown2); have HG2 := hid (show Grew w1 w2 from (grew_refl w1).grown hgr2 (Nat.le_refl _) (fun k e => by cases e)); have C0 := (HG2.out.cell (p := ⟨w.heap.size, 0, none⟩) hzx).trans B0; have hzy := Nat.lt_of_lt_of_le hzx HG2.out.size; clear hown2 hgr2))
  obtain ⟨G, hGw⟩ : ∃ G, w1.heap.size = G := ⟨_, rfl⟩
  obtain ⟨sz, hrun0⟩ := lrun_of_seg HS2.out (by simp)
  rw [hGw] at hrun0 ⊢
  have hG2 : G < w2.heap.size := by obtain ⟨_, cur, h1, _⟩ := hrun0; exact lt_of_obj h1
  have hTG : T < G := by rw [← hGw]; exact HT2.out.lt
  have hzG : w.heap.size < G := by rw [← hGw]; exact hzx
  have HT := hid (HT2.out.grew HG2.out)
  have HB1 := hid (((grew_trans HX.out HG2.out).cell (p := ⟨w.heap.size, 1, none⟩) hz).trans b1)
  have HGW := hid (grew_trans HG0.out (grew_trans HX.out HG2.out))
  have HR0 := hid hrun0
  have hwT : w.heap.size ≤ T := Nat.le_trans g0.size HT1.out
  clear hrun0 B0 C0 b0 b1 hz hzx hzy HS2 HG2 HX HT1 HT2 HRCH hW0 g0 hGw HG0
  go_loopg [23] M (fun gk i wr => ∃ (k : Nat), k ≤ M ∧ i = .int .i64 (k : Int) ∧ Hid (gk = M - k) ∧ Hid (∀ i, i < k → (raise (acM g.ms c t) (wt c t) g.ms (rounds (acM g.ms c t) (wt c t) g.ms N i)).2 = true) ∧ Hid (LRun wr G 0 sz N (rounds (acM g.ms c t) (wt c t) g.ms N k)) ∧ Hid (Keeps (fun i _ => i = G) w2 wr))
  case atStart => exact ⟨0, by omega, rfl, hid rfl, hid (fun i hi => by omega), HR0, hid (Keeps.refl _ _)⟩
  case round =>
    clear HR0
    obtain ⟨k, hkM, rfl, HGK, HALLR, HRUN, HKP⟩ := hrel
    rename World => wr
    by_cases hkl : k < M
    · have hkI : (k : Int) < (M : Int) := by omega
      have HKL := hid hkl
      have b1 := cell_keeps HKP.out (fun _ _ => by omega) HB1.out
      have hzr : w.heap.size < wr.heap.size := by have := HKP.out.size; omega
      go_wp2
      clear b1 hzr
      go_loopg [10, 12, 13, 14, 28, 32] n (fun gk ch _ _ _ i _ wq => ∃ (j : Nat), j ≤ n ∧ i = .int .i64 (j : Int) ∧ Hid (gk = n - j) ∧ ch = .bool (!(partM g.ms c t (rounds (acM g.ms c t) (wt c t) g.ms N k) j).2) ∧ Hid (LRun wq G 0 sz N (partM g.ms c t (rounds (acM g.ms c t) (wt c t) g.ms N k) j).1) ∧ Hid (Keeps (fun i _ => i = G) w2 wq))
      case atStart => exact ⟨0, by omega, rfl, hid rfl, by simp [partM], hid (by simpa [partM] using HRUN.out), HKP⟩
      case round =>
        clear HRUN HKP
        obtain ⟨j, hj, rfl, HGJ, rfl, HRUN, HKP⟩ := hrel
        rename World => wq
        obtain ⟨st, hst⟩ : ∃ st, partM g.ms c t (rounds (acM g.ms c t) (wt c t) g.ms N k) j = st := ⟨_, rfl⟩
        have HST := hid hst
        rw [hst] at HRUN ⊢
        have HGI := hid (HGW.out.trans (HKP.out.below (by omega) (fun i _ e => by rw [e]; omega)))
        clear hst
        by_cases hlt : j < n
        · obtain ⟨x, hx⟩ : ∃ x, g.ms[j]? = some x := ⟨_, List.getElem?_eq_getElem (by rw [HN.out]; exact hlt)⟩
          obtain ⟨bb, boff, rfl, hpa⟩ := HMVS.out j x hx
          have hpa2 := hpa.grew hpa.lt HGI.out
          have p0 := hpa2.c0
          have p1 := hpa2.c1
          have p2 := hpa2.c2
          have p3 := hpa2.c3
          have hplt := hpa2.lt
          have hxN := HG.out.inN x (List.mem_of_getElem? hx)
          obtain ⟨Y1, hY1, e1, hb1⟩ := box4v wq x
          have l0 := hb1.c0
          have l1 := hb1.c1
          have l2 := hb1.c2
          have l3 := hb1.c3
          have hzl := hb1.lt
          have HE1 := hid e1
          have HFX := hid (HF.out x Y1)
          have hjn : (j : Int) < (n : Int) := by omega
          have HX := hid hx
          have HBOX := hid hb1
          obtain ⟨bp, hbp⟩ : ∃ b, wi c t x = b := ⟨_, rfl⟩
          have HBP := hid hbp
          rw [hbp] at HFX
          obtain ⟨dq, hdq⟩ : ∃ d : Int, (wt c t x : Int) = d := ⟨_, rfl⟩
          have HDQ := hid hdq
          have hdb : 0 ≤ dq ∧ dq ≤ 1 := by rw [← hdq]; have := wt_le c t x; omega
          rw [hdq] at HFX
          obtain ⟨x1, x2, x3, x4⟩ := x
          obtain ⟨xa, rfl⟩ : ∃ xa : Nat, x1 = (xa : Int) := ⟨x1.toNat, by simp only [fr] at hxN; omega⟩
          obtain ⟨xb, rfl⟩ : ∃ xb : Nat, x3 = (xb : Int) := ⟨x3.toNat, by simp only [tg] at hxN; omega⟩
          have hxa : xa < N := by simp only [fr] at hxN; omega
          have hxb : xb < N := by simp only [tg] at hxN; omega
          have hxaI : (xa : Int) < (N : Int) := by omega
          have hxbI : (xb : Int) < (N : Int) := by omega
          simp only [Nat.zero_add, encM] at p0 p1 p2 p3 l0 l1 l2 l3 hY1 HFX
          clear hx hpa hpa2 hb1 hxN hbp hdq e1
          -- what is there
          have hthr := reachR_eq (ms := g.ms) HG.out.h1 HG.out.h8 HG.out.inN (p := xa)
          obtain ⟨br, hbr⟩ : ∃ b, reachB g.ms (xa : Int) = b := ⟨_, rfl⟩
          have HBR := hid hbr
          rw [hbr] at hthr
          have HTHR := hid hthr
          have hbd := partM_bound g.ms c t (rounds_bound (ac := acM g.ms c t) (ms := g.ms) (N := N) (fun m => wt_le c t m) k) j
          rw [HST.out] at hbd
          have hk20 : k * g.ms.length + j ≤ 1000 := by
            rw [HN.out]
            have hM := HM.out
            have : k * n ≤ 9 * 20 := Nat.mul_le_mul (by omega) hn20
            omega
          obtain ⟨ra, hra⟩ : ∃ r, nth st.1 xa = r := ⟨_, rfl⟩
          obtain ⟨rb, hrb⟩ : ∃ r, nth st.1 xb = r := ⟨_, rfl⟩
          have hrab := hbd xa
          have hrbb := hbd xb
          rw [hra] at hrab
          rw [hrb] at hrbb
          replace hrab : 0 ≤ ra ∧ ra ≤ 1000 := by omega
          replace hrbb : 0 ≤ rb ∧ rb ≤ 1000 := by omega
          have HRA := hid hra; have HRB := hid hrb
          have HKT := hid (fun (W : World) (h : Grew Y1 W) => (HT.out.keeps ((HKP.out.trans HE1.out.keeps).trans h.keeps) (fun _ => by omega)))
          have HKR := hid (fun (W : World) (h : Grew Y1 W) => HRUN.out.keeps (may := fun _ _ => False) (grew_trans HE1.out h).keeps (fun _ h => h))
          have HKK := hid (fun (W : World) (h : Grew Y1 W) => (HKP.out.trans (grew_trans HE1.out h).keeps))
          clear hbd hk20 hra hrb hthr hbr
          go_wp2_with (go_at_call 72; (with_reducible refine HFX.out.mono ?_); rintro e w5 ⟨rfl, hx5⟩; have HX5 := hid hx5; have n0 := (hx5.cell (p := ⟨wq.heap.size, 0, none⟩) hzl).trans l0; have n2 := (hx5.cell (p := ⟨wq.heap.size, 2, none⟩) hzl).trans l2; have hz5 := Nat.lt_of_lt_of_le hzl hx5.size; have ct := ((HKT.out w5 hx5).cell hxa).1; rw [HTHR.out] at ct; have hT5 := (HKT.out w5 hx5).lt; have hr5 := HKR.out w5 hx5; have oa := (hr5.cell hxa).1; have ob := (hr5.cell hxb).1; rw [Nat.zero_add, HRA.out] at oa; rw [Nat.zero_add, HRB.out] at ob; have hG5 : G < w5.heap.size := (by obtain ⟨_, cur, h1, _⟩ := hr5; exact lt_of_obj h1); clear hr5 hx5)
          clear l0 l1 l2 l3 p0 p1 p2 p3
          have hwab : IntKind.i64.wrap (rb + dq) = rb + dq := IntWalk.i64_in _ (by omega)
          by_cases hup : bp = true ∧ br = true ∧ ra < rb + dq
          · obtain ⟨rfl, rfl, hgt⟩ := hup
            have hac : acM g.ms c t ((xa : Int), x2, (xb : Int), x4) = true := by unfold acM; rw [HBP.out]; exact HBR.out
            have HAC := hid hac
            have hdl : decide (ra < rb + dq) = true := decide_eq_true hgt
            clear hac
            refine wp_region_later (by kernel_rfl) (by kernel_rfl) (fun hL => ?_)
            repeat (go_big_quiet_step (fail))
            refine wpQuiet_nil ?_
            rintro wy ⟨y, hy⟩
            have hwy : Grew w5 wy := by rw [hy]; exact y.2
            clear hL hy y
            have HW5 := hid (grew_trans HX5.out hwy)
            have m0 := (hwy.cell (p := ⟨wq.heap.size, 0, none⟩) hz5).trans n0
            have m2 := (hwy.cell (p := ⟨wq.heap.size, 2, none⟩) hz5).trans n2
            have oby := (hwy.cell (p := ⟨G, xb, none⟩) hG5).trans ob
            have oay := (hwy.cell (p := ⟨G, xa, none⟩) hG5).trans oa
            have hz6 := Nat.lt_of_lt_of_le hz5 hwy.size
            have hG6 := Nat.lt_of_lt_of_le hG5 hwy.size
            clear hwy n0 n2 oa ob ct
            go_wp2
            go_still_tail 11, (by kernel_rfl)
            change wpList _ _ _ _ _ wy.drew
            have hrd := (HKR.out wy HW5.out)
            have fd : wy.drew.frozen? ⟨G, xa, none⟩ = false := by have h := (hrd.cell hxa).2; rw [Nat.zero_add] at h; exact h
            have cd : wy.drew.cell? ⟨G, xa, none⟩ = some (.int .i64 ra) := oay
            have hrd2 : LRun wy.drew G 0 sz N st.1 := hrd
            have HRD := hid hrd2
            have HKD := hid (HKK.out wy HW5.out).drew
            clear hrd hrd2
            generalize wy.drew = Y2 at HKD HRD fd cd ⊢
            go_wp2
            go_roundg (n - (j + 1))
            case measure => have := HGJ.out; omega
            case rel =>
              have hpm : partM g.ms c t (rounds (acM g.ms c t) (wt c t) g.ms N k) (j + 1) = (st.1.set xa (rb + dq), true) := by
                rw [partM_succ HX.out, HST.out]
                unfold relax
                simp only [fr, tg, Int.toNat_natCast, HRA.out, HRB.out, HDQ.out, HAC.out]
                rw [if_pos ⟨trivial, hgt⟩]
              have hset := HRD.out.set (i := xa) hxa (rb + dq)
              rw [Nat.zero_add] at hset
              exact ⟨j + 1, by omega, by go_num, hid rfl, by rw [hpm]; rfl, hid (by rw [hpm]; exact hset), hid (HKD.out.trans (keeps_setB _ _ _ _))⟩
          · have hno : ¬ (acM g.ms c t ((xa : Int), x2, (xb : Int), x4) = true ∧ ra < rb + dq) := by
              rintro ⟨h1, h2⟩
              unfold acM at h1
              rw [Bool.and_eq_true, HBP.out] at h1
              have h3 : reachB g.ms (xa : Int) = true := h1.2
              rw [HBR.out] at h3
              exact hup ⟨h1.1, h3, h2⟩
            have HNO := hid hno
            clear hno
            have HPM := hid (show partM g.ms c t (rounds (acM g.ms c t) (wt c t) g.ms N k) (j + 1) = st by
              rw [partM_succ HX.out, HST.out]
              unfold relax
              simp only [fr, tg, Int.toNat_natCast, HRA.out, HRB.out, HDQ.out]
              rw [if_neg HNO.out])
            have HBX := hid hup
            clear hup
            cases bp
            · refine wp_region_later (by kernel_rfl) (by kernel_rfl) (fun hL => ?_)
              repeat (go_big_quiet_step (fail))
              refine wpQuiet_nil ?_
              rintro wy ⟨y, hy⟩
              have hwy : Grew w5 wy := by rw [hy]; exact y.2
              clear hL hy y
              have HW5 := hid (grew_trans HX5.out hwy)
              clear hwy n0 n2 oa ob ct
              go_wp2
              go_roundg (n - (j + 1))
              case measure => have := HGJ.out; omega
              case rel => exact ⟨j + 1, by omega, by go_num, hid rfl, by rw [HPM.out], hid (by rw [HPM.out]; exact HKR.out _ HW5.out), hid (HKK.out _ HW5.out)⟩
            · cases br
              · refine wp_region_later (by kernel_rfl) (by kernel_rfl) (fun hL => ?_)
                repeat (go_big_quiet_step (fail))
                refine wpQuiet_nil ?_
                rintro wy ⟨y, hy⟩
                have hwy : Grew w5 wy := by rw [hy]; exact y.2
                clear hL hy y
                have HW5 := hid (grew_trans HX5.out hwy)
                clear hwy n0 n2 oa ob ct
                go_wp2
                go_roundg (n - (j + 1))
                case measure => have := HGJ.out; omega
                case rel => exact ⟨j + 1, by omega, by go_num, hid rfl, by rw [HPM.out], hid (by rw [HPM.out]; exact HKR.out _ HW5.out), hid (HKK.out _ HW5.out)⟩
              · have hdl : decide (ra < rb + dq) = false := decide_eq_false (fun h => HBX.out ⟨rfl, rfl, h⟩)
                have hdl2 : ¬ ra < rb + dq := fun h => HBX.out ⟨rfl, rfl, h⟩
                refine wp_region_later (by kernel_rfl) (by kernel_rfl) (fun hL => ?_)
                repeat (go_big_quiet_step (fail))
                refine wpQuiet_nil ?_
                rintro wy ⟨y, hy⟩
                have hwy : Grew w5 wy := by rw [hy]; exact y.2
                clear hL hy y
                have HW5 := hid (grew_trans HX5.out hwy)
                clear hwy n0 n2 oa ob ct
                go_wp2
                go_roundg (n - (j + 1))
                case measure => have := HGJ.out; omega
                case rel => exact ⟨j + 1, by omega, by go_num, hid rfl, by rw [HPM.out], hid (by rw [HPM.out]; exact HKR.out _ HW5.out), hid (HKK.out _ HW5.out)⟩
        · obtain rfl : j = n := by omega
          have hall := HST.out
          rw [← HN.out, partM_all] at hall
          have HST2 := hid (show rounds (acM g.ms c t) (wt c t) g.ms N (k + 1) = st.1 by simp only [rounds]; rw [hall])
          obtain ⟨b', hb'⟩ : ∃ b, st.2 = b := ⟨_, rfl⟩
          rw [hb']
          have HB' := hid (show (raise (acM g.ms c t) (wt c t) g.ms (rounds (acM g.ms c t) (wt c t) g.ms N k)).2 = b' by rw [hall]; exact hb')
          have HSAME := hid (fun (hf : b' = false) => show st.1 = rounds (acM g.ms c t) (wt c t) g.ms N k by
            have h2 : (raise (acM g.ms c t) (wt c t) g.ms (rounds (acM g.ms c t) (wt c t) g.ms N k)).2 = false := by rw [hall, hb', hf]
            have h3 := (raise_same h2).1
            rw [hall] at h3
            exact h3)
          clear hall hb'
          cases b' with
          | false =>
            have HSAME2 := hid (HSAME.out rfl)
            have HSR := hid (stay_ranks HG.out.h1 HG.out.inN HALLR.out HB'.out)
            obtain rfl : h = true := by rw [← HH.out]; exact HSR.out.1
            go_wp2
            go_ret2
            refine ⟨_, rfl, HGI.out, ?_⟩
            show IsWd wq (.slice (some ⟨G, 0, none⟩) N N) (ranksM g.ms N c t)
            rw [← HSR.out.2, ← HSAME2.out]
            exact HRUN.out.wd (by omega) (Nat.le_refl _)
          | true =>
            go_wp2
            go_roundg (M - (k + 1))
            case measure => have := HGK.out; have := HKL.out; omega
            case rel => exact ⟨k + 1, by have := HKL.out; omega, by have := HKL.out; go_num, hid rfl, hid (lt_succ_all HALLR.out HB'.out), hid (by rw [HST2.out]; exact HRUN.out), HKP⟩
    · obtain rfl : k = M := by omega
      have hf : h = false := by
        rw [← HH.out]
        unfold holdsB
        rw [HALLR.out (N - 1) (by have := HM.out; omega)]; rfl
      subst hf
      go_wp2
      go_ret2
      exact ⟨_, rfl, HGW.out.trans (HKP.out.below (by omega) (fun i _ e => by rw [e]; omega)), wd_nil _⟩
end Go.Proofs.Ytojkohpniokaaaa
