/- Walks of the reference: Prove (23), Refutes (24). -/
import Derived.Test.YtojkohpniokaaaaPgRef3
import Derived.Test.YtojkohpniokaaaaPgRefutes
namespace Go.Lin.Pg
theorem small_false {r : List Int} {j : Nat} (hj : j < r.length) (h : ¬ (0 ≤ nth r j ∧ nth r j ≤ 100)) : smallR r = false := by
  unfold smallR
  refine List.all_eq_false.2 ⟨nth r j, by rw [nth_lt hj]; exact List.getElem_mem hj, ?_⟩
  simp only [Bool.and_eq_true, decide_eq_true_eq]
  exact h
theorem small_all {r : List Int} (h : ∀ j, j < r.length → 0 ≤ nth r j ∧ nth r j ≤ 100) : smallR r = true := by
  unfold smallR
  refine List.all_eq_true.2 (fun x hx => ?_)
  obtain ⟨i, hi, rfl⟩ := List.getElem_of_mem hx
  have := h i hi
  rw [nth_lt hi] at this
  simpa using this
/-- Whether a move refutes ranks. -/
def badM (ms : List Mv) (c t : Int) (r : List Int) (m : Mv) : Bool := acM ms c t m && decide (nth r (fr m).toNat < nth r (tg m).toNat + (wt c t m : Int))
theorem proves_false {ms : List Mv} {c t : Int} {r : List Int} {j : Nat} {m : Mv} (hm : ms[j]? = some m) (h : badM ms c t r m = true) : provesB ms c t r = false := by
  unfold provesB
  refine List.all_eq_false.2 ⟨m, List.mem_of_getElem? hm, ?_⟩
  unfold badM at h
  rw [h]; simp
theorem proves_all {ms : List Mv} {c t : Int} {r : List Int} (h : ∀ (j : Nat) (m : Mv), ms[j]? = some m → badM ms c t r m = false) : provesB ms c t r = true := by
  unfold provesB
  refine List.all_eq_true.2 (fun m hm => ?_)
  obtain ⟨i, hi, rfl⟩ := List.getElem_of_mem hm
  have := h i _ (List.getElem?_eq_getElem hi)
  unfold badM at this
  rw [this]; rfl
end Go.Lin.Pg
namespace Go.Proofs.Ytojkohpniokaaaa
open Go Go.RowKit Go.Lin Go.Lin.Pg

set_option maxHeartbeats 8000000 in
set_option maxRecDepth 100000 in
theorem rProve23_any (v : Value) (g : Gr) (c t : Int) (rv : Value) (r : List Int) (w : World) (hv : IsGr w v g) (hr : IsInts Any w rv r) :
    Calls Try.prog 23 #[v, .int .i64 c, .int .i64 t, rv] w fun e w' => e = .returned (.tuple #[.bool (proveA g c t r).1, .int .i64 (proveA g c t r).2]) ∧ Grew w w' := by
  have HV := hid hv
  have HR := hid hr
  obtain ⟨s, rfl, hms⟩ := hv
  obtain ⟨n, hn'⟩ : ∃ n, g.ms.length = n := ⟨_, rfl⟩
  obtain ⟨va, vc, rfl, ⟨hm1, hm2⟩, hmvs⟩ := hms
  rw [hn'] at hm1 hm2 HV ⊢
  have HMVS := hid hmvs; have HN := hid hn'
  obtain ⟨l, hl⟩ : ∃ l, r.length = l := ⟨_, rfl⟩
  obtain ⟨ra, rc, rfl, hrm, hrc⟩ := hr
  rw [hl] at HR hrm hrc ⊢
  have HL := hid hl
  have HRC := hid hrc
  obtain ⟨W0, hW0, g0, k0, k1, hz⟩ := box2 w (.int .i64 g.n) (.slice va n vc) 24
  have HG0 := hid g0
  have HASK := hid (asked70_any _ g c t W0 (HV.out.grew g0))
  clear hmvs hn' hl hrc
  by_cases ha : askM g c t = 0
  · have hval := (ask_valid ha).1
    have hG := gOk_valid hval
    have he : proveA g c t r = if (r.length : Int) = g.n ∧ smallR r = true then (provesB g.ms c t r, 0) else (false, 2) := by unfold proveA; rw [if_pos ha]
    rw [he, HL.out]
    rw [ha] at HASK
    have hgn := hG.n
    obtain ⟨N, hN⟩ : ∃ N, g.N = N := ⟨_, rfl⟩
    rw [hN] at hG hgn
    have HGK := hid hG
    have hc3 := clm_cases ha
    have HF := hid (fun (m : Mv) (W : World) => falls72_any m c t W hc3)
    have hN8 := hG.h8
    rw [hgn] at k0 HV HASK hW0 ⊢
    have HRCH := hid (fun (W : World) (h : Grew w W) => reached71_any g N HGK.out _ W (HV.out.grew h))
    clear he ha hval hG hN hc3 hgn
    obtain ⟨res, hres⟩ : ∃ res : Bool × Int, (if (l : Int) = (N : Int) ∧ smallR r = true then (provesB g.ms c t r, 0) else (false, 2)) = res := ⟨_, rfl⟩
    rw [hres]
    have HRES := hid hres
    clear hres
    by_cases hln : (l : Int) = (N : Int)
    · obtain rfl : N = l := by omega
      go_enter Try.func23, Try.ntmps23
      go_wp2_with (go_at_call 70; (with_reducible refine HASK.out.mono ?_); rintro e w1 ⟨rfl, hx⟩; have HX := hid hx; have k0' := (hx.cell (p := ⟨w.heap.size, 0, none⟩) hz).trans k0; have K1 := hid ((hx.cell (p := ⟨w.heap.size, 1, none⟩) hz).trans k1); have hzx := Nat.lt_of_lt_of_le hz hx.size; have K0 := hid k0'; clear hx)
      clear k0 k1 k0' hW0 g0
      go_loopg [12, 32] N (fun k _ i wr => ∃ j : Nat, j ≤ N ∧ i = .int .i64 (j : Int) ∧ Hid (k = N - j) ∧ Hid (∀ q, q < j → 0 ≤ nth r q ∧ nth r q ≤ 100) ∧ wr = w1)
      case atStart => exact ⟨0, by omega, rfl, hid rfl, hid (fun q hq => by omega), rfl⟩
      case round =>
        obtain ⟨j, hj, rfl, HK, HS, rfl⟩ := hrel
        rename World => wr
        have HGW := hid (grew_trans HG0.out HX.out)
        by_cases hlt : j < N
        · obtain ⟨b, off, o, rfl, hb, _, hcj⟩ := HRC.out j hlt
          have hbl := lt_of_obj hb
          have hcj0 := (HGW.out.cell (p := ⟨b, off + j, none⟩) hbl).trans hcj
          have hbl1 := Nat.lt_of_lt_of_le hbl HGW.out.size
          have hltI : (j : Int) < (N : Int) := by omega
          have HSF := hid (fun h => small_false (r := r) (j := j) (by rw [HL.out]; exact hlt) h)
          obtain ⟨y, hy⟩ : ∃ y, nth r j = y := ⟨_, rfl⟩
          have HY := hid hy
          rw [hy] at HSF
          simp only [hy] at hcj0
          clear hb hcj hy
          by_cases hy0 : y < 0
          · have HSF2 := hid (HSF.out (by omega))
            go_wp2
            go_ret2
            refine ⟨?_, HGW.out⟩
            rw [← HRES.out, if_neg (by rw [HSF2.out]; rintro ⟨_, h⟩; cases h)]; rfl
          · have hd1 : decide (y < 0) = false := decide_eq_false hy0
            by_cases hy1 : y > 100
            · have HSF2 := hid (HSF.out (by omega))
              go_wp2
              go_ret2
              refine ⟨?_, HGW.out⟩
              rw [← HRES.out, if_neg (by rw [HSF2.out]; rintro ⟨_, h⟩; cases h)]; rfl
            · have hd2 : decide (y > 100) = false := decide_eq_false hy1
              have HYB := hid (show 0 ≤ y ∧ y ≤ 100 by omega)
              go_wp2
              go_roundg (N - (j + 1))
              case measure => have := HK.out; omega
              case rel => exact ⟨j + 1, by omega, by go_num, hid rfl, hid (lt_succ_all HS.out (by rw [HY.out]; exact HYB.out)), rfl⟩
        · obtain rfl : j = N := by omega
          have HSM := hid (small_all (fun q hq => HS.out q (by rw [← HL.out]; exact hq)))
          have HSN := hid (small_nth HSM.out)
          have k0' := K0.out
          have k1' := K1.out
          go_wp2_with (go_at_call 71; (with_reducible refine (HRCH.out _ HGW.out).mono ?_); rintro e w2 ⟨T, rfl, hx, hT1, hT2⟩; have HX2 := hid hx; have HT1 := hid hT1; have HT2 := hid hT2; have z0 := (hx.cell (p := ⟨w.heap.size, 0, none⟩) hzx).trans k0'; have z1 := (hx.cell (p := ⟨w.heap.size, 1, none⟩) hzx).trans k1'; have hzy := Nat.lt_of_lt_of_le hzx hx.size; clear hx hT1 hT2)
          have Z1 := hid z1
          have HGW2 := hid (grew_trans HGW.out HX2.out)
          clear k0' k1' z0 z1
          go_loopg [15, 16, 17, 48, 52] n (fun k _ _ _ i _ wq => ∃ q : Nat, q ≤ n ∧ i = .int .i64 (q : Int) ∧ Hid (k = n - q) ∧ Hid (∀ p m, p < q → g.ms[p]? = some m → badM g.ms c t r m = false) ∧ Hid (Grew w2 wq))
          case atStart => exact ⟨0, by omega, rfl, hid rfl, hid (fun p m hp => by omega), hid (grew_refl _)⟩
          case round =>
            obtain ⟨q, hq, rfl, HKQ, HBD, HGQ⟩ := hrel
            rename World => wq
            have HGI := hid (grew_trans HGW2.out HGQ.out)
            by_cases hqn : q < n
            · obtain ⟨x, hx⟩ : ∃ x, g.ms[q]? = some x := ⟨_, List.getElem?_eq_getElem (by rw [HN.out]; exact hqn)⟩
              obtain ⟨bb, boff, rfl, hpa⟩ := HMVS.out q x hx
              have hpa2 := hpa.grew hpa.lt HGI.out
              have p0 := hpa2.c0
              have p1 := hpa2.c1
              have p2 := hpa2.c2
              have p3 := hpa2.c3
              have hplt := hpa2.lt
              have hxN := HGK.out.inN x (List.mem_of_getElem? hx)
              obtain ⟨Y1, hY1, e1, hb1⟩ := box4v wq x
              have l0 := hb1.c0
              have l1 := hb1.c1
              have l2 := hb1.c2
              have l3 := hb1.c3
              have hzl := hb1.lt
              have HE1 := hid e1
              have HFX := hid (HF.out x Y1)
              have hqI : (q : Int) < (n : Int) := by omega
              have HX := hid hx
              have hbad : badM g.ms c t r x = (wi c t x && (reachB g.ms (fr x) && decide (nth r (fr x).toNat < nth r (tg x).toNat + (wt c t x : Int)))) := by unfold badM acM; rw [Bool.and_assoc]
              obtain ⟨bp, hbp⟩ : ∃ b, wi c t x = b := ⟨_, rfl⟩
              rw [hbp] at HFX hbad
              obtain ⟨dq, hdq⟩ : ∃ d : Int, (wt c t x : Int) = d := ⟨_, rfl⟩
              have hdb : 0 ≤ dq ∧ dq ≤ 1 := by rw [← hdq]; have := wt_le c t x; omega
              rw [hdq] at HFX hbad
              obtain ⟨x1, x2, x3, x4⟩ := x
              obtain ⟨xa, rfl⟩ : ∃ xa : Nat, x1 = (xa : Int) := ⟨x1.toNat, by simp only [fr] at hxN; omega⟩
              obtain ⟨xb, rfl⟩ : ∃ xb : Nat, x3 = (xb : Int) := ⟨x3.toNat, by simp only [tg] at hxN; omega⟩
              have hxa : xa < j := by simp only [fr] at hxN; omega
              have hxb : xb < j := by simp only [tg] at hxN; omega
              have hxaI : (xa : Int) < (j : Int) := by omega
              have hxbI : (xb : Int) < (j : Int) := by omega
              simp only [Nat.zero_add, encM] at p0 p1 p2 p3 l0 l1 l2 l3 hY1 HFX
              simp only [fr, tg, Int.toNat_natCast] at hbad
              have hthr := reachR_eq (ms := g.ms) HGK.out.h1 HGK.out.h8 HGK.out.inN (p := xa)
              obtain ⟨br, hbr⟩ : ∃ b, reachB g.ms (xa : Int) = b := ⟨_, rfl⟩
              rw [hbr] at hthr hbad
              have HTHR := hid hthr
              obtain ⟨gb, goff, oa, rfl, hga, _, hca⟩ := HRC.out xa hxa
              obtain ⟨_, _, ob, e1', hgb, _, hcb⟩ := HRC.out xb hxb
              simp only [Option.some.injEq, Addr.mk.injEq, and_true] at e1'
              obtain ⟨rfl, rfl⟩ := e1'
              have hgl := lt_of_obj hga
              have HCA := hid hca; have HCB := hid hcb
              have hrab := HSN.out xa
              have hrbb := HSN.out xb
              obtain ⟨ra', hra⟩ : ∃ v, nth r xa = v := ⟨_, rfl⟩
              obtain ⟨rb', hrb⟩ : ∃ v, nth r xb = v := ⟨_, rfl⟩
              have HRA := hid hra; have HRB := hid hrb
              simp only [hra] at hrab hbad
              simp only [hrb] at hrbb hbad
              have HBAD := hid hbad
              clear hx hpa hpa2 hb1 hxN hbp hdq e1 hthr hbr hga hgb hca hcb hra hrb hbad
              go_wp2_with (go_at_call 72; (with_reducible refine HFX.out.mono ?_); rintro e w5 ⟨rfl, hx5⟩; have HX5 := hid hx5; have HG5 := hid (grew_trans HGI.out (grew_trans HE1.out hx5)); have n0 := (hx5.cell (p := ⟨wq.heap.size, 0, none⟩) hzl).trans l0; have n2 := (hx5.cell (p := ⟨wq.heap.size, 2, none⟩) hzl).trans l2; have hz5 := Nat.lt_of_lt_of_le hzl hx5.size; have hT5 := HT2.out.grew (grew_trans HGQ.out (grew_trans HE1.out hx5)); have ct := (hT5.cell hxa).1; rw [HTHR.out] at ct; have hTl := hT5.lt; have oa := (HG5.out.cell (p := ⟨gb, goff + xa, none⟩) hgl).trans HCA.out; have ob := (HG5.out.cell (p := ⟨gb, goff + xb, none⟩) hgl).trans HCB.out; simp only [HRA.out] at oa; simp only [HRB.out] at ob; have hgl5 := Nat.lt_of_lt_of_le hgl HG5.out.size; clear hT5 hx5)
              clear l0 l1 l2 l3 p0 p1 p2 p3
              have hwab : IntKind.i64.wrap (rb' + dq) = rb' + dq := IntWalk.i64_in _ (by omega)
              have HGE := hid (grew_trans HGQ.out (grew_trans HE1.out HX5.out))
              obtain ⟨dd, hdd⟩ : ∃ dd, decide (ra' < rb' + dq) = dd := ⟨_, rfl⟩
              rw [hdd] at HBAD
              cases bp with
              | false =>
                refine wp_region_later (by kernel_rfl) (by kernel_rfl) (fun hL => ?_)
                repeat (go_big_quiet_step (fail))
                refine wpQuiet_nil ?_
                rintro wy ⟨y, hy⟩
                have hwy : Grew w5 wy := by rw [hy]; exact y.2
                clear hL hy y
                go_wp2
                go_roundg (n - (q + 1))
                case measure => have := HKQ.out; omega
                case rel =>
                  refine ⟨q + 1, by omega, by go_num, hid rfl, hid (fun p m hp hm => ?_), hid (grew_trans HGE.out hwy)⟩
                  rcases Nat.lt_or_eq_of_le (Nat.le_of_lt_succ hp) with h | rfl
                  · exact HBD.out p m h hm
                  · rw [HX.out] at hm; cases hm; exact HBAD.out
              | true =>
                cases br with
                | false =>
                  refine wp_region_later (by kernel_rfl) (by kernel_rfl) (fun hL => ?_)
                  repeat (go_big_quiet_step (fail))
                  refine wpQuiet_nil ?_
                  rintro wy ⟨y, hy⟩
                  have hwy : Grew w5 wy := by rw [hy]; exact y.2
                  clear hL hy y
                  go_wp2
                  go_roundg (n - (q + 1))
                  case measure => have := HKQ.out; omega
                  case rel =>
                    refine ⟨q + 1, by omega, by go_num, hid rfl, hid (fun p m hp hm => ?_), hid (grew_trans HGE.out hwy)⟩
                    rcases Nat.lt_or_eq_of_le (Nat.le_of_lt_succ hp) with h | rfl
                    · exact HBD.out p m h hm
                    · rw [HX.out] at hm; cases hm; exact HBAD.out
                | true =>
                  cases dd with
                  | false =>
                    refine wp_region_later (by kernel_rfl) (by kernel_rfl) (fun hL => ?_)
                    repeat (go_big_quiet_step (fail))
                    refine wpQuiet_nil ?_
                    rintro wy ⟨y, hy⟩
                    have hwy : Grew w5 wy := by rw [hy]; exact y.2
                    clear hL hy y
                    go_wp2
                    go_roundg (n - (q + 1))
                    case measure => have := HKQ.out; omega
                    case rel =>
                      refine ⟨q + 1, by omega, by go_num, hid rfl, hid (fun p m hp hm => ?_), hid (grew_trans HGE.out hwy)⟩
                      rcases Nat.lt_or_eq_of_le (Nat.le_of_lt_succ hp) with h | rfl
                      · exact HBD.out p m h hm
                      · rw [HX.out] at hm; cases hm; exact HBAD.out
                  | true =>
                    have HPF := hid (proves_false HX.out HBAD.out)
                    refine wp_region_later (by kernel_rfl) (by kernel_rfl) (fun hL => ?_)
                    repeat (go_big_quiet_step (fail))
                    refine wpQuiet_nil ?_
                    rintro wy ⟨y, hy⟩
                    have hwy : Grew w5 wy := by rw [hy]; exact y.2
                    clear hL hy y
                    go_wp2
                    go_ret2
                    refine ⟨?_, grew_trans HG5.out hwy⟩
                    rw [← HRES.out, if_pos (by first | exact ⟨rfl, HSM.out⟩ | exact ⟨trivial, HSM.out⟩), HPF.out]; rfl
            · obtain rfl : q = n := by omega
              have HPT := hid (proves_all (ms := g.ms) (c := c) (t := t) (r := r) (fun p m hm => HBD.out p m (by have := (List.getElem?_eq_some_iff.1 hm).1; rw [HN.out] at this; exact this) hm))
              go_wp2
              go_ret2
              refine ⟨?_, HGI.out⟩
              rw [← HRES.out, if_pos (by first | exact ⟨rfl, HSM.out⟩ | exact ⟨trivial, HSM.out⟩), HPT.out]; rfl
    · obtain rfl : res = (false, 2) := by rw [← HRES.out, if_neg (fun h => hln h.1)]
      have hlb : ((l : Int) != (N : Int)) = true := by simp [hln]
      have hlb2 : ((l : Int) == (N : Int)) = false := by simp [hln]
      go_enter Try.func23, Try.ntmps23
      go_wp2_with (go_at_call 70; (with_reducible refine HASK.out.mono ?_); rintro e w1 ⟨rfl, hx⟩; have HX := hid hx; have k0' := (hx.cell (p := ⟨w.heap.size, 0, none⟩) hz).trans k0; have k1' := (hx.cell (p := ⟨w.heap.size, 1, none⟩) hz).trans k1; clear hx)
      go_ret2
      exact ⟨rfl, grew_trans HG0.out HX.out⟩
  · have he : proveA g c t r = (false, askM g c t) := by unfold proveA; rw [if_neg ha]
    rw [he]
    obtain ⟨r', hr'⟩ : ∃ r, askM g c t = r := ⟨_, rfl⟩
    rw [hr'] at HASK ha ⊢
    have ha1 : (r' == 0) = false := by simpa using ha
    have ha2 : (r' != 0) = true := by simpa using ha
    clear he hr'
    go_enter Try.func23, Try.ntmps23
    go_wp2_with (go_at_call 70; (with_reducible refine HASK.out.mono ?_); rintro e w1 ⟨rfl, hx⟩)
    go_ret2
    exact ⟨rfl, grew_trans HG0.out hx⟩
end Go.Proofs.Ytojkohpniokaaaa
