/- Walks: Prove (21) and its functions (62, 66), Refutes (22) of the program. -/
import Derived.Test.YtojkohpniokaaaaPgTop
import Derived.Test.YtojkohpniokaaaaPgPath
import Derived.Test.YtojkohpniokaaaaPgLawP
namespace Go.Lin.Pg
def smallR (r : List Int) : Bool := r.all (fun x => decide (0 ≤ x) && decide (x ≤ 100))
theorem small_nth {r : List Int} (h : smallR r = true) (p : Nat) : 0 ≤ nth r p ∧ nth r p ≤ 100 := by
  by_cases hp : p < r.length
  · rw [nth_lt hp]
    have := List.all_eq_true.1 h r[p] (List.getElem_mem hp)
    simpa using this
  · unfold nth
    simp [List.getD, List.getElem?_eq_none (show r.length ≤ p by omega)]
/-- What Prove answers. -/
def proveA (g : Gr) (c t : Int) (r : List Int) : Bool × Int :=
  if askM g c t = 0 then (if (r.length : Int) = g.n ∧ smallR r = true then (provesB g.ms c t r, 0) else (false, 2)) else (false, askM g c t)
/-- What Refutes answers. -/
def refuteA (g : Gr) (c t : Int) (path circ : List Int) : Bool × Int :=
  if askM g c t = 0 then (refutesB g.ms c t path circ, 0) else (false, askM g c t)
end Go.Lin.Pg
namespace Go.Proofs.Ytojkohpniokaaaa
open Go Go.RowKit Go.Lin Go.Lin.Pg
attribute [local go_sem] run_store_func run_store_nilFunc

theorem out62_any (x : Int) (w : World) : Calls Try.prog 62 #[.int .i64 x] w fun e w' => e = .returned (.bool (!(decide (0 ≤ x) && decide (x ≤ 100)))) ∧ Grew w w' := by
  have HB := hid (between_any 0 x 100 w)
  obtain ⟨b, hb⟩ : ∃ b, (decide (0 ≤ x) && decide (x ≤ 100)) = b := ⟨_, rfl⟩
  rw [hb] at HB ⊢
  clear hb
  cases b
  all_goals (
    go_enter Try.func62, Try.ntmps62
    go_wp2_with (go_at_call 63; (with_reducible refine HB.out.mono ?_); rintro e w1 ⟨rfl, hx⟩)
    go_ret
    exact ⟨rfl, hx⟩)

set_option maxHeartbeats 4000000 in
set_option maxRecDepth 20000 in
theorem prove66_any (g : Gr) (N : Nat) (hG : GOk g N) (c t : Int) (r : List Int) (m : Mv) (hmem : m ∈ g.ms) (hrl : r.length = N) (hrs : ∀ p, 0 ≤ nth r p ∧ nth r p ≤ 100) (f1v f2v tv rv : Value) (Bc Bt Br : Nat) (w : World)
    (hf1 : IsFn w f1v (wi c t)) (hf2 : IsFn w f2v (mu c t)) (a0 : w.cell? ⟨Bc, 0, none⟩ = some f1v) (a1 : w.cell? ⟨Bc, 1, none⟩ = some f2v) (b0 : w.cell? ⟨Bt, 0, none⟩ = some tv) (d0 : w.cell? ⟨Br, 0, none⟩ = some rv)
    (ht : IsInts Any w tv (reachedM g.ms N)) (hr : IsInts Any w rv r) :
    Calls Try.prog 66 #[encM m, .pointer (some ⟨Bc, 0, none⟩), .pointer (some ⟨Bt, 0, none⟩), .pointer (some ⟨Br, 0, none⟩)] w fun e w' =>
      e = .returned (.bool (acM g.ms c t m && decide (nth r (fr m).toNat < nth r (tg m).toNat + (wt c t m : Int)))) ∧ Grew w w' := by
  have HF1 := hid hf1; have HF2 := hid hf2
  obtain ⟨f1, k1, rfl, hen1, hf1⟩ := hf1
  obtain ⟨f2, k2, rfl, hen2, -⟩ := hf2
  obtain ⟨W1, hW1, g1, hb1⟩ := box4v w m
  have l0 := hb1.c0
  have l1 := hb1.c1
  have l2 := hb1.c2
  have l3 := hb1.c3
  have hlt := hb1.lt
  have hz1 := World.block_lt_of_cell? w _ a0
  have hz2 := World.block_lt_of_cell? w _ b0
  have hz3 := World.block_lt_of_cell? w _ d0
  simp only at hz1 hz2 hz3
  have A0 := (g1.cell (p := ⟨Bc, 0, none⟩) hz1).trans a0
  have A1 := (g1.cell (p := ⟨Bc, 1, none⟩) hz1).trans a1
  have B0 := (g1.cell (p := ⟨Bt, 0, none⟩) hz2).trans b0
  have D0 := (g1.cell (p := ⟨Br, 0, none⟩) hz3).trans d0
  have hy1 := Nat.lt_of_lt_of_le hz1 g1.size
  have hy2 := Nat.lt_of_lt_of_le hz2 g1.size
  have hy3 := Nat.lt_of_lt_of_le hz3 g1.size
  have HG1 := hid g1
  have HCF := hid (fun (W' : World) (h : Grew W1 W') => hf1 W' (grew_trans HG1.out h) m)
  have HCON := hid (fun (W' : World) (h : Grew W1 W') => contains67_any tv (reachedM g.ms N) (fr m) W' (Reads.grew ht (grew_trans HG1.out h)))
  rw [contains_reached hG.h1 hG.h8 hG.inN] at HCON
  have HSTEP := hid (fun (W' : World) (h : Grew W1 W') => step68_any _ _ (wi c t) (mu c t) m W' (HF1.out.grew (grew_trans HG1.out h)) (HF2.out.grew (grew_trans HG1.out h)))
  have hin := hG.inN m hmem
  obtain ⟨ta, tc, htv, -⟩ := ht
  obtain ⟨ra, rc, hrv, hrm, hrc⟩ := hr
  subst htv hrv
  have HRC := hid hrc
  obtain ⟨nr, hnr⟩ : ∃ nr, (reachedM g.ms N).length = nr := ⟨_, rfl⟩
  rw [hnr] at B0 HCON
  rw [hrl] at D0 hrm
  obtain ⟨dq, hdq⟩ : ∃ d : Int, (if mu c t m then (1 : Int) else 0) = d := ⟨_, rfl⟩
  have hwt : (wt c t m : Int) = dq := by rw [← hdq]; unfold wt; split <;> rfl
  rw [hdq] at HSTEP
  have hdb : 0 ≤ dq ∧ dq ≤ 1 := by rw [← hdq]; split <;> omega
  rw [hwt]
  have hN8 := hG.h8
  obtain ⟨bp, hbp⟩ : ∃ b, wi c t m = b := ⟨_, rfl⟩
  obtain ⟨br, hbr⟩ : ∃ b, reachB g.ms (fr m) = b := ⟨_, rfl⟩
  have hac : acM g.ms c t m = (bp && br) := by unfold acM; rw [hbp, hbr]
  rw [hac]
  rw [hbp] at HCF
  rw [hbr] at HCON
  clear hdq hwt hbp hbr hac hb1 a0 a1 b0 d0 hf1 hnr hrc hG hmem g1
  obtain ⟨x1, x2, x3, x4⟩ := m
  simp only [fr, tg] at hin
  obtain ⟨xa, rfl⟩ : ∃ xa : Nat, x1 = (xa : Int) := ⟨x1.toNat, by omega⟩
  obtain ⟨xb, rfl⟩ : ∃ xb : Nat, x3 = (xb : Int) := ⟨x3.toNat, by omega⟩
  have hxa : xa < N := by omega
  have hxb : xb < N := by omega
  obtain ⟨gb, goff, oa, rfl, hga, _, hca⟩ := HRC.out xa (by rw [hrl]; exact hxa)
  obtain ⟨_, _, ob, e1, hgb, _, hcb⟩ := HRC.out xb (by rw [hrl]; exact hxb)
  simp only [Option.some.injEq, Addr.mk.injEq, and_true] at e1
  obtain ⟨rfl, rfl⟩ := e1
  have hgl := lt_of_obj hga
  have r0 := (HG1.out.cell (p := ⟨gb, goff + xa, none⟩) hgl).trans hca
  have r1 := (HG1.out.cell (p := ⟨gb, goff + xb, none⟩) hgl).trans hcb
  have hgl1 := Nat.lt_of_lt_of_le hgl HG1.out.size
  simp only [fr, tg, Int.toNat_natCast]
  have hra := hrs xa
  have hrb := hrs xb
  obtain ⟨va, hva⟩ : ∃ v, nth r xa = v := ⟨_, rfl⟩
  obtain ⟨vb, hvb⟩ : ∃ v, nth r xb = v := ⟨_, rfl⟩
  simp only [hva] at r0 hra ⊢
  simp only [hvb] at r1 hrb ⊢
  have hxaN : (xa : Int) < (N : Int) := by omega
  have hxbN : (xb : Int) < (N : Int) := by omega
  simp only [Nat.zero_add, encM, fr] at l0 l1 l2 l3 hW1 HCF HSTEP HCON
  unfold encM
  simp only
  clear hva hvb hca hcb hga hgb hin hrs hz1 hz2 hz3
  cases bp with
  | false =>
    go_enter Try.func66, Try.ntmps66
    go_wp2
    refine wp_region_later (by kernel_rfl) (by kernel_rfl) (fun hL => ?_)
    repeat (go_big_quiet_step (first
      | (exact calls_later (show Calls _ _ _ _ _ from HCF.out _ (Subtype.property _)))))
    refine wpQuiet_nil ?_
    rintro wy ⟨y, hy⟩
    have hwy : Grew W1 wy := by rw [hy]; exact y.2
    clear hL hy y
    go_wp2
    go_ret
    exact ⟨rfl, grew_trans HG1.out hwy⟩
  | true =>
    cases br with
    | false =>
      go_enter Try.func66, Try.ntmps66
      go_wp2
      refine wp_region_later (by kernel_rfl) (by kernel_rfl) (fun hL => ?_)
      repeat (go_big_quiet_step (first
        | (go_at_call 67; exact calls_later (HCON.out _ (Subtype.property _)))
        | (exact calls_later (show Calls _ _ _ _ _ from HCF.out _ (Subtype.property _)))))
      refine wpQuiet_nil ?_
      rintro wy ⟨y, hy⟩
      have hwy : Grew W1 wy := by rw [hy]; exact y.2
      clear hL hy y
      go_wp2
      go_ret
      exact ⟨rfl, grew_trans HG1.out hwy⟩
    | true =>
      obtain ⟨dd, hdd⟩ : ∃ dd, decide (va < vb + dq) = dd := ⟨_, rfl⟩
      have hdd2 : decide (vb + dq > va) = dd := hdd
      rw [hdd]
      cases dd
      all_goals (
        go_enter Try.func66, Try.ntmps66
        go_wp2
        refine wp_region_later (by kernel_rfl) (by kernel_rfl) (fun hL => ?_)
        repeat (go_big_quiet_step (first
          | (go_at_call 67; exact calls_later (HCON.out _ (Subtype.property _)))
          | (go_at_call 68; exact calls_later (HSTEP.out _ (Subtype.property _)))
          | (exact calls_later (show Calls _ _ _ _ _ from HCF.out _ (Subtype.property _)))))
        refine wpQuiet_nil ?_
        rintro wy ⟨y, hy⟩
        have hwy : Grew W1 wy := by rw [hy]; exact y.2
        clear hL hy y
        go_wp2
        go_ret
        exact ⟨rfl, grew_trans HG1.out hwy⟩)

theorem any_not_small {r : List Int} : r.any (fun x => !(decide (0 ≤ x) && decide (x ≤ 100))) = !smallR r := by
  unfold smallR
  induction r with
  | nil => rfl
  | cons x r ih => rw [List.any_cons, List.all_cons, ih]; exact (Bool.not_and _ _).symm

theorem any_not_proves {ms : List Mv} {c t : Int} {r : List Int} : ms.any (fun m => acM ms c t m && decide (nth r (fr m).toNat < nth r (tg m).toNat + (wt c t m : Int))) = !provesB ms c t r := by
  unfold provesB
  have : ∀ l : List Mv, l.any (fun m => acM ms c t m && decide (nth r (fr m).toNat < nth r (tg m).toNat + (wt c t m : Int))) = !l.all (fun m => !(acM ms c t m && decide (nth r (fr m).toNat < nth r (tg m).toNat + (wt c t m : Int)))) := by
    intro l
    induction l with
    | nil => rfl
    | cons x l ih => rw [List.any_cons, List.all_cons, ih, Bool.not_and, Bool.not_not]
  exact this ms

set_option maxHeartbeats 4000000 in
set_option maxRecDepth 20000 in
theorem prove21_any (v : Value) (g : Gr) (c t : Int) (rv : Value) (r : List Int) (w : World) (hn : -9223372036854775808 ≤ g.n ∧ g.n ≤ 9223372036854775807) (hv : IsGr w v g) (hr : IsInts Any w rv r) :
    Calls Try.prog 21 #[v, .int .i64 c, .int .i64 t, rv] w fun e w' => e = .returned (.tuple #[.bool (proveA g c t r).1, .int .i64 (proveA g c t r).2]) ∧ Grew w w' := by
  have HV := hid hv
  have HR := hid hr
  obtain ⟨s, rfl, hms⟩ := hv
  have HMS := hid hms
  obtain ⟨l, hl⟩ : ∃ l, r.length = l := ⟨_, rfl⟩
  obtain ⟨ra, rc, rfl, hrm, -⟩ := hr
  rw [hl] at HR hrm ⊢
  have HL := hid hl
  obtain ⟨W0, hW0, g0, k0, k1, hz⟩ := box2 w (.int .i64 g.n) s 24
  obtain ⟨W1, hW1, g1, j0, hz1⟩ := box1 W0 (.slice ra l rc) 25
  have K0 := (g1.cell (p := ⟨w.heap.size, 0, none⟩) hz).trans k0
  have K1 := (g1.cell (p := ⟨w.heap.size, 1, none⟩) hz).trans k1
  have hz' := Nat.lt_of_lt_of_le hz g1.size
  have HG1 := hid (grew_trans g0 g1)
  clear hms k0 k1 hl
  by_cases ha : askM g c t = 0
  · have hval := (ask_valid ha).1
    have hG := gOk_valid hval
    have he : proveA g c t r = if (r.length : Int) = g.n ∧ smallR r = true then (provesB g.ms c t r, 0) else (false, 2) := by unfold proveA; rw [if_pos ha]
    rw [he, HL.out]
    have HASK := hid (asked_ok (w := W1) hn (HV.out.grew HG1.out) ha)
    have hgn := hG.n
    obtain ⟨N, hN⟩ : ∃ N, g.N = N := ⟨_, rfl⟩
    rw [hN] at hG hgn
    have HGK := hid hG
    rw [hgn] at K0 HV HASK hW0 hn ⊢
    clear he ha hval hG hN
    by_cases hln : (l : Int) = (N : Int)
    · have HCF := hid (fun (W' : World) (h : Grew w W') => containsFunc_any 62 #[] (fun x => !(decide (0 ≤ x) && decide (x ≤ 100))) (.slice ra l rc) r W' (fun _ _ => by kernel_rfl) (Reads.grew HR.out h) (fun i _ W _ => out62_any (nth r i) W))
      rw [any_not_small] at HCF
      obtain ⟨sm, hsm⟩ : ∃ b, smallR r = b := ⟨_, rfl⟩
      have HSM := hid hsm
      rw [hsm] at HCF ⊢
      obtain rfl : N = l := by omega
      clear hsm
      cases sm with
      | false =>
        rw [if_neg (by simp)]
        go_enter Try.func21, Try.ntmps21
        go_wp2_with (first
          | (go_at_call 58; (with_reducible refine HASK.out.mono ?_); rintro e w1 ⟨f1, c1, f2, c2, rfl, hx, -, -⟩; have HX := hid hx; obtain ⟨W2, hW2, g2, e0, e1, hz2⟩ := box2 w1 (.func (.func f1) #[] c1) (.func (.func f2) #[] c2) 72; have x0 := ((grew_trans hx g2).cell (p := ⟨w.heap.size, 0, none⟩) hz').trans K0; have x2 := ((grew_trans hx g2).cell (p := ⟨W0.heap.size, 0, none⟩) hz1).trans j0; have HG2 := hid (grew_trans HG1.out (grew_trans hx g2)); clear hx)
          | (go_at_call 61; (with_reducible refine (HCF.out _ HG2.out).mono ?_); rintro e w3 ⟨rfl, hy⟩; have HY := hid hy; clear hy))
        go_ret2
        exact ⟨rfl, grew_trans HG2.out HY.out⟩
      | true =>
        rw [if_pos ⟨rfl, rfl⟩]
        have HS := hid (small_nth HSM.out)
        have HRCH := hid (fun (W' : World) (h : Grew w W') => reached64_any g N HGK.out (.agg #[.int .i64 (N : Int), s]) W' (HV.out.grew h))
        have HMVW := hid (fun (W' : World) (h : Grew w W') => HMS.out.grew h)
        go_enter Try.func21, Try.ntmps21
        go_wp2_with (first
          | (go_at_call 58; (with_reducible refine HASK.out.mono ?_); rintro e w1 ⟨f1, c1, f2, c2, rfl, hx, hi1, hi2⟩; have HX := hid hx; obtain ⟨W2, hW2, g2, e0, e1, hz2⟩ := box2 w1 (.func (.func f1) #[] c1) (.func (.func f2) #[] c2) 72; have x0 := ((grew_trans hx g2).cell (p := ⟨w.heap.size, 0, none⟩) hz').trans K0; have x1 := ((grew_trans hx g2).cell (p := ⟨w.heap.size, 1, none⟩) hz').trans K1; have x2 := ((grew_trans hx g2).cell (p := ⟨W0.heap.size, 0, none⟩) hz1).trans j0; have HG2 := hid (grew_trans HG1.out (grew_trans hx g2)); have HI1 := hid (hi1.grew g2); have HI2 := hid (hi2.grew g2); have hzx := Nat.lt_of_lt_of_le hz' (grew_trans hx g2).size; have hzy := Nat.lt_of_lt_of_le hz1 (grew_trans hx g2).size; clear hx hi1 hi2)
          | (go_at_call 61; (with_reducible refine (HCF.out _ HG2.out).mono ?_); rintro e w3 ⟨rfl, hy⟩; have HY := hid hy; have y0 := (hy.cell (p := ⟨w.heap.size, 0, none⟩) hzx).trans x0; have y1 := (hy.cell (p := ⟨w.heap.size, 1, none⟩) hzx).trans x1; have y2 := (hy.cell (p := ⟨W0.heap.size, 0, none⟩) hzy).trans x2; have y3 := (hy.cell (p := ⟨w1.heap.size, 0, none⟩) hz2).trans e0; have y4 := (hy.cell (p := ⟨w1.heap.size, 1, none⟩) hz2).trans e1; have hzx3 := Nat.lt_of_lt_of_le hzx hy.size; have hzy3 := Nat.lt_of_lt_of_le hzy hy.size; have hz23 := Nat.lt_of_lt_of_le hz2 hy.size; clear hy)
          | (go_at_call 64; (with_reducible refine (HRCH.out _ (grew_trans HG2.out HY.out)).mono ?_); rintro e w4 ⟨u4, rfl, hx4, hs4⟩; have HX4 := hid hx4; have HS4 := hid hs4; obtain ⟨a4, c4, rfl, _⟩ := hs4.shape; obtain ⟨W5, hW5, g5, t0, hz5⟩ := box1 w4 (.slice a4 (reachedM g.ms N).length c4) 25; have g35 := grew_trans hx4 g5; have z0 := (g35.cell (p := ⟨w.heap.size, 0, none⟩) hzx3).trans y0; have z1 := (g35.cell (p := ⟨w.heap.size, 1, none⟩) hzx3).trans y1; have z2 := (g35.cell (p := ⟨W0.heap.size, 0, none⟩) hzy3).trans y2; have z3 := (g35.cell (p := ⟨w1.heap.size, 0, none⟩) hz23).trans y3; have z4 := (g35.cell (p := ⟨w1.heap.size, 1, none⟩) hz23).trans y4; have HG35 := hid g35; have HGF := hid (grew_trans HG2.out (grew_trans HY.out g35)); have hP := contains65_any 66 #[.pointer (some ⟨w1.heap.size, 0, none⟩), .pointer (some ⟨w4.heap.size, 0, none⟩), .pointer (some ⟨W0.heap.size, 0, none⟩)] (fun m => acM g.ms c t m && decide (nth r (fr m).toNat < nth r (tg m).toNat + (wt c t m : Int))) s g.ms W5 (fun _ _ => by kernel_rfl) (HMVW.out _ HGF.out) (fun W hW m hm => prove66_any g N HGK.out c t r m hm HL.out HS.out _ _ (.slice a4 (reachedM g.ms N).length c4) (.slice ra N rc) w1.heap.size w4.heap.size W0.heap.size W (HI1.out.grew (grew_trans HY.out (grew_trans HG35.out hW))) (HI2.out.grew (grew_trans HY.out (grew_trans HG35.out hW))) ((hW.cell (p := ⟨w1.heap.size, 0, none⟩) (Nat.lt_of_lt_of_le hz23 HG35.out.size)).trans z3) ((hW.cell (p := ⟨w1.heap.size, 1, none⟩) (Nat.lt_of_lt_of_le hz23 HG35.out.size)).trans z4) ((hW.cell (p := ⟨w4.heap.size, 0, none⟩) hz5).trans t0) ((hW.cell (p := ⟨W0.heap.size, 0, none⟩) (Nat.lt_of_lt_of_le hzy3 HG35.out.size)).trans z2) (Reads.grew (isInts_any HS4.out) (grew_trans g5 hW)) (Reads.grew HR.out (grew_trans HGF.out hW))); rw [any_not_proves] at hP; have HP := hid hP; clear hP hx4 hs4)
          | (go_at_call 65; (with_reducible refine (HP.out).mono ?_); rintro e w6 ⟨rfl, h6⟩; have H6 := hid h6; clear h6))
        go_ret2
        refine ⟨?_, grew_trans HGF.out H6.out⟩
        cases provesB g.ms c t r <;> rfl
    · rw [if_neg (fun h => hln h.1)]
      have hlb : ((l : Int) != (N : Int)) = true := by simp [hln]
      have hlb2 : ((l : Int) == (N : Int)) = false := by simp [hln]
      go_enter Try.func21, Try.ntmps21
      go_wp2_with (go_at_call 58; (with_reducible refine HASK.out.mono ?_); rintro e w1 ⟨f1, c1, f2, c2, rfl, hx, -, -⟩; have HX := hid hx; obtain ⟨W2, hW2, g2, e0, e1, hz2⟩ := box2 w1 (.func (.func f1) #[] c1) (.func (.func f2) #[] c2) 72; have x0 := ((grew_trans hx g2).cell (p := ⟨w.heap.size, 0, none⟩) hz').trans K0; have x2 := ((grew_trans hx g2).cell (p := ⟨W0.heap.size, 0, none⟩) hz1).trans j0; have HG2 := hid (grew_trans HG1.out (grew_trans hx g2)); clear hx)
      go_ret2
      exact ⟨rfl, HG2.out⟩
  · have he : proveA g c t r = (false, askM g c t) := by unfold proveA; rw [if_neg ha]
    rw [he]
    have HASK := hid (asked_bad (w := W1) hn (HV.out.grew HG1.out) ha)
    obtain ⟨r', hr'⟩ : ∃ r, askM g c t = r := ⟨_, rfl⟩
    rw [hr'] at HASK ha ⊢
    clear he hr'
    go_enter Try.func21, Try.ntmps21
    go_wp2_with (go_at_call 58; (with_reducible refine HASK.out.mono ?_); rintro e w1 ⟨rfl, hx⟩)
    go_ret2
    exact ⟨rfl, grew_alloc (grew_trans HG1.out hx) _⟩
end Go.Proofs.Ytojkohpniokaaaa
