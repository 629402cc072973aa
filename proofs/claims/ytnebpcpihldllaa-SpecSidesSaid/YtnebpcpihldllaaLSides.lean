/- The law SpecSides: it answers true of every input. -/
import Derived.Test.YtnebpcpihldllaaSides
import Derived.Test.YtnebpcpihldllaaFour
import Derived.Test.YtnebpcpihldllaaLPairs
namespace Go.Lin
open Go.RowKit

theorem old_new (w : World) (u : Value) (t : TypeId) (o : Obj) : ((w.alloc (.cells #[u] t)).alloc o).cell? ⟨w.heap.size, 0, none⟩ = some u := by
  exact (World.cell?_alloc_lt (a := ⟨w.heap.size, 0, none⟩) _ _ (by simp)).trans (one_new w u t)

theorem two_new (w : World) (o : Obj) (u : Value) (t : TypeId) : ((w.alloc o).alloc (.cells #[u] t)).cell? ⟨w.heap.size + 1, 0, none⟩ = some u := by
  have h := one_new (w.alloc o) u t
  rw [World.size_alloc] at h
  exact h

/-- What lay in a new block before an append to an older one lies there behind it. -/
theorem far_new {wF x w8 : World} {v : Value} (hg : x.grownBy w8 v.ownBlock) (hv : ∀ k, v.ownBlock = some k → k < wF.heap.size) : ∀ k u, wF.heap.size ≤ k → x.cell? ⟨k, 0, none⟩ = some u → w8.cell? ⟨k, 0, none⟩ = some u := by
  intro k u hk hc
  have hlt := World.block_lt_of_cell? x _ hc
  have hb := hg.block k hlt (fun e => by have := hv k e.symm; omega)
  rw [World.cell?_of_block (w := x) (a := ⟨k, 0, none⟩) hb]; exact hc

theorem word_in {ops : Int} {ws : List Int} (hw : isWordM ops ws = true) {j : Nat} (hj : j < ws.length) : 0 ≤ nth ws j ∧ nth ws j < ops := by
  unfold isWordM at hw
  rw [Bool.and_eq_true, List.all_eq_true] at hw
  have := hw.1 (nth ws j) (by rw [nth_lt hj]; exact List.getElem_mem hj)
  unfold inM at this
  simpa using this

theorem part_lt {p : Nat} {l : List (Int × Int)} {o r : Int} (h : o < (p : Int)) : firstsI p (l ++ [(o, r)]) = firstsI p l ++ [o] ∧ secondsI p (l ++ [(o, r)]) = secondsI p l ∧ onesI p (l ++ [(o, r)]) = onesI p l ++ [r] ∧ othersI p (l ++ [(o, r)]) = othersI p l := by
  simp [firstsI, secondsI, onesI, othersI, List.filterMap_append, h]
theorem part_ge {p : Nat} {l : List (Int × Int)} {o r : Int} (h0 : (p : Int) ≤ o) : firstsI p (l ++ [(o, r)]) = firstsI p l ∧ secondsI p (l ++ [(o, r)]) = secondsI p l ++ [o - (p : Int)] ∧ onesI p (l ++ [(o, r)]) = onesI p l ∧ othersI p (l ++ [(o, r)]) = othersI p l ++ [r] := by
  have h : ¬ o < (p : Int) := by omega
  simp [firstsI, secondsI, onesI, othersI, List.filterMap_append, h]
end Go.Lin
namespace Go.Proofs.Ytnebpcpihldllaa
open Go.RowKit Go.Lin

set_option maxHeartbeats 8000000 in
set_option maxRecDepth 100000 in
theorem specSides_main (s t : RSpec) (n p m q : Nat) (hz0 : Sized s t n p m q) (ws : List Int) (sv tv v : Value) (w : World) (hs : IsSpec w sv s) (ht : IsSpec w tv t) (hx : IsInts Any w v ws) (hvs : validM s = true) (hvt : validM t = true)
    (hnm : n * m ≤ 8) (hpq : p + q ≤ 4) (hw : isWordM (bothM s t).ops ws = true) :
    Calls Try.prog 9 #[sv, tv, v] w fun e w' => e = .returned (.bool true) ∧ Grew w w' := by
  obtain ⟨sBR, clR, hSR⟩ := sames_exist (machOf (bothM s t))
  have hvb := valid_both hz0 hnm hpq hvs hvt
  have hcm := fun (z a b : Nat) (hz : z < n * m) (ha : a < p) (hb : b < q) => commuteOf_both hz0 hnm hpq hvs hvt sBR hSR.same hz ha hb
  obtain ⟨f0, f1, f2, f3, f4, f5⟩ := sides_facts hz0 hnm hpq hvs hvt hw
  obtain ⟨N, hN⟩ : ∃ N, n * m = N := ⟨_, rfl⟩
  have hRst : (bothM s t).st = (N : Int) := by rw [bothM_of hz0, ← hN, Int.natCast_mul]
  have hRop : (bothM s t).ops = (p : Int) + (q : Int) := by rw [bothM_of hz0]
  have he0 : bothE s t = 0 := by
    unfold bothE
    rw [hvs, hvt, hz0.st, hz0.st', hz0.ops, hz0.ops', ← Int.natCast_mul]
    simp; omega
  have hS0 : bothS s t = bothM s t := by unfold bothS; rw [if_pos he0]
  have hB := fun (y : World) (hy : Grew w y) => both_any s t sv tv y (hs.grew hy) (ht.grew hy)
  rw [he0, hS0] at hB
  obtain ⟨R, hR⟩ : ∃ R, bothM s t = R := ⟨_, rfl⟩
  rw [hR] at hvb hRst hRop hB f0 f1 f2 f3 f4 f5 hw
  simp only [hR, hN] at hcm
  have hsB := hSR.same
  rw [hR] at hsB
  obtain ⟨A, hA⟩ : ∃ A, runL R 0 ws = A := ⟨_, rfl⟩
  rw [hA] at f1 f2 f3 f4 f5
  have HLO1 := hid (fun (y : World) (hy : Grew w y) => long_any s sv y (hs.grew hy))
  have HLO2 := hid (fun (y : World) (hy : Grew w y) => long_any t tv y (ht.grew hy))
  have HV1 := hid (fun (y : World) (hy : Grew w y) => refValid_any s sv y (hs.grew hy))
  have HV2 := hid (fun (y : World) (hy : Grew w y) => refValid_any t tv y (ht.grew hy))
  rw [hvs] at HV1
  rw [hvt] at HV2
  have HB := hid hB
  have HVB := hid (fun (u : Value) (y : World) (hu : IsSpec y u R) => refValid_any R u y hu)
  rw [hvb] at HVB
  have HCM := hid (fun (z a b : Int) (u : Value) (y : World) (hu : IsSpec y u R) => commute_any R sBR hsB z a b u y hu)
  have HCF := hid hcm
  have HIW := hid (fun (u : Value) (y : World) (hu : IsSpec y u R) (hy : Grew w y) => isWord_any R u v ws y hu (hx.grew hy))
  rw [hw] at HIW
  have HRB := hid (fun (u : Value) (y : World) (hu : IsSpec y u R) (hy : Grew w y) => runOf_any R 0 ws u v y hu (hx.grew hy))
  rw [f0, hA] at HRB
  have HRS := hid (fun (xs : List Int) (u : Value) (y : World) (hy : Grew w y) (hu : IsInts Any y u xs) => runOf_any s 0 xs sv u y (hs.grew hy) hu)
  have HRT := hid (fun (xs : List Int) (u : Value) (y : World) (hy : Grew w y) (hu : IsInts Any y u xs) => runOf_any t 0 xs tv u y (ht.grew hy) hu)
  have HF := hid (And.intro f2 (And.intro f3 (And.intro f4 f5)))
  have HRS2 := hid hRst; have HRO2 := hid hRop; have HAL := hid f1
  have HX := hid hx
  have HWB := hid (fun (j : Nat) (hj : j < ws.length) => word_in hw hj)
  have n8 := hz0.n8; have m8 := hz0.m8; have p4 := hz0.p4; have q4 := hz0.q4
  have hwr : IntKind.i64.wrap ((n : Int) * (m : Int)) = (N : Int) := by rw [← Int.natCast_mul, hN]; exact IntWalk.i64_in _ (by omega)
  have hN8 : N ≤ 8 := by omega
  have hw20 : ws.length ≤ 20 := by
    unfold isWordM at hw
    rw [Bool.and_eq_true] at hw
    simpa using hw.2
  obtain ⟨na, nc, ya, yc, hsv⟩ := isSpec_open' hs
  obtain ⟨nb, nd, yb, yd, htv⟩ := isSpec_open' ht
  rw [hz0.st, hz0.ops] at hsv
  rw [hz0.st', hz0.ops'] at htv
  obtain ⟨va, vc, hvv⟩ := ints_shape hx
  subst hsv; subst htv; subst hvv
  obtain ⟨Wa, hWa, ga, k0, k1, k2, k3, hz⟩ := box4 w (.int .i64 (n : Int)) (.int .i64 (p : Int)) (.slice na s.next.length nc) (.slice ya s.says.length yc) 24
  obtain ⟨W0, hW0, gb, l0, l1, l2, l3, hz1⟩ := box4 Wa (.int .i64 (m : Int)) (.int .i64 (q : Int)) (.slice nb t.next.length nd) (.slice yb t.says.length yd) 24
  have g0 := grew_trans ga gb
  have a0 := (gb.cell (p := ⟨w.heap.size, 0, none⟩) hz).trans k0
  have a1 := (gb.cell (p := ⟨w.heap.size, 1, none⟩) hz).trans k1
  have a2 := (gb.cell (p := ⟨w.heap.size, 2, none⟩) hz).trans k2
  have a3 := (gb.cell (p := ⟨w.heap.size, 3, none⟩) hz).trans k3
  have za : w.heap.size < W0.heap.size := Nat.lt_of_lt_of_le hz gb.size
  clear k0 k1 k2 k3 hs ht hx hvs hvt hB hvb hRst hRop he0 hS0 hcm f0 f1 f2 f3 f4 f5 hA hR hN hsB hSR hnm hpq hw
  have hg := grew_refl W0
  go_enter Try.func9, Try.ntmps9
  go_wp2_with (first
    | (go_at_call 16; with_reducible refine (HLO1.out _ (grew_trans g0 hg)).mono ?_; rintro e w1 ⟨x1, rfl, hx1, hx⟩; replace hg := grew_trans hg hx; have hc := (bcell hg).1; have hza := Nat.lt_of_lt_of_le za hg.size; have hzb := Nat.lt_of_lt_of_le hz1 hg.size; clear hx; rcases hx1 with rfl | rfl)
    | (go_at_call 16; with_reducible refine (HLO2.out _ (grew_trans g0 hg)).mono ?_; rintro e w1 ⟨x1, rfl, hx1, hx⟩; replace hg := grew_trans hg hx; have hc := (bcell hg).1; have hza := Nat.lt_of_lt_of_le za hg.size; have hzb := Nat.lt_of_lt_of_le hz1 hg.size; clear hx; rcases hx1 with rfl | rfl)
    | (go_at_call 33; with_reducible refine (HV1.out _ (grew_trans g0 hg)).mono ?_; rintro e w2 ⟨rfl, hx⟩; replace hg := grew_trans hg hx; have hc := (bcell hg).1; have hza := Nat.lt_of_lt_of_le za hg.size; have hzb := Nat.lt_of_lt_of_le hz1 hg.size; clear hx)
    | (go_at_call 33; with_reducible refine (HV2.out _ (grew_trans g0 hg)).mono ?_; rintro e w3 ⟨rfl, hx⟩; replace hg := grew_trans hg hx; have hc := (bcell hg).1; have hza := Nat.lt_of_lt_of_le za hg.size; have hzb := Nat.lt_of_lt_of_le hz1 hg.size; clear hx)
    | (go_at_call 39; with_reducible refine (HB.out _ (grew_trans g0 hg)).mono ?_; rintro e w7 ⟨u3, rfl, hsp, hx⟩; have HSP := hid hsp; obtain ⟨nr, nrc, yr, yrc, hu3⟩ := isSpec_open hsp; clear hsp; rw [HRS2.out, HRO2.out] at hu3; subst hu3; replace hg := grew_trans hg hx; clear hx; obtain ⟨W3, hW3, g3, x0, x1, x2, x3, zc⟩ := box4 w7 (.int .i64 (N : Int)) (.int .i64 ((p : Int) + (q : Int))) (.slice nr R.next.length nrc) (.slice yr R.says.length yrc) 24; replace hg := grew_trans hg g3; have hg0w := hg; have hgg := grew_refl W3; have hc := (bcell hg).1; have hza := Nat.lt_of_lt_of_le za hg.size; have hzb := Nat.lt_of_lt_of_le hz1 hg.size)
    | (go_at_call 33; with_reducible refine (HVB.out _ _ (HSP.out.grew ?_)).mono ?_; (exact grew_trans g3 hgg); rintro e w4 ⟨rfl, hx⟩; replace hg := grew_trans hg hx; replace hgg := grew_trans hgg hx; have hc := (bcell hg).1; have hcc := (bcell hgg).1; have hza := Nat.lt_of_lt_of_le za hg.size; have hzb := Nat.lt_of_lt_of_le hz1 hg.size; have hzd := Nat.lt_of_lt_of_le zc hgg.size; clear hx)
    | (go_at_call 17; with_reducible refine (awake_any _).mono ?_; rintro e wa ⟨rfl, hxa⟩))
  · go_ret
    exact ⟨rfl, grew_trans (grew_trans g0 hg) hxa⟩
  · go_ret
    exact ⟨rfl, grew_trans (grew_trans g0 hg) hxa⟩
  · clear hc hza hzb hcc hzd HV1 HV2 HLO1 HLO2 HB HVB hWa hW0 hwr
    have HGG := hid hgg
    go_loopg [83] N (fun g zv wr => ∃ z : Nat, z ≤ N ∧ zv = .int .i64 (z : Int) ∧ Hid (g = N - z) ∧ Grew W3 wr)
    case atStart => exact ⟨0, Nat.zero_le _, rfl, hid rfl, hgg⟩
    case round =>
      clear hgg
      obtain ⟨z, hzN, rfl, HG1, hg1⟩ := hrel
      by_cases hzl : z < N
      · have gW := grew_trans hg0w hg1
        have hc := (bcell gW).1
        have hza := Nat.lt_of_lt_of_le za gW.size
        go_wp2
        obtain ⟨wo, rfl⟩ : ∃ wo : World, wo = wr := ⟨_, rfl⟩
        clear hc hza gW
        go_loopg [88] p (fun g av wr => ∃ a : Nat, a ≤ p ∧ av = .int .i64 (a : Int) ∧ Hid (g = p - a) ∧ Grew W3 wr)
        case atStart => exact ⟨0, Nat.zero_le _, rfl, hid rfl, hg1⟩
        case round =>
          clear hg1
          obtain ⟨a, hap, rfl, HG2, hg2⟩ := hrel
          by_cases hal : a < p
          · have gW := grew_trans hg0w hg2
            have hc := (bcell gW).1
            have hzb := Nat.lt_of_lt_of_le hz1 gW.size
            go_wp2
            obtain ⟨wp, rfl⟩ : ∃ wp : World, wp = wr := ⟨_, rfl⟩
            clear hc hzb gW
            go_loopg [93] q (fun g bv wr => ∃ b : Nat, b ≤ q ∧ bv = .int .i64 (b : Int) ∧ Hid (g = q - b) ∧ Grew W3 wr)
            case atStart => exact ⟨0, Nat.zero_le _, rfl, hid rfl, hg2⟩
            case round =>
              clear hg2
              obtain ⟨b, hbq, rfl, HG3, hg3⟩ := hrel
              by_cases hbl : b < q
              · have gW := grew_trans hg0w hg3
                have hc := (bcell gW).1
                have hcc := (bcell hg3).1
                have hza := Nat.lt_of_lt_of_le za gW.size
                have hzb := Nat.lt_of_lt_of_le hz1 gW.size
                have hzd := Nat.lt_of_lt_of_le zc hg3.size
                have hcall := HCM.out (z : Int) (a : Int) ((p : Int) + (b : Int)) _ wr (HSP.out.grew (grew_trans g3 hg3))
                rw [(HCF.out z a b hzl hal hbl).1, (HCF.out z a b hzl hal hbl).2] at hcall
                have HCALL := hid hcall; clear hcall
                have hpb : (p : Int) + (b : Int) ≤ 8 := by omega
                go_wp2_with (go_at_call 41; with_reducible refine HCALL.out.mono ?_; rintro e w5 ⟨rfl, hx5⟩)
                go_roundg (q - (b + 1))
                case measure => have := HG3.out; omega
                case rel => exact ⟨b + 1, by omega, by go_num, hid rfl, grew_trans hg3 hx5⟩
              · obtain rfl : q = b := by omega
                go_wp2
                go_roundg (p - (a + 1))
                case measure => have := HG2.out; omega
                case rel => exact ⟨a + 1, by omega, by go_num, hid rfl, hg3⟩
          · obtain rfl : p = a := by omega
            go_wp2
            go_roundg (N - (z + 1))
            case measure => have := HG1.out; omega
            case rel => exact ⟨z + 1, by omega, by go_num, hid rfl, hg2⟩
      · obtain rfl : N = z := by omega
        have gW := grew_trans hg0w hg1
        have hcc := (bcell hg1).1
        have hzd := Nat.lt_of_lt_of_le zc hg1.size
        have hgg := hg1
        have hneq : ((A.length : Int) != (ws.length : Int)) = false := by rw [HAL.out]; simp
        go_wp2_with (first
          | (go_at_call 34; with_reducible refine (HIW.out _ _ (HSP.out.grew ?_) (grew_trans g0 (grew_trans hg0w hgg))).mono ?_; (exact grew_trans g3 hgg); rintro e w8 ⟨rfl, hx⟩; replace hgg := grew_trans hgg hx; have hcc := (bcell hgg).1; have hzd := Nat.lt_of_lt_of_le zc hgg.size; clear hx)
          | (go_at_call 28; with_reducible refine (HRB.out _ _ (HSP.out.grew ?_) (grew_trans g0 (grew_trans hg0w hgg))).mono ?_; (exact grew_trans g3 hgg); rintro e w9 ⟨u9, rfl, hu9, hx⟩; have HU9 := hid hu9; obtain ⟨ua, uc, rfl⟩ := ints_shape hu9; clear hu9; replace hgg := grew_trans hgg hx; clear hx))
        clear hcc hzd hneq hg1 hzl hzN HGG HIW HRB HCM HCF HSP gW
        have gL := grew_trans hg0w hgg
        obtain ⟨Wl, rfl⟩ : ∃ Wl : World, Wl = w9 := ⟨_, rfl⟩
        obtain ⟨L0, hL0⟩ : ∃ L0 : List (Int × Int), L0 = [] := ⟨_, rfl⟩
        go_loopg [17, 18, 19, 20, 139] ws.length (fun g u0 u1 u2 u3 jv wr => ∃ (j : Nat) (x0 x1 x2 x3 : List Int), j ≤ ws.length ∧ jv = .int .i64 (j : Int) ∧ Hid (g = ws.length - j) ∧ Hid (Four Wl wr u0 u1 u2 u3 x0 x1 x2 x3) ∧ x0.length ≤ j ∧ x1.length ≤ j ∧ x2.length ≤ j ∧ x3.length ≤ j ∧
          Hid (x0 = firstsI p ((ws.zip A).take j) ∧ x1 = secondsI p ((ws.zip A).take j) ∧ x2 = onesI p ((ws.zip A).take j) ∧ x3 = othersI p ((ws.zip A).take j)))
        case atStart => exact ⟨0, [], [], [], [], Nat.zero_le _, rfl, hid rfl, hid (Four.start _), by simp, by simp, by simp, by simp, hid ⟨rfl, rfl, rfl, rfl⟩⟩
        case round =>
          obtain ⟨j, x0, x1, x2, x3, hj, rfl, HGj, HFM, y0, y1, y2, y3, HXS⟩ := hrel
          obtain ⟨s0a, s0c, rfl, _⟩ := HFM.out.s0.shape
          obtain ⟨s1a, s1c, rfl, _⟩ := HFM.out.s1.shape
          obtain ⟨s2a, s2c, rfl, _⟩ := HFM.out.s2.shape
          obtain ⟨s3a, s3c, rfl, _⟩ := HFM.out.s3.shape
          have hgw := HFM.out.grew
          by_cases hjl : j < ws.length
          · obtain ⟨vad, vcap, hvv, _, hvc⟩ := HX.out
            simp only [Value.slice.injEq] at hvv
            obtain ⟨rfl, _, rfl⟩ := hvv
            obtain ⟨bv, ov, ob, rfl, hbo, _, hcv⟩ := hvc j hjl
            have hbv : bv < Wl.heap.size := Nat.lt_of_lt_of_le (lt_of_obj hbo) (grew_trans g0 gL).size
            have hcv2 : Wl.cell? ⟨bv, ov + j, none⟩ = some (.int .i64 (nth ws j)) := ((grew_trans g0 gL).cell (p := ⟨bv, ov + j, none⟩) (lt_of_obj hbo)).trans hcv
            obtain ⟨aad, acap, haa, _, hac⟩ := HU9.out
            simp only [Value.slice.injEq] at haa
            obtain ⟨rfl, _, rfl⟩ := haa
            have hjA : j < A.length := by rw [HAL.out]; exact hjl
            obtain ⟨bA, oA, obA, rfl, hbA, _, hcA⟩ := hac j hjA
            have hbA2 := lt_of_obj hbA
            replace hcA : Wl.cell? ⟨bA, oA + j, none⟩ = some (.int .i64 (nth A j)) := hcA
            have hzip := zip_succ hjl HAL.out
            obtain ⟨o, ho⟩ : ∃ o, nth ws j = o := ⟨_, rfl⟩
            obtain ⟨r, hr⟩ : ∃ r, nth A j = r := ⟨_, rfl⟩
            rw [ho, hr] at hzip
            rw [ho] at hcv2
            rw [hr] at hcA
            have hc := (bcell hgw).1
            have hzw := Nat.lt_of_lt_of_le hbv hgw.size
            have hzA := Nat.lt_of_lt_of_le hbA2 hgw.size
            have c1 := ((grew_trans gL hgw).cell (p := ⟨w.heap.size, 1, none⟩) za).trans a1
            have hza := Nat.lt_of_lt_of_le za (grew_trans gL hgw).size
            have hj0 : (0 : Int) ≤ (j : Int) := by omega
            have hj1 : (j : Int) < (A.length : Int) := by omega
            have HZ := hid hzip
            have hob0 := HWB.out j hjl
            rw [ho, HRO2.out] at hob0
            have HOB := hid hob0
            clear hob0
            clear hzip ho hr hvc hac hcv hbo hbA hjA
            obtain ⟨wj, rfl⟩ : ∃ wj : World, wj = wr := ⟨_, rfl⟩
            have c1L := (gL.cell (p := ⟨w.heap.size, 1, none⟩) za).trans a1
            have hzaL := Nat.lt_of_lt_of_le za gL.size
            clear c1
            by_cases hop : o < (p : Int)
            · have hopb : decide (o < (p : Int)) = true := decide_eq_true hop
              go_wp2
              clear hc
              go_region_held3 (fun w' => Grew Wl w' ∧ ∀ b o, b < Wl.heap.size → w'.cell? ⟨b, o, none⟩ = Wl.cell? ⟨b, o, none⟩) (exact later_both (by repeat' (first | assumption | refine grew_alloc ?_ _ | refine grew_drew ?_)))
                (first
                  | ((refine step_append_one (by rfl) _ _ 34 (by rfl) Wl.heap.size 3 Try.underlying34 Try.info3 rfl (by decide) (.slice s0a x0.length s0c) x0.length _ (by rfl) (HFM.out.s0.grew (by repeat' (first | exact grew_refl _ | refine grew_alloc ?_ _ | refine grew_drew ?_))) _ _ (.int .i64 o) (by rfl) (by first | exact one_new _ _ _ | exact old_new _ _ _ _ | exact two_new _ _ _ _ | exact hfar _ _ (by first | (simp; done) | (simp; omega)) (one_new _ _ _) | exact hfar _ _ (by first | (simp; done) | (simp; omega)) (old_new _ _ _ _) | exact hfar _ _ (by first | (simp; done) | (simp; omega)) (two_new _ _ _ _)) rfl (by omega) (by have := HFM.out.grew.size; first | (simp; done) | (simp; omega)) ?_; intro v8 w8 hown8 hgrow8 hblk8; obtain ⟨a8, c8, rfl, _⟩ := hown8.shape; have hfar := far_new hgrow8 (fun k e => (HFM.out.s0.own k e).2.1); have HFN := hid (HFM.out.a0 (by repeat' (first | exact grew_refl _ | refine grew_alloc ?_ _ | refine grew_drew ?_)) hown8 hgrow8 (hblk8.imp id (fun h => ⟨_, h, by first | (simp; done) | (simp; omega)⟩))); clear hown8 hgrow8 hblk8 HFM; have HFM := HFN; clear HFN; have hgw : Grew Wl w8 := HFM.out.grew))
                  | ((refine step_append_one (by rfl) _ _ 34 (by rfl) Wl.heap.size 3 Try.underlying34 Try.info3 rfl (by decide) (.slice s2a x2.length s2c) x2.length _ (by rfl) (HFM.out.s2.grew (by repeat' (first | exact grew_refl _ | refine grew_alloc ?_ _ | refine grew_drew ?_))) _ _ (.int .i64 r) (by rfl) (by first | exact one_new _ _ _ | exact old_new _ _ _ _ | exact two_new _ _ _ _ | exact hfar _ _ (by first | (simp; done) | (simp; omega)) (one_new _ _ _) | exact hfar _ _ (by first | (simp; done) | (simp; omega)) (old_new _ _ _ _) | exact hfar _ _ (by first | (simp; done) | (simp; omega)) (two_new _ _ _ _)) rfl (by omega) (by have := HFM.out.grew.size; first | (simp; done) | (simp; omega)) ?_; intro v8 w8 hown8 hgrow8 hblk8; obtain ⟨a8, c8, rfl, _⟩ := hown8.shape; have hfar := far_new hgrow8 (fun k e => (HFM.out.s2.own k e).2.1); have HFN := hid (HFM.out.a2 (by repeat' (first | exact grew_refl _ | refine grew_alloc ?_ _ | refine grew_drew ?_)) hown8 hgrow8 (hblk8.imp id (fun h => ⟨_, h, by first | (simp; done) | (simp; omega)⟩))); clear hown8 hgrow8 hblk8 HFM; have HFM := HFN; clear HFN; have hgw : Grew Wl w8 := HFM.out.grew)))
              all_goals
                go_wp2
                go_roundg (ws.length - (j + 1))
                case measure => have := HGj.out; omega
                case rel =>
                  refine ⟨j + 1, _, _, _, _, by omega, by go_num, hid rfl, HFM, by simp; omega, by omega, by simp; omega, by omega, hid ?_⟩
                  obtain ⟨e0, e1, e2, e3⟩ := HXS.out
                  rw [HZ.out, (part_lt hop).1, (part_lt hop).2.1, (part_lt hop).2.2.1, (part_lt hop).2.2.2, ← e0, ← e1, ← e2, ← e3]
                  exact ⟨rfl, rfl, rfl, rfl⟩
            · replace hop : (p : Int) ≤ o := by omega
              have hopb : decide (o < (p : Int)) = false := decide_eq_false (by omega)
              have hob := HOB.out
              have hws : IntKind.i64.wrap (o - (p : Int)) = o - (p : Int) := IntWalk.i64_in _ (by omega)
              go_wp2
              clear hc
              go_region_held3 (fun w' => Grew Wl w' ∧ ∀ b o, b < Wl.heap.size → w'.cell? ⟨b, o, none⟩ = Wl.cell? ⟨b, o, none⟩) (exact later_both (by repeat' (first | assumption | refine grew_alloc ?_ _ | refine grew_drew ?_)))
                (first
                  | ((refine step_append_one (by rfl) _ _ 34 (by rfl) Wl.heap.size 3 Try.underlying34 Try.info3 rfl (by decide) (.slice s1a x1.length s1c) x1.length _ (by rfl) (HFM.out.s1.grew (by repeat' (first | exact grew_refl _ | refine grew_alloc ?_ _ | refine grew_drew ?_))) _ _ (.int .i64 (o - (p : Int))) (by rfl) (by first | exact one_new _ _ _ | exact old_new _ _ _ _ | exact two_new _ _ _ _ | exact hfar _ _ (by first | (simp; done) | (simp; omega)) (one_new _ _ _) | exact hfar _ _ (by first | (simp; done) | (simp; omega)) (old_new _ _ _ _) | exact hfar _ _ (by first | (simp; done) | (simp; omega)) (two_new _ _ _ _)) rfl (by omega) (by have := HFM.out.grew.size; first | (simp; done) | (simp; omega)) ?_; intro v8 w8 hown8 hgrow8 hblk8; obtain ⟨a8, c8, rfl, _⟩ := hown8.shape; have hfar := far_new hgrow8 (fun k e => (HFM.out.s1.own k e).2.1); have HFN := hid (HFM.out.a1 (by repeat' (first | exact grew_refl _ | refine grew_alloc ?_ _ | refine grew_drew ?_)) hown8 hgrow8 (hblk8.imp id (fun h => ⟨_, h, by first | (simp; done) | (simp; omega)⟩))); clear hown8 hgrow8 hblk8 HFM; have HFM := HFN; clear HFN; have hgw : Grew Wl w8 := HFM.out.grew))
                  | ((refine step_append_one (by rfl) _ _ 34 (by rfl) Wl.heap.size 3 Try.underlying34 Try.info3 rfl (by decide) (.slice s3a x3.length s3c) x3.length _ (by rfl) (HFM.out.s3.grew (by repeat' (first | exact grew_refl _ | refine grew_alloc ?_ _ | refine grew_drew ?_))) _ _ (.int .i64 r) (by rfl) (by first | exact one_new _ _ _ | exact old_new _ _ _ _ | exact two_new _ _ _ _ | exact hfar _ _ (by first | (simp; done) | (simp; omega)) (one_new _ _ _) | exact hfar _ _ (by first | (simp; done) | (simp; omega)) (old_new _ _ _ _) | exact hfar _ _ (by first | (simp; done) | (simp; omega)) (two_new _ _ _ _)) rfl (by omega) (by have := HFM.out.grew.size; first | (simp; done) | (simp; omega)) ?_; intro v8 w8 hown8 hgrow8 hblk8; obtain ⟨a8, c8, rfl, _⟩ := hown8.shape; have hfar := far_new hgrow8 (fun k e => (HFM.out.s3.own k e).2.1); have HFN := hid (HFM.out.a3 (by repeat' (first | exact grew_refl _ | refine grew_alloc ?_ _ | refine grew_drew ?_)) hown8 hgrow8 (hblk8.imp id (fun h => ⟨_, h, by first | (simp; done) | (simp; omega)⟩))); clear hown8 hgrow8 hblk8 HFM; have HFM := HFN; clear HFN; have hgw : Grew Wl w8 := HFM.out.grew)))
              all_goals
                go_wp2
                go_roundg (ws.length - (j + 1))
                case measure => have := HGj.out; omega
                case rel =>
                  refine ⟨j + 1, _, _, _, _, by omega, by go_num, hid rfl, HFM, by omega, by simp; omega, by omega, by simp; omega, hid ?_⟩
                  obtain ⟨e0, e1, e2, e3⟩ := HXS.out
                  rw [HZ.out, (part_ge hop).1, (part_ge hop).2.1, (part_ge hop).2.2.1, (part_ge hop).2.2.2, ← e0, ← e1, ← e2, ← e3]
                  exact ⟨rfl, rfl, rfl, rfl⟩
          · obtain rfl : j = ws.length := by omega
            have hxs := HXS.out
            rw [List.take_of_length_le (by rw [List.length_zip]; omega)] at hxs
            obtain ⟨e0, e1, e2, e3⟩ := hxs
            obtain ⟨f2, f3, f4, f5⟩ := HF.out
            rw [← e0, ← e2] at f3
            rw [← e0] at f2
            rw [← e1] at f4
            rw [← e1, ← e3] at f5
            have i0 : IsInts Any wr (.slice s0a x0.length s0c) x0 := HFM.out.s0.isInts.any
            have i1 : IsInts Any wr (.slice s1a x1.length s1c) x1 := HFM.out.s1.isInts.any
            have i2 : IsInts Any wr (.slice s2a x2.length s2c) x2 := HFM.out.s2.isInts.any
            have i3 : IsInts Any wr (.slice s3a x3.length s3c) x3 := HFM.out.s3.isInts.any
            have gz := grew_trans gL hgw
            have hr1 := fun (y : World) (hy : Grew wr y) => HRS.out x0 _ y (grew_trans g0 (grew_trans gz hy)) (i0.grew hy)
            have hr2 := fun (y : World) (hy : Grew wr y) => HRT.out x1 _ y (grew_trans g0 (grew_trans gz hy)) (i1.grew hy)
            rw [f2, f3] at hr1
            rw [f4, f5] at hr2
            have HR1 := hid hr1; have HR2 := hid hr2; have I2 := hid i2; have I3 := hid i3
            have hc := (bcell gz).1
            have hza := Nat.lt_of_lt_of_le za gz.size
            have hzb := Nat.lt_of_lt_of_le hz1 gz.size
            have hgr := grew_refl wr
            clear hr1 hr2 i0 i1 i2 i3 e0 e1 e2 e3 f2 f3 f4 f5 HXS HF
            go_wp2_with (first
              | (go_at_call 28; with_reducible refine (HR1.out _ hgr).mono ?_; rintro e wa ⟨ub, rfl, hub, hxa⟩; have HUB := hid hub; obtain ⟨uba, ubc, rfl⟩ := ints_shape hub; clear hub; replace hgr := grew_trans hgr hxa; have hga := grew_refl wa; have hc := (bcell (grew_trans gz hgr)).1; have hza := Nat.lt_of_lt_of_le za (grew_trans gz hgr).size; have hzb := Nat.lt_of_lt_of_le hz1 (grew_trans gz hgr).size)
              | (go_at_call 28; with_reducible refine (HR2.out _ hgr).mono ?_; rintro e wb ⟨ud, rfl, hud, hxb⟩; have HUD := hid hud; obtain ⟨uda, udc, rfl⟩ := ints_shape hud; clear hud; replace hgr := grew_trans hgr hxb; replace hga := grew_trans hga hxb; have hgb := grew_refl wb)
              | (go_at_call 25; with_reducible refine (sameInts_same _ _ x2 _ (HUB.out.grew hga) (I2.out.grew hgr)).mono ?_; rintro e wc ⟨rfl, hxc⟩; replace hgr := grew_trans hgr hxc; replace hgb := grew_trans hgb hxc)
              | (go_at_call 25; with_reducible refine (sameInts_same _ _ x3 _ (HUD.out.grew hgb) (I3.out.grew hgr)).mono ?_; rintro e wd ⟨rfl, hxd⟩; replace hgr := grew_trans hgr hxd)
              | (go_at_call 17; with_reducible refine (awake_any _).mono ?_; rintro e we ⟨rfl, hxe⟩))
            go_ret
            exact ⟨rfl, grew_trans (grew_trans g0 gz) (grew_trans hgr hxe)⟩
end Go.Proofs.Ytnebpcpihldllaa
