/- The law SpecSides, its other cases. -/
import Derived.Test.YtnebpcpihldllaaLSides
namespace Go.Proofs.Ytnebpcpihldllaa
open Go.RowKit Go.Lin

set_option maxHeartbeats 8000000 in
set_option maxRecDepth 100000 in
theorem specSides_noword (s t : RSpec) (n p m q : Nat) (hz0 : Sized s t n p m q) (ws : List Int) (sv tv v : Value) (w : World) (hs : IsSpec w sv s) (ht : IsSpec w tv t) (hx : IsInts Any w v ws) (hvs : validM s = true) (hvt : validM t = true)
    (hnm : n * m ≤ 8) (hpq : p + q ≤ 4) (hw : isWordM (bothM s t).ops ws = false) :
    Calls Try.prog 9 #[sv, tv, v] w fun e w' => e = .returned (.bool true) ∧ Grew w w' := by
  obtain ⟨sBR, clR, hSR⟩ := sames_exist (machOf (bothM s t))
  have hvb := valid_both hz0 hnm hpq hvs hvt
  have hcm := fun (z a b : Nat) (hz : z < n * m) (ha : a < p) (hb : b < q) => commuteOf_both hz0 hnm hpq hvs hvt sBR hSR.same hz ha hb
  obtain ⟨N, hN⟩ : ∃ N, n * m = N := ⟨_, rfl⟩
  have hRst : (bothM s t).st = (N : Int) := by rw [bothM_of hz0, ← hN, Int.natCast_mul]
  have hRop : (bothM s t).ops = (p : Int) + (q : Int) := by rw [bothM_of hz0]
  have he0 : bothE s t = 0 := by
    unfold bothE
    rw [hvs, hvt, hz0.st, hz0.st', hz0.ops, hz0.ops', ← Int.natCast_mul]
    simp; omega
  have hS0 : bothS s t = bothM s t := by unfold bothS; rw [if_pos he0]
  have hB := fun (y : World) (hy : Grew w y) => both_any s t sv tv y (hs.grew hy) (ht.grew hy)
  rw [he0, hS0] at hB
  obtain ⟨R, hR⟩ : ∃ R, bothM s t = R := ⟨_, rfl⟩
  rw [hR] at hvb hRst hRop hB hw
  simp only [hR, hN] at hcm
  have hsB := hSR.same
  rw [hR] at hsB
  have HLO1 := hid (fun (y : World) (hy : Grew w y) => long_any s sv y (hs.grew hy))
  have HLO2 := hid (fun (y : World) (hy : Grew w y) => long_any t tv y (ht.grew hy))
  have HV1 := hid (fun (y : World) (hy : Grew w y) => refValid_any s sv y (hs.grew hy))
  have HV2 := hid (fun (y : World) (hy : Grew w y) => refValid_any t tv y (ht.grew hy))
  rw [hvs] at HV1
  rw [hvt] at HV2
  have HB := hid hB
  have HVB := hid (fun (u : Value) (y : World) (hu : IsSpec y u R) => refValid_any R u y hu)
  rw [hvb] at HVB
  have HCM := hid (fun (z a b : Int) (u : Value) (y : World) (hu : IsSpec y u R) => commute_any R sBR hsB z a b u y hu)
  have HCF := hid hcm
  have HIW := hid (fun (u : Value) (y : World) (hu : IsSpec y u R) (hy : Grew w y) => isWord_any R u v ws y hu (hx.grew hy))
  rw [hw] at HIW
  have HRS2 := hid hRst; have HRO2 := hid hRop
  have n8 := hz0.n8; have m8 := hz0.m8; have p4 := hz0.p4; have q4 := hz0.q4
  have hwr : IntKind.i64.wrap ((n : Int) * (m : Int)) = (N : Int) := by rw [← Int.natCast_mul, hN]; exact IntWalk.i64_in _ (by omega)
  have hN8 : N ≤ 8 := by omega
  obtain ⟨na, nc, ya, yc, hsv⟩ := isSpec_open' hs
  obtain ⟨nb, nd, yb, yd, htv⟩ := isSpec_open' ht
  rw [hz0.st, hz0.ops] at hsv
  rw [hz0.st', hz0.ops'] at htv
  obtain ⟨va, vc, hvv⟩ := ints_shape hx
  subst hsv; subst htv; subst hvv
  obtain ⟨Wa, hWa, ga, k0, k1, k2, k3, hz⟩ := box4 w (.int .i64 (n : Int)) (.int .i64 (p : Int)) (.slice na s.next.length nc) (.slice ya s.says.length yc) 24
  obtain ⟨W0, hW0, gb, l0, l1, l2, l3, hz1⟩ := box4 Wa (.int .i64 (m : Int)) (.int .i64 (q : Int)) (.slice nb t.next.length nd) (.slice yb t.says.length yd) 24
  have g0 := grew_trans ga gb
  have a0 := (gb.cell (p := ⟨w.heap.size, 0, none⟩) hz).trans k0
  have a1 := (gb.cell (p := ⟨w.heap.size, 1, none⟩) hz).trans k1
  have a2 := (gb.cell (p := ⟨w.heap.size, 2, none⟩) hz).trans k2
  have a3 := (gb.cell (p := ⟨w.heap.size, 3, none⟩) hz).trans k3
  have za : w.heap.size < W0.heap.size := Nat.lt_of_lt_of_le hz gb.size
  clear k0 k1 k2 k3 hs ht hx hvs hvt hB hvb hRst hRop he0 hS0 hcm hR hN hsB hSR hnm hpq hw
  have hg := grew_refl W0
  go_enter Try.func9, Try.ntmps9
  go_wp2_with (first
    | (go_at_call 16; with_reducible refine (HLO1.out _ (grew_trans g0 hg)).mono ?_; rintro e w1 ⟨x1, rfl, hx1, hx⟩; replace hg := grew_trans hg hx; have hc := (bcell hg).1; have hza := Nat.lt_of_lt_of_le za hg.size; have hzb := Nat.lt_of_lt_of_le hz1 hg.size; clear hx; rcases hx1 with rfl | rfl)
    | (go_at_call 16; with_reducible refine (HLO2.out _ (grew_trans g0 hg)).mono ?_; rintro e w1 ⟨x1, rfl, hx1, hx⟩; replace hg := grew_trans hg hx; have hc := (bcell hg).1; have hza := Nat.lt_of_lt_of_le za hg.size; have hzb := Nat.lt_of_lt_of_le hz1 hg.size; clear hx; rcases hx1 with rfl | rfl)
    | (go_at_call 33; with_reducible refine (HV1.out _ (grew_trans g0 hg)).mono ?_; rintro e w2 ⟨rfl, hx⟩; replace hg := grew_trans hg hx; have hc := (bcell hg).1; have hza := Nat.lt_of_lt_of_le za hg.size; have hzb := Nat.lt_of_lt_of_le hz1 hg.size; clear hx)
    | (go_at_call 33; with_reducible refine (HV2.out _ (grew_trans g0 hg)).mono ?_; rintro e w3 ⟨rfl, hx⟩; replace hg := grew_trans hg hx; have hc := (bcell hg).1; have hza := Nat.lt_of_lt_of_le za hg.size; have hzb := Nat.lt_of_lt_of_le hz1 hg.size; clear hx)
    | (go_at_call 39; with_reducible refine (HB.out _ (grew_trans g0 hg)).mono ?_; rintro e w7 ⟨u3, rfl, hsp, hx⟩; have HSP := hid hsp; obtain ⟨nr, nrc, yr, yrc, hu3⟩ := isSpec_open hsp; clear hsp; rw [HRS2.out, HRO2.out] at hu3; subst hu3; replace hg := grew_trans hg hx; clear hx; obtain ⟨W3, hW3, g3, x0, x1, x2, x3, zc⟩ := box4 w7 (.int .i64 (N : Int)) (.int .i64 ((p : Int) + (q : Int))) (.slice nr R.next.length nrc) (.slice yr R.says.length yrc) 24; replace hg := grew_trans hg g3; have hg0w := hg; have hgg := grew_refl W3; have hc := (bcell hg).1; have hza := Nat.lt_of_lt_of_le za hg.size; have hzb := Nat.lt_of_lt_of_le hz1 hg.size)
    | (go_at_call 33; with_reducible refine (HVB.out _ _ (HSP.out.grew ?_)).mono ?_; (exact grew_trans g3 hgg); rintro e w4 ⟨rfl, hx⟩; replace hg := grew_trans hg hx; replace hgg := grew_trans hgg hx; have hc := (bcell hg).1; have hcc := (bcell hgg).1; have hza := Nat.lt_of_lt_of_le za hg.size; have hzb := Nat.lt_of_lt_of_le hz1 hg.size; have hzd := Nat.lt_of_lt_of_le zc hgg.size; clear hx)
    | (go_at_call 17; with_reducible refine (awake_any _).mono ?_; rintro e wa ⟨rfl, hxa⟩))
  · go_ret
    exact ⟨rfl, grew_trans (grew_trans g0 hg) hxa⟩
  · go_ret
    exact ⟨rfl, grew_trans (grew_trans g0 hg) hxa⟩
  · clear hc hza hzb hcc hzd HV1 HV2 HLO1 HLO2 HB HVB hWa hW0 hwr
    have HGG := hid hgg
    go_loopg [83] N (fun g zv wr => ∃ z : Nat, z ≤ N ∧ zv = .int .i64 (z : Int) ∧ Hid (g = N - z) ∧ Grew W3 wr)
    case atStart => exact ⟨0, Nat.zero_le _, rfl, hid rfl, hgg⟩
    case round =>
      clear hgg
      obtain ⟨z, hzN, rfl, HG1, hg1⟩ := hrel
      by_cases hzl : z < N
      · have gW := grew_trans hg0w hg1
        have hc := (bcell gW).1
        have hza := Nat.lt_of_lt_of_le za gW.size
        go_wp2
        obtain ⟨wo, rfl⟩ : ∃ wo : World, wo = wr := ⟨_, rfl⟩
        clear hc hza gW
        go_loopg [88] p (fun g av wr => ∃ a : Nat, a ≤ p ∧ av = .int .i64 (a : Int) ∧ Hid (g = p - a) ∧ Grew W3 wr)
        case atStart => exact ⟨0, Nat.zero_le _, rfl, hid rfl, hg1⟩
        case round =>
          clear hg1
          obtain ⟨a, hap, rfl, HG2, hg2⟩ := hrel
          by_cases hal : a < p
          · have gW := grew_trans hg0w hg2
            have hc := (bcell gW).1
            have hzb := Nat.lt_of_lt_of_le hz1 gW.size
            go_wp2
            obtain ⟨wp, rfl⟩ : ∃ wp : World, wp = wr := ⟨_, rfl⟩
            clear hc hzb gW
            go_loopg [93] q (fun g bv wr => ∃ b : Nat, b ≤ q ∧ bv = .int .i64 (b : Int) ∧ Hid (g = q - b) ∧ Grew W3 wr)
            case atStart => exact ⟨0, Nat.zero_le _, rfl, hid rfl, hg2⟩
            case round =>
              clear hg2
              obtain ⟨b, hbq, rfl, HG3, hg3⟩ := hrel
              by_cases hbl : b < q
              · have gW := grew_trans hg0w hg3
                have hc := (bcell gW).1
                have hcc := (bcell hg3).1
                have hza := Nat.lt_of_lt_of_le za gW.size
                have hzb := Nat.lt_of_lt_of_le hz1 gW.size
                have hzd := Nat.lt_of_lt_of_le zc hg3.size
                have hcall := HCM.out (z : Int) (a : Int) ((p : Int) + (b : Int)) _ wr (HSP.out.grew (grew_trans g3 hg3))
                rw [(HCF.out z a b hzl hal hbl).1, (HCF.out z a b hzl hal hbl).2] at hcall
                have HCALL := hid hcall; clear hcall
                have hpb : (p : Int) + (b : Int) ≤ 8 := by omega
                go_wp2_with (go_at_call 41; with_reducible refine HCALL.out.mono ?_; rintro e w5 ⟨rfl, hx5⟩)
                go_roundg (q - (b + 1))
                case measure => have := HG3.out; omega
                case rel => exact ⟨b + 1, by omega, by go_num, hid rfl, grew_trans hg3 hx5⟩
              · obtain rfl : q = b := by omega
                go_wp2
                go_roundg (p - (a + 1))
                case measure => have := HG2.out; omega
                case rel => exact ⟨a + 1, by omega, by go_num, hid rfl, hg3⟩
          · obtain rfl : p = a := by omega
            go_wp2
            go_roundg (N - (z + 1))
            case measure => have := HG1.out; omega
            case rel => exact ⟨z + 1, by omega, by go_num, hid rfl, hg2⟩
      · obtain rfl : N = z := by omega
        have gW := grew_trans hg0w hg1
        have hcc := (bcell hg1).1
        have hzd := Nat.lt_of_lt_of_le zc hg1.size
        have hgg := hg1
        go_wp2_with (first
          | (go_at_call 34; with_reducible refine (HIW.out _ _ (HSP.out.grew ?_) (grew_trans g0 (grew_trans hg0w hgg))).mono ?_; (exact grew_trans g3 hgg); rintro e w8 ⟨rfl, hx⟩; replace hgg := grew_trans hgg hx; have hcc := (bcell hgg).1; have hzd := Nat.lt_of_lt_of_le zc hgg.size; clear hx)
          | (go_at_call 17; with_reducible refine (awake_any _).mono ?_; rintro e wa ⟨rfl, hxa⟩))
        go_ret
        exact ⟨rfl, grew_trans (grew_trans g0 (grew_trans hg0w hgg)) hxa⟩

set_option maxHeartbeats 4000000 in
set_option maxRecDepth 100000 in
theorem specSides_bad (s t : RSpec) (ws : List Int) (sv tv v : Value) (w : World) (hs : IsSpec w sv s) (ht : IsSpec w tv t) (hx : IsInts Any w v ws) (hno : validM s = false ∨ (validM s = true ∧ validM t = false) ∨ (validM s = true ∧ validM t = true ∧ bothE s t = 4)) :
    Calls Try.prog 9 #[sv, tv, v] w fun e w' => e = .returned (.bool true) ∧ Grew w w' := by
  have HLO1 := hid (fun (y : World) (hy : Grew w y) => long_any s sv y (hs.grew hy))
  have HLO2 := hid (fun (y : World) (hy : Grew w y) => long_any t tv y (ht.grew hy))
  have HV1 := hid (fun (y : World) (hy : Grew w y) => refValid_any s sv y (hs.grew hy))
  have HV2 := hid (fun (y : World) (hy : Grew w y) => refValid_any t tv y (ht.grew hy))
  have HB := hid (fun (y : World) (hy : Grew w y) => both_any s t sv tv y (hs.grew hy) (ht.grew hy))
  obtain ⟨na, nc, ya, yc, hsv⟩ := isSpec_open' hs
  obtain ⟨nb, nd, yb, yd, htv⟩ := isSpec_open' ht
  obtain ⟨va, vc, hvv⟩ := ints_shape hx
  subst hsv; subst htv; subst hvv
  obtain ⟨Wa, hWa, ga, k0, k1, k2, k3, hz⟩ := box4 w (.int .i64 s.st) (.int .i64 s.ops) (.slice na s.next.length nc) (.slice ya s.says.length yc) 24
  obtain ⟨W0, hW0, gb, l0, l1, l2, l3, hz1⟩ := box4 Wa (.int .i64 t.st) (.int .i64 t.ops) (.slice nb t.next.length nd) (.slice yb t.says.length yd) 24
  have g0 := grew_trans ga gb
  have a0 := (gb.cell (p := ⟨w.heap.size, 0, none⟩) hz).trans k0
  have a1 := (gb.cell (p := ⟨w.heap.size, 1, none⟩) hz).trans k1
  have a2 := (gb.cell (p := ⟨w.heap.size, 2, none⟩) hz).trans k2
  have a3 := (gb.cell (p := ⟨w.heap.size, 3, none⟩) hz).trans k3
  have za : w.heap.size < W0.heap.size := Nat.lt_of_lt_of_le hz gb.size
  clear k0 k1 k2 k3 hs ht hx
  have hg := grew_refl W0
  rcases hno with h1 | ⟨h1, h2⟩ | ⟨h1, h2, h3⟩
  · rw [h1] at HV1
    clear h1
    go_enter Try.func9, Try.ntmps9
    go_wp2_with (first
    | (go_at_call 16; with_reducible refine (HLO1.out _ (grew_trans g0 hg)).mono ?_; rintro e w1 ⟨x1, rfl, hx1, hx⟩; replace hg := grew_trans hg hx; have hc := (bcell hg).1; have hza := Nat.lt_of_lt_of_le za hg.size; have hzb := Nat.lt_of_lt_of_le hz1 hg.size; clear hx; rcases hx1 with rfl | rfl)
    | (go_at_call 16; with_reducible refine (HLO2.out _ (grew_trans g0 hg)).mono ?_; rintro e w1 ⟨x1, rfl, hx1, hx⟩; replace hg := grew_trans hg hx; have hc := (bcell hg).1; have hza := Nat.lt_of_lt_of_le za hg.size; have hzb := Nat.lt_of_lt_of_le hz1 hg.size; clear hx; rcases hx1 with rfl | rfl)
    | (go_at_call 33; with_reducible refine (HV1.out _ (grew_trans g0 hg)).mono ?_; rintro e w2 ⟨rfl, hx⟩; replace hg := grew_trans hg hx; have hc := (bcell hg).1; have hza := Nat.lt_of_lt_of_le za hg.size; have hzb := Nat.lt_of_lt_of_le hz1 hg.size; clear hx)
    | (go_at_call 33; with_reducible refine (HV2.out _ (grew_trans g0 hg)).mono ?_; rintro e w3 ⟨rfl, hx⟩; replace hg := grew_trans hg hx; have hc := (bcell hg).1; have hza := Nat.lt_of_lt_of_le za hg.size; have hzb := Nat.lt_of_lt_of_le hz1 hg.size; clear hx)
    | (go_at_call 39; with_reducible refine (HB.out _ (grew_trans g0 hg)).mono ?_; rintro e w7 ⟨u3, rfl, hsp, hx⟩; obtain ⟨nr, nrc, yr, yrc, rfl⟩ := isSpec_open hsp; clear hsp; replace hg := grew_trans hg hx; clear hx; obtain ⟨W3, hW3, g3, x0, x1, x2, x3, zc⟩ := box4 w7 (.int .i64 R.st) (.int .i64 R.ops) (.slice nr R.next.length nrc) (.slice yr R.says.length yrc) 24; replace hg := grew_trans hg g3)
    | (go_at_call 17; with_reducible refine (awake_any _).mono ?_; rintro e wa ⟨rfl, hxa⟩))
    all_goals
      go_ret
      exact ⟨rfl, grew_trans (grew_trans g0 hg) hxa⟩
  · rw [h1] at HV1
    rw [h2] at HV2
    clear h1 h2
    go_enter Try.func9, Try.ntmps9
    go_wp2_with (first
    | (go_at_call 16; with_reducible refine (HLO1.out _ (grew_trans g0 hg)).mono ?_; rintro e w1 ⟨x1, rfl, hx1, hx⟩; replace hg := grew_trans hg hx; have hc := (bcell hg).1; have hza := Nat.lt_of_lt_of_le za hg.size; have hzb := Nat.lt_of_lt_of_le hz1 hg.size; clear hx; rcases hx1 with rfl | rfl)
    | (go_at_call 16; with_reducible refine (HLO2.out _ (grew_trans g0 hg)).mono ?_; rintro e w1 ⟨x1, rfl, hx1, hx⟩; replace hg := grew_trans hg hx; have hc := (bcell hg).1; have hza := Nat.lt_of_lt_of_le za hg.size; have hzb := Nat.lt_of_lt_of_le hz1 hg.size; clear hx; rcases hx1 with rfl | rfl)
    | (go_at_call 33; with_reducible refine (HV1.out _ (grew_trans g0 hg)).mono ?_; rintro e w2 ⟨rfl, hx⟩; replace hg := grew_trans hg hx; have hc := (bcell hg).1; have hza := Nat.lt_of_lt_of_le za hg.size; have hzb := Nat.lt_of_lt_of_le hz1 hg.size; clear hx)
    | (go_at_call 33; with_reducible refine (HV2.out _ (grew_trans g0 hg)).mono ?_; rintro e w3 ⟨rfl, hx⟩; replace hg := grew_trans hg hx; have hc := (bcell hg).1; have hza := Nat.lt_of_lt_of_le za hg.size; have hzb := Nat.lt_of_lt_of_le hz1 hg.size; clear hx)
    | (go_at_call 39; with_reducible refine (HB.out _ (grew_trans g0 hg)).mono ?_; rintro e w7 ⟨u3, rfl, hsp, hx⟩; obtain ⟨nr, nrc, yr, yrc, rfl⟩ := isSpec_open hsp; clear hsp; replace hg := grew_trans hg hx; clear hx; obtain ⟨W3, hW3, g3, x0, x1, x2, x3, zc⟩ := box4 w7 (.int .i64 R.st) (.int .i64 R.ops) (.slice nr R.next.length nrc) (.slice yr R.says.length yrc) 24; replace hg := grew_trans hg g3)
    | (go_at_call 17; with_reducible refine (awake_any _).mono ?_; rintro e wa ⟨rfl, hxa⟩))
    all_goals
      go_ret
      exact ⟨rfl, grew_trans (grew_trans g0 hg) hxa⟩
  · rw [h1] at HV1
    rw [h2] at HV2
    rw [h3] at HB
    obtain ⟨R, hR⟩ : ∃ R, bothS s t = R := ⟨_, rfl⟩
    rw [hR] at HB
    clear h1 h2 h3 hR
    go_enter Try.func9, Try.ntmps9
    go_wp2_with (first
    | (go_at_call 16; with_reducible refine (HLO1.out _ (grew_trans g0 hg)).mono ?_; rintro e w1 ⟨x1, rfl, hx1, hx⟩; replace hg := grew_trans hg hx; have hc := (bcell hg).1; have hza := Nat.lt_of_lt_of_le za hg.size; have hzb := Nat.lt_of_lt_of_le hz1 hg.size; clear hx; rcases hx1 with rfl | rfl)
    | (go_at_call 16; with_reducible refine (HLO2.out _ (grew_trans g0 hg)).mono ?_; rintro e w1 ⟨x1, rfl, hx1, hx⟩; replace hg := grew_trans hg hx; have hc := (bcell hg).1; have hza := Nat.lt_of_lt_of_le za hg.size; have hzb := Nat.lt_of_lt_of_le hz1 hg.size; clear hx; rcases hx1 with rfl | rfl)
    | (go_at_call 33; with_reducible refine (HV1.out _ (grew_trans g0 hg)).mono ?_; rintro e w2 ⟨rfl, hx⟩; replace hg := grew_trans hg hx; have hc := (bcell hg).1; have hza := Nat.lt_of_lt_of_le za hg.size; have hzb := Nat.lt_of_lt_of_le hz1 hg.size; clear hx)
    | (go_at_call 33; with_reducible refine (HV2.out _ (grew_trans g0 hg)).mono ?_; rintro e w3 ⟨rfl, hx⟩; replace hg := grew_trans hg hx; have hc := (bcell hg).1; have hza := Nat.lt_of_lt_of_le za hg.size; have hzb := Nat.lt_of_lt_of_le hz1 hg.size; clear hx)
    | (go_at_call 39; with_reducible refine (HB.out _ (grew_trans g0 hg)).mono ?_; rintro e w7 ⟨u3, rfl, hsp, hx⟩; obtain ⟨nr, nrc, yr, yrc, rfl⟩ := isSpec_open hsp; clear hsp; replace hg := grew_trans hg hx; clear hx; obtain ⟨W3, hW3, g3, x0, x1, x2, x3, zc⟩ := box4 w7 (.int .i64 R.st) (.int .i64 R.ops) (.slice nr R.next.length nrc) (.slice yr R.says.length yrc) 24; replace hg := grew_trans hg g3)
    | (go_at_call 17; with_reducible refine (awake_any _).mono ?_; rintro e wa ⟨rfl, hxa⟩))
    all_goals
      go_ret
      exact ⟨rfl, grew_trans (grew_trans g0 hg) hxa⟩

theorem specSides_law (s t : RSpec) (ws : List Int) (sv tv v : Value) (w : World) (hs : IsSpec w sv s) (ht : IsSpec w tv t) (hx : IsInts Any w v ws) :
    Calls Try.prog 9 #[sv, tv, v] w fun e w' => e = .returned (.bool true) ∧ Grew w w' := by
  cases hvs : validM s with
  | false => exact specSides_bad s t ws sv tv v w hs ht hx (.inl hvs)
  | true =>
    cases hvt : validM t with
    | false => exact specSides_bad s t ws sv tv v w hs ht hx (.inr (.inl ⟨hvs, hvt⟩))
    | true =>
      by_cases h4 : bothE s t = 4
      · exact specSides_bad s t ws sv tv v w hs ht hx (.inr (.inr ⟨hvs, hvt, h4⟩))
      · obtain ⟨n, p, m, q, hz⟩ := sized_of hvs hvt
        unfold bothE at h4
        rw [hvs, hvt, hz.st, hz.st', hz.ops, hz.ops', ← Int.natCast_mul] at h4
        simp at h4
        cases hw : isWordM (bothM s t).ops ws with
        | true => exact specSides_main s t n p m q hz ws sv tv v w hs ht hx hvs hvt (by omega) (by omega) hw
        | false => exact specSides_noword s t n p m q hz ws sv tv v w hs ht hx hvs hvt (by omega) (by omega) hw
end Go.Proofs.Ytnebpcpihldllaa
