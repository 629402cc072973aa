/- The law SpecPairs: it answers true of every input. -/
import Derived.Test.YtnebpcpihldllaaWBoth
import Derived.Test.YtnebpcpihldllaaWRefBoth
import Derived.Test.YtnebpcpihldllaaWBothBad
import Derived.Test.YtnebpcpihldllaaWUnlike
import Derived.Test.YtnebpcpihldllaaLRuns
namespace Go.Proofs.Ytnebpcpihldllaa
open Go.RowKit Go.Lin

theorem both_any (s t : RSpec) (sv tv : Value) (w : World) (hs : IsSpec w sv s) (ht : IsSpec w tv t) :
    Calls Try.prog 39 #[sv, tv] w fun e w' => ∃ u, e = .returned (.tuple #[u, .int .i64 (bothE s t)]) ∧ IsSpec w' u (bothS s t) ∧ Grew w w' := by
  have zero : ∀ (ev : Int), ev ≠ 0 → bothE s t = ev → Calls Try.prog 39 #[sv, tv] w (fun e w' => e = .returned (.tuple #[zeroSpec, .int .i64 ev]) ∧ Grew w w') →
      Calls Try.prog 39 #[sv, tv] w fun e w' => ∃ u, e = .returned (.tuple #[u, .int .i64 (bothE s t)]) ∧ IsSpec w' u (bothS s t) ∧ Grew w w' := by
    intro ev h0 he h
    refine h.mono ?_
    rintro e w' ⟨rfl, hg⟩
    refine ⟨_, by rw [he], ?_, hg⟩
    unfold bothS
    rw [if_neg (by rw [he]; exact h0)]
    exact isSpec_zero _
  cases hvs : validM s with
  | false => exact zero 10 (by decide) (by unfold bothE; rw [hvs]; rfl) (both_bad1 s t sv tv w hs ht hvs)
  | true =>
    cases hvt : validM t with
    | false => exact zero 10 (by decide) (by unfold bothE; rw [hvs, hvt]; rfl) (both_bad2 s t sv tv w hs ht hvs hvt)
    | true =>
      by_cases h1 : 8 < s.st * t.st
      · exact zero 4 (by decide) (by unfold bothE; rw [hvs, hvt]; simp [h1]) (both_big1 s t sv tv w hs ht hvs hvt h1)
      · by_cases h2 : 4 < s.ops + t.ops
        · exact zero 4 (by decide) (by unfold bothE; rw [hvs, hvt]; simp [h2]) (both_big2 s t sv tv w hs ht hvs hvt ⟨h1, h2⟩)
        · have he : bothE s t = 0 := by unfold bothE; rw [hvs, hvt]; simp; omega
          obtain ⟨n, p, m, q, hz⟩ := sized_of hvs hvt
          have hnm : n * m ≤ 8 := by
            rw [hz.st, hz.st', ← Int.natCast_mul] at h1
            omega
          rw [he, show bothS s t = bothM s t by unfold bothS; rw [if_pos he]]
          exact both_ok s t n p m q hz sv tv w hs ht hvs hvt hnm (by rw [hz.ops, hz.ops'] at h2; omega)

theorem refBoth_any (s t : RSpec) (sv tv : Value) (w : World) (hs : IsSpec w sv s) (ht : IsSpec w tv t) :
    Calls Try.prog 40 #[sv, tv] w fun e w' => ∃ u, e = .returned (.tuple #[u, .int .i64 (bothE s t)]) ∧ IsSpec w' u (bothS s t) ∧ Grew w w' := by
  have zero : ∀ (ev : Int), ev ≠ 0 → bothE s t = ev → Calls Try.prog 40 #[sv, tv] w (fun e w' => e = .returned (.tuple #[zeroSpec, .int .i64 ev]) ∧ Grew w w') →
      Calls Try.prog 40 #[sv, tv] w fun e w' => ∃ u, e = .returned (.tuple #[u, .int .i64 (bothE s t)]) ∧ IsSpec w' u (bothS s t) ∧ Grew w w' := by
    intro ev h0 he h
    refine h.mono ?_
    rintro e w' ⟨rfl, hg⟩
    refine ⟨_, by rw [he], ?_, hg⟩
    unfold bothS
    rw [if_neg (by rw [he]; exact h0)]
    exact isSpec_zero _
  cases hvs : validM s with
  | false => exact zero 10 (by decide) (by unfold bothE; rw [hvs]; rfl) (refBoth_bad1 s t sv tv w hs ht hvs)
  | true =>
    cases hvt : validM t with
    | false => exact zero 10 (by decide) (by unfold bothE; rw [hvs, hvt]; rfl) (refBoth_bad2 s t sv tv w hs ht hvs hvt)
    | true =>
      by_cases h1 : 8 < s.st * t.st
      · exact zero 4 (by decide) (by unfold bothE; rw [hvs, hvt]; simp [h1]) (refBoth_big1 s t sv tv w hs ht hvs hvt h1)
      · by_cases h2 : 4 < s.ops + t.ops
        · exact zero 4 (by decide) (by unfold bothE; rw [hvs, hvt]; simp [h2]) (refBoth_big2 s t sv tv w hs ht hvs hvt ⟨h1, h2⟩)
        · have he : bothE s t = 0 := by unfold bothE; rw [hvs, hvt]; simp; omega
          obtain ⟨n, p, m, q, hz⟩ := sized_of hvs hvt
          have hnm : n * m ≤ 8 := by
            rw [hz.st, hz.st', ← Int.natCast_mul] at h1
            omega
          rw [he, show bothS s t = bothM s t by unfold bothS; rw [if_pos he]]
          exact refBoth_ok s t n p m q hz sv tv w hs ht hvs hvt hnm (by rw [hz.ops, hz.ops'] at h2; omega)

set_option maxHeartbeats 4000000 in
set_option maxRecDepth 100000 in
theorem specPairs_law (s t : RSpec) (sv tv : Value) (w : World) (hs : IsSpec w sv s) (ht : IsSpec w tv t) :
    Calls Try.prog 8 #[sv, tv] w fun e w' => e = .returned (.bool true) ∧ Grew w w' := by
  obtain ⟨L, ev, hL⟩ := pairOf_exists s t
  have HLO1 := hid (fun (y : World) (hy : Grew w y) => long_any s sv y (hs.grew hy))
  have HLO2 := hid (fun (y : World) (hy : Grew w y) => long_any t tv y (ht.grew hy))
  have HA1 := hid (fun (y : World) (hy : Grew w y) => alike_any s t L ev hL sv tv y (hs.grew hy) (ht.grew hy))
  have HA2 := hid (fun (y : World) (hy : Grew w y) => refAlike_any s t L ev hL sv tv y (hs.grew hy) (ht.grew hy))
  have HU1 := hid (fun (y : World) (hy : Grew w y) => unlike_any s t L ev hL sv tv y (hs.grew hy) (ht.grew hy))
  have HU2 := hid (fun (y : World) (hy : Grew w y) => refUnlike_any s t L ev hL sv tv y (hs.grew hy) (ht.grew hy))
  have HB1 := hid (fun (y : World) (hy : Grew w y) => both_any s t sv tv y (hs.grew hy) (ht.grew hy))
  have HB2 := hid (fun (y : World) (hy : Grew w y) => refBoth_any s t sv tv y (hs.grew hy) (ht.grew hy))
  obtain ⟨ab, hab⟩ : ∃ ab, alikeB ev = ab := ⟨_, rfl⟩
  obtain ⟨ae, hae⟩ : ∃ ae, alikeE ev = ae := ⟨_, rfl⟩
  obtain ⟨be, hbe⟩ : ∃ be, bothE s t = be := ⟨_, rfl⟩
  obtain ⟨R, hR⟩ : ∃ R, bothS s t = R := ⟨_, rfl⟩
  rw [hab, hae] at HA1 HA2
  rw [hbe, hR] at HB1 HB2
  obtain ⟨na, nc, ya, yc, rfl⟩ := isSpec_open' hs
  obtain ⟨nb, nd, yb, yd, rfl⟩ := isSpec_open' ht
  obtain ⟨Wa, hWa, ga, k0, k1, k2, k3, hz⟩ := box4 w (.int .i64 s.st) (.int .i64 s.ops) (.slice na s.next.length nc) (.slice ya s.says.length yc) 24
  obtain ⟨W0, hW0, gb, l0, l1, l2, l3, hz1⟩ := box4 Wa (.int .i64 t.st) (.int .i64 t.ops) (.slice nb t.next.length nd) (.slice yb t.says.length yd) 24
  have g0 := grew_trans ga gb
  have a0 := (gb.cell (p := ⟨w.heap.size, 0, none⟩) hz).trans k0
  have a1 := (gb.cell (p := ⟨w.heap.size, 1, none⟩) hz).trans k1
  have a2 := (gb.cell (p := ⟨w.heap.size, 2, none⟩) hz).trans k2
  have a3 := (gb.cell (p := ⟨w.heap.size, 3, none⟩) hz).trans k3
  have za : w.heap.size < W0.heap.size := Nat.lt_of_lt_of_le hz gb.size
  clear k0 k1 k2 k3 hs ht hL hab hae hbe hR
  have hg := grew_refl W0
  go_enter Try.func8, Try.ntmps8
  go_wp2_with (first
    | (go_at_call 16; with_reducible refine (HLO1.out _ (grew_trans g0 hg)).mono ?_; rintro e w1 ⟨x1, rfl, hx1, hx⟩; replace hg := grew_trans hg hx; have hc := (bcell hg).1; have hza := Nat.lt_of_lt_of_le za hg.size; have hzb := Nat.lt_of_lt_of_le hz1 hg.size; clear hx; rcases hx1 with rfl | rfl)
    | (go_at_call 16; with_reducible refine (HLO2.out _ (grew_trans g0 hg)).mono ?_; rintro e w1 ⟨x1, rfl, hx1, hx⟩; replace hg := grew_trans hg hx; have hc := (bcell hg).1; have hza := Nat.lt_of_lt_of_le za hg.size; have hzb := Nat.lt_of_lt_of_le hz1 hg.size; clear hx; rcases hx1 with rfl | rfl)
    | (go_at_call 35; with_reducible refine (HA1.out _ (grew_trans g0 hg)).mono ?_; rintro e w2 ⟨rfl, hx⟩; replace hg := grew_trans hg hx; have hc := (bcell hg).1; have hza := Nat.lt_of_lt_of_le za hg.size; have hzb := Nat.lt_of_lt_of_le hz1 hg.size; clear hx)
    | (go_at_call 36; with_reducible refine (HA2.out _ (grew_trans g0 hg)).mono ?_; rintro e w3 ⟨rfl, hx⟩; replace hg := grew_trans hg hx; have hc := (bcell hg).1; have hza := Nat.lt_of_lt_of_le za hg.size; have hzb := Nat.lt_of_lt_of_le hz1 hg.size; clear hx)
    | (go_at_call 37; with_reducible refine (HU1.out _ (grew_trans g0 hg)).mono ?_; rintro e w4 ⟨u1, rfl, hu1, hx⟩; have HI1 := hid hu1; obtain ⟨ua, uc, rfl⟩ := ints_shape hu1; clear hu1; replace hg := grew_trans hg hx; have hc := (bcell hg).1; have hza := Nat.lt_of_lt_of_le za hg.size; have hzb := Nat.lt_of_lt_of_le hz1 hg.size; clear hx; have hg2 := grew_refl w4)
    | (go_at_call 38; with_reducible refine (HU2.out _ (grew_trans g0 hg)).mono ?_; rintro e w5 ⟨u2, rfl, hu2, hx⟩; have HI2 := hid hu2; obtain ⟨ub, ud, rfl⟩ := ints_shape hu2; clear hu2; replace hg := grew_trans hg hx; replace hg2 := grew_trans hg2 hx; have hc := (bcell hg).1; have hza := Nat.lt_of_lt_of_le za hg.size; have hzb := Nat.lt_of_lt_of_le hz1 hg.size; clear hx)
    | (go_at_call 25; with_reducible refine (sameInts_same _ _ L _ (HI1.out.grew hg2) HI2.out).mono ?_; rintro e w6 ⟨rfl, hx⟩; replace hg := grew_trans hg hx; have hc := (bcell hg).1; have hza := Nat.lt_of_lt_of_le za hg.size; have hzb := Nat.lt_of_lt_of_le hz1 hg.size; clear hx)
    | (go_at_call 39; with_reducible refine (HB1.out _ (grew_trans g0 hg)).mono ?_; rintro e w7 ⟨u3, rfl, hsp, hx⟩; have HSP := hid hsp; obtain ⟨na2, nc2, ya2, yc2, rfl⟩ := isSpec_open hsp; clear hsp; replace hg := grew_trans hg hx; clear hx; obtain ⟨W3, hW3, g3, x0, x1, x2, x3, zc⟩ := box4 w7 (.int .i64 R.st) (.int .i64 R.ops) (.slice na2 R.next.length nc2) (.slice ya2 R.says.length yc2) 24; replace hg := grew_trans hg g3; have hc := (bcell hg).1; have hza := Nat.lt_of_lt_of_le za hg.size; have hzb := Nat.lt_of_lt_of_le hz1 hg.size)
    | (go_at_call 40; with_reducible refine (HB2.out _ (grew_trans g0 hg)).mono ?_; rintro e w8 ⟨u4, rfl, hsp2, hx⟩; have HSP2 := hid hsp2; obtain ⟨na4, nc4, ya4, yc4, rfl⟩ := isSpec_open hsp2; clear hsp2; have hc8 := (bcell hx).1; have hg8 := hx; have hzd := Nat.lt_of_lt_of_le zc hx.size)
    | (go_at_call 20; with_reducible refine (equal_any R R _ _ _ (HSP.out.grew ?_) (HSP2.out.grew ?_)).mono ?_; (exact grew_alloc (grew_trans g3 hg8) _); (exact grew_alloc (grew_refl _) _); rw [eqSpec_self]; rintro e w9 ⟨rfl, hx9⟩)
    | (go_at_call 17; with_reducible refine (awake_any _).mono ?_; rintro e wa ⟨rfl, hxa⟩))
  · go_ret
    exact ⟨rfl, grew_trans (grew_trans g0 hg) hxa⟩
  · go_ret
    exact ⟨rfl, grew_trans (grew_trans g0 hg) hxa⟩
  · go_ret
    exact ⟨rfl, grew_trans (grew_trans g0 (grew_trans hg hg8)) (grew_trans (grew_trans (grew_alloc (grew_refl _) _) hx9) hxa)⟩
end Go.Proofs.Ytnebpcpihldllaa
