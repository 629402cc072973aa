/- The law SpecBegun: it answers true of every input. -/
import Derived.Test.YtnebpcpihldllaaWAwake
import Derived.Test.YtnebpcpihldllaaWRefBegun
namespace Go.Lin
def begunS (s : RSpec) (c : Int) : RSpec := if askedM s c c = 0 then begunM s c else zeroM

theorem isSpec_zero (w : World) : IsSpec w (.agg #[.int .i64 0, .int .i64 0, .slice none 0 0, .slice none 0 0]) zeroM :=
  ⟨_, _, rfl, ⟨fun _ => .int .i64 0, Reads.nil _ _ _ _ _, fun i hi => absurd hi (by simp [zeroM])⟩, ⟨fun _ => .int .i64 0, Reads.nil _ _ _ _ _, fun i hi => absurd hi (by simp [zeroM])⟩⟩

theorem isSpec_open {w : World} {u : Value} {R : RSpec} (h : IsSpec w u R) : ∃ na nc ya yc, u = .agg #[.int .i64 R.st, .int .i64 R.ops, .slice na R.next.length nc, .slice ya R.says.length yc] := by
  obtain ⟨_, _, rfl, ⟨_, ⟨na, nc, rfl, _, _⟩, _⟩, ⟨_, ⟨ya, yc, rfl, _, _⟩, _⟩⟩ := h
  exact ⟨_, _, _, _, rfl⟩

theorem asked_self {s : RSpec} {c : Int} (h : askedM s c c = 0) : validM s = true ∧ inM s.st c = true := by
  unfold askedM at h
  cases hv : validM s <;> cases hi : inM s.st c <;> rw [hv, hi] at h <;> first | exact ⟨rfl, rfl⟩ | cases h

theorem eqSpec_self (s : RSpec) : eqSpec s s = true := by simp [eqSpec, sameLL]
end Go.Lin
namespace Go.Proofs.Ytnebpcpihldllaa
open Go.RowKit Go.Lin

theorem begun_any (s : RSpec) (c : Int) (sv : Value) (w : World) (hs : IsSpec w sv s) :
    Calls Try.prog 18 #[sv, .int .i64 c] w fun e w' => ∃ u, e = .returned (.tuple #[u, .int .i64 (askedM s c c)]) ∧ IsSpec w' u (begunS s c) ∧ Grew w w' := by
  by_cases h : askedM s c c = 0
  · obtain ⟨hv, hi⟩ := asked_self h
    rw [h, show begunS s c = begunM s c by unfold begunS; rw [if_pos h]]
    exact begun_ok s c sv w hs hv hi
  · refine (begun_bad s c sv w hs h).mono ?_
    rintro e w' ⟨rfl, hg⟩
    exact ⟨_, rfl, by unfold begunS; rw [if_neg h]; exact isSpec_zero _, hg⟩

theorem refBegun_any (s : RSpec) (c : Int) (sv : Value) (w : World) (hs : IsSpec w sv s) :
    Calls Try.prog 19 #[sv, .int .i64 c] w fun e w' => ∃ u, e = .returned (.tuple #[u, .int .i64 (askedM s c c)]) ∧ IsSpec w' u (begunS s c) ∧ Grew w w' := by
  by_cases h : askedM s c c = 0
  · obtain ⟨hv, hi⟩ := asked_self h
    rw [h, show begunS s c = begunM s c by unfold begunS; rw [if_pos h]]
    exact refBegun_ok s c sv w hs hv hi
  · refine (refBegun_bad s c sv w hs h).mono ?_
    rintro e w' ⟨rfl, hg⟩
    exact ⟨_, rfl, by unfold begunS; rw [if_neg h]; exact isSpec_zero _, hg⟩

set_option maxHeartbeats 2000000 in
theorem specBegun_law (s : RSpec) (c : Int) (sv : Value) (w : World) (hs : IsSpec w sv s) :
    Calls Try.prog 3 #[sv, .int .i64 c] w fun e w' => e = .returned (.bool true) ∧ Grew w w' := by
  have HS := hs
  obtain ⟨nv, yv, rfl, hn, hy⟩ := hs
  obtain ⟨W0, hW0, g0, k0, k1, k2, k3, hz⟩ := box4 w (.int .i64 s.st) (.int .i64 s.ops) nv yv 24
  have hg := grew_refl W0
  obtain ⟨ev, hev⟩ : ∃ ev, askedM s c c = ev := ⟨_, rfl⟩
  obtain ⟨R, hR⟩ : ∃ R, begunS s c = R := ⟨_, rfl⟩
  have HB := hid (begun_any s c); have HRB := hid (refBegun_any s c)
  rw [hev, hR] at HB HRB
  clear hev hR
  go_enter Try.func3, Try.ntmps3
  go_wp2_with (first
    | (go_at_call 16; with_reducible refine (long_any s _ _ (HS.grew (by exact grew_trans g0 hg))).mono ?_; rintro e w1 ⟨x1, rfl, hx1, hx⟩; replace hg := grew_trans hg hx; have hc := (bcell hg).1; clear hx; rcases hx1 with rfl | rfl)
    | (go_at_call 18; with_reducible refine (HB.out _ _ (HS.grew (by exact grew_trans g0 hg))).mono ?_; rintro e w2 ⟨u, rfl, hsp, hx⟩; have HSP := hid hsp; obtain ⟨na2, nc2, ya2, yc2, rfl⟩ := isSpec_open hsp; replace hg := grew_trans hg hx; clear hx; obtain ⟨W3, hW3, g3, l0, l1, l2, l3, hz3⟩ := box4 w2 (.int .i64 R.st) (.int .i64 R.ops) (.slice na2 R.next.length nc2) (.slice ya2 R.says.length yc2) 24; replace hg := grew_trans hg g3; have hc := (bcell hg).1; have hlt3 : w.heap.size < W3.heap.size := Nat.lt_of_lt_of_le hz hg.size)
    | (go_at_call 19; with_reducible refine (HRB.out _ _ (HS.grew (by exact grew_trans g0 hg))).mono ?_; rintro e w4 ⟨u, rfl, hsp2, hx⟩; have HSP2 := hid hsp2; obtain ⟨na4, nc4, ya4, yc4, rfl⟩ := isSpec_open hsp2; have hc4 := (bcell hx).1; have hg4 := hx; have hlt4 := Nat.lt_of_lt_of_le hz3 hx.size)
    | (go_at_call 20; with_reducible refine (equal_any R R _ _ _ (HSP.out.grew ?_) (HSP2.out.grew ?_)).mono ?_; (exact grew_alloc (grew_trans g3 hg4) _); (exact grew_alloc (grew_refl _) _); rw [eqSpec_self]; rintro e w5 ⟨rfl, hx5⟩)
    | (go_at_call 17; with_reducible refine (awake_any _).mono ?_; rintro e w6 ⟨rfl, hx6⟩))
  · go_ret
    exact ⟨rfl, grew_trans (grew_trans g0 hg) hx6⟩
  · go_ret
    exact ⟨rfl, grew_trans (grew_trans g0 (grew_trans hg hg4)) (grew_trans (grew_trans (grew_alloc (grew_refl _) _) hx5) hx6)⟩
end Go.Proofs.Ytnebpcpihldllaa
