/- Walk: Do. -/
import Derived.Test.YtcifpigjcfkhmaaHNew
namespace Go.Proofs.Ytcifpigjcfkhmaa
open Go.RowKit Go.Lin Go.Lin.Hz

theorem Does.later {w y w' : World} {b : Nat} {Y' : Yd} {Fp : List Nat} (hg : Grew w y) (h : Does y w' b Fp Y') : Does w w' b Fp Y' := by
  obtain ⟨F, h1, h2, h3⟩ := h
  exact ⟨F, h1, (Grew.keeps hg).trans h2, fun k hk => (h3 k hk).imp id (fun h => Nat.le_trans hg.size h)⟩

theorem asks50 : Asks 50 := fun _ _ => by kernel_rfl
theorem asks52 : Asks 52 := fun _ _ => by kernel_rfl

/-- What a call of Do does. -/
def DoPost (Y : Yd) (d a bb c : Int) (w : World) (b : Nat) (Fp : List Nat) (e : Ending) (w' : World) : Prop :=
  e = .returned (.tuple #[.int .i64 (doD Y d a bb c).2.1, .int .i64 (doD Y d a bb c).2.2]) ∧ Does w w' b Fp (doD Y d a bb c).1

set_option maxHeartbeats 8000000 in
theorem do_any (Y : Yd) (hI : Inv Y) (b : Nat) (Fp : List Nat) (d a bb c : Int) (w : World) (hy : IsYard w b Y Fp) :
    Calls Try.prog 18 #[.pointer (some ⟨b, 0, none⟩), .agg #[.int .i64 d, .int .i64 a, .int .i64 bb, .int .i64 c]] w (DoPost Y d a bb c w b Fp) := by
  obtain ⟨W0, hW0, g0, k0, k1, k2, k3, hz⟩ := box4 w (.int .i64 d) (.int .i64 a) (.int .i64 bb) (.int .i64 c) 32
  have HY := hid hy
  obtain ⟨tb, cap, lv, hv, -⟩ := IsYard.view hy hI
  have HV := hid hv
  have HH := hid (hv.head.grew g0)
  have HG0 := hid g0
  have S1 := hid (do1_any w.heap.size d W0 hz k0)
  have S2 := hid (fun (h : (decide (1 ≤ d) && decide (d ≤ 6)) = true) => by
    rw [Bool.and_eq_true, decide_eq_true_eq, decide_eq_true_eq] at h
    exact do2_any w.heap.size d a bb c W0 hz k0 k1 k2 k3 h.1 h.2)
  have hg := grew_refl W0
  clear hy hv
  by_cases hD : isDeed d bb c = true
  · have HD := hid hD
    have hd : 1 ≤ d ∧ d ≤ 6 := by
      unfold isDeed at hD
      rw [Bool.and_eq_true, Bool.and_eq_true, decide_eq_true_eq, decide_eq_true_eq] at hD
      exact hD.1
    have HQ := hid (show ((decide (1 ≤ d) && decide (d ≤ 6)) && (d == 2 || (c == 0 && (bb == 0 || !(d == 1 || d == 5))))) = true from hD)
    clear hD
    have H1 := hid (fun (y : World) (hy : Grew w y) => take_any Y hI b Fp a y (IsYardAt.grew HY.out hy))
    have H2 := hid (fun (y : World) (hy : Grew w y) => point_any Y hI b Fp a bb c y (IsYardAt.grew HY.out hy))
    have H3 := hid (fun (y : World) (hy : Grew w y) => clear_any Y hI b Fp a bb y (IsYardAt.grew HY.out hy))
    have H4 := hid (fun (y : World) (hy : Grew w y) => putBy_any Y hI b Fp a bb y (IsYardAt.grew HY.out hy))
    have H5 := hid (fun (y : World) (hy : Grew w y) => sweepD_any Y hI b Fp a y (IsYardAt.grew HY.out hy))
    have H6 := hid (fun (y : World) (hy : Grew w y) => use_any Y hI b tb cap lv a bb y (HV.out.grew hy))
    obtain rfl | rfl | rfl | rfl | rfl | rfl : d = 1 ∨ d = 2 ∨ d = 3 ∨ d = 4 ∨ d = 5 ∨ d = 6 := by omega
    all_goals
      clear hd
      go_enter Try.func18, Try.ntmps18
      go_wp2_with (first
        | (go_at_call 49; with_reducible refine (ask2 hI HH.out asks50 asks52 hg S1.out S2.out).mono ?_; rintro e w3 ⟨rfl, hx⟩; replace hg := grew_trans hg hx; have hc := (bcell hg).1; rw [HQ.out]; have hgg := grew_trans HG0.out hg)
        | (go_at_call 41; with_reducible refine (H1.out _ hgg).mono ?_; rintro e w4 ⟨rfl, hd⟩; have HDS := hid (Does.later hgg hd); clear hd)
        | (go_at_call 37; with_reducible refine (H2.out _ hgg).mono ?_; rintro e w4 ⟨rfl, hd⟩; have HDS := hid (Does.later hgg hd); clear hd)
        | (go_at_call 25; with_reducible refine (H3.out _ hgg).mono ?_; rintro e w4 ⟨rfl, hd⟩; have HDS := hid (Does.later hgg hd); clear hd)
        | (go_at_call 28; with_reducible refine (H4.out _ hgg).mono ?_; rintro e w4 ⟨rfl, hd⟩; have HDS := hid (Does.later hgg hd); clear hd)
        | (go_at_call 24; with_reducible refine (H5.out _ hgg).mono ?_; rintro e w4 ⟨rfl, hd⟩; have HDS := hid (Does.later hgg hd); clear hd)
        | (go_at_call 21; with_reducible refine (H6.out _ hgg).mono ?_; rintro e w4 ⟨rfl, hd⟩; have HDS := hid (Does.same HY.out (grew_trans hgg hd)); clear hd))
      go_ret2
      unfold DoPost doD
      rw [HD.out]
      exact ⟨rfl, HDS.out⟩
  · have hD' : isDeed d bb c = false := by simpa using hD
    have HD := hid hD'
    have HQ := hid (show ((decide (1 ≤ d) && decide (d ≤ 6)) && (d == 2 || (c == 0 && (bb == 0 || !(d == 1 || d == 5))))) = false from hD')
    clear hD hD'
    go_enter Try.func18, Try.ntmps18
    go_wp2_with (go_at_call 49; with_reducible refine (ask2 hI HH.out asks50 asks52 hg S1.out S2.out).mono ?_; rintro e w3 ⟨rfl, hx⟩; replace hg := grew_trans hg hx; have hc := (bcell hg).1; rw [HQ.out]; have hgg := grew_trans HG0.out hg)
    go_ret2
    unfold DoPost doD
    rw [HD.out]
    exact ⟨rfl, Does.same HY.out hgg⟩

end Go.Proofs.Ytcifpigjcfkhmaa
