/- Walk of the reference: Way (53), whatever the graph and the place. -/
import Derived.Test.YtojkohpniokaaaaPgRefB
import Derived.Test.YtojkohpniokaaaaPgOuts
namespace Go.Proofs.Ytojkohpniokaaaa
open Go Go.RowKit Go.Lin Go.Lin.Pg

set_option maxHeartbeats 1000000 in
theorem rWay53_any (v : Value) (g : Gr) (b : Int) (w : World) (hv : IsGr w v g) :
    Calls Try.prog 53 #[v, .int .i64 b] w fun e w' => ∃ u, e = .returned (.tuple #[u, .int .i64 (wayA g b).2]) ∧ Grew w w' ∧ IsWd w' u (wayA g b).1 := by
  obtain ⟨bb, hb⟩ : ∃ b, valid g = b := ⟨_, rfl⟩
  obtain ⟨pb, hpb⟩ : ∃ pb, isPl g.n b = pb := ⟨_, rfl⟩
  have hr : wayA g b = if bb then (if pb then wayL (wayM g.ms b) else ([], 2)) else ([], 70) := by unfold wayA; rw [hb, hpb]
  rw [hr]
  clear hr
  have HV := hid hv
  cases bb with
  | false =>
    obtain ⟨s, rfl, -⟩ := hv
    obtain ⟨W0, hW0, g0, k0, k1, hz⟩ := box2 w (.int .i64 g.n) s 24
    have HG0 := hid g0
    have HVA := hid (rValid16_any _ g W0 (HV.out.grew g0))
    rw [hb] at HVA
    simp only [Bool.false_eq_true, if_false]
    clear hb hpb
    go_enter Try.func53, Try.ntmps53
    go_wp2_with (go_at_call 16; (with_reducible refine HVA.out.mono ?_); rintro e w1 ⟨rfl, hx⟩; have HX := hid hx; clear hx)
    go_ret2
    exact ⟨_, rfl, grew_trans HG0.out HX.out, wd_nil _⟩
  | true =>
    simp only [if_true]
    cases pb with
    | false =>
      obtain ⟨s, rfl, -⟩ := hv
      obtain ⟨W0, hW0, g0, k0, k1, hz⟩ := box2 w (.int .i64 g.n) s 24
      have HG0 := hid g0
      have HVA := hid (rValid16_any _ g W0 (HV.out.grew g0))
      rw [hb] at HVA
      have HPL := hid (fun (W' : World) (h : Grew W0 W') => isPl_any (.agg #[.int .i64 g.n, s]) g b W' (HV.out.grew (grew_trans g0 h)))
      rw [hpb] at HPL
      simp only [Bool.false_eq_true, if_false]
      clear hb hpb
      go_enter Try.func53, Try.ntmps53
      go_wp2_with (first
        | (go_at_call 16; (with_reducible refine HVA.out.mono ?_); rintro e w1 ⟨rfl, hx⟩; have HX := hid hx; have k0' := (hx.cell (p := ⟨w.heap.size, 0, none⟩) hz).trans k0; have k1' := (hx.cell (p := ⟨w.heap.size, 1, none⟩) hz).trans k1; clear hx)
        | (go_at_call 56; (with_reducible refine (HPL.out _ HX.out).mono ?_); rintro e w2 ⟨rfl, hy⟩; have HY := hid hy; clear hy))
      go_ret2
      exact ⟨_, rfl, grew_trans HG0.out (grew_trans HX.out HY.out), wd_nil _⟩
    | true =>
      simp only [if_true]
      have hG := gOk_valid hb
      have hgn := hG.n
      unfold isPl at hpb
      simp only [Bool.and_eq_true, decide_eq_true_eq] at hpb
      obtain ⟨bn, rfl⟩ : ∃ bn : Nat, b = (bn : Int) := ⟨b.toNat, by omega⟩
      exact rWay53_main g g.N bn hb hG (by omega) v w hv

end Go.Proofs.Ytojkohpniokaaaa
