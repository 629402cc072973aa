/- Walks: Reached and Way at every spec, of the program's own text. -/
import Derived.Test.YtnebpcpihldllaaWReached
namespace Go.Proofs.Ytnebpcpihldllaa
open Go.RowKit Go.Lin

set_option maxHeartbeats 2000000 in
theorem reached_ok (s : RSpec) (sv : Value) (w : World) (hs : IsSpec w sv s) (hv : validM s = true) :
    Calls Try.prog 44 #[sv] w fun e w' => ∃ u, e = .returned (.tuple #[u, .int .i64 0]) ∧ IsNats Any w' u (reachL (machOf s)) ∧ Grew w w' := by
  have HS := hs
  have HM := hid (fun (y : World) (hy : Grew w y) => reached_any (machOf s) (wf_machOf hv) _ y ((hs.isMach hv).grew hy))
  have HOP := hid (fun (y : World) (hy : Grew w y) => opened_ok s _ 70 #[] y (hs.grew hy) hv entered70 (whatever_says _ y s (hs.grew hy)))
  obtain ⟨na, nc, ya, yc, rfl⟩ := isSpec_open' hs
  clear hs hv
  obtain ⟨W0, hW0, g0, k0, k1, k2, k3, hz⟩ := box4 w (.int .i64 s.st) (.int .i64 s.ops) (.slice na s.next.length nc) (.slice ya s.says.length yc) 24
  go_enter Try.func44, Try.ntmps44
  go_wp2_with (first
    | (go_at_call 56; with_reducible refine (HOP.out _ g0).mono ?_; rintro e w1 ⟨rfl, hx⟩; have hc := (bcell hx).1)
    | (go_at_call 90; with_reducible refine (HM.out _ (grew_alloc (grew_trans g0 hx) _)).mono ?_; rintro e w2 ⟨u, rfl, hg2, hseg⟩; have HSEG := hid hseg; clear hseg; obtain ⟨ua, uc, rfl, _⟩ := HSEG.out.shape))
  go_ret2
  refine ⟨_, rfl, ?_, grew_trans (grew_alloc (grew_trans g0 hx) _) hg2⟩
  refine (HSEG.out.reads _ (fun i hi => ?_)).any
  simp [nthN, List.getD, hi]

set_option maxHeartbeats 2000000 in
theorem reached_bad (s : RSpec) (sv : Value) (w : World) (hs : IsSpec w sv s) (hv : validM s = false) :
    Calls Try.prog 44 #[sv] w fun e w' => e = .returned (.tuple #[.slice none 0 0, .int .i64 10]) ∧ Grew w w' := by
  have HOP := hid (fun (y : World) (hy : Grew w y) => opened_bad s _ (.func (.func 70) #[] #[]) y (hs.grew hy) hv)
  obtain ⟨nv, yv, rfl, _, _⟩ := hs
  clear hv
  obtain ⟨W0, hW0, g0, k0, k1, k2, k3, hz⟩ := box4 w (.int .i64 s.st) (.int .i64 s.ops) nv yv 24
  go_enter Try.func44, Try.ntmps44
  go_wp2_with (go_at_call 56; with_reducible refine (HOP.out _ g0).mono ?_; rintro e w1 ⟨rfl, hx⟩; have hc := (bcell hx).1)
  go_ret2
  exact ⟨rfl, grew_alloc (grew_trans g0 hx) _⟩

set_option maxHeartbeats 2000000 in
theorem way_bad (s : RSpec) (sv : Value) (a : Int) (w : World) (hs : IsSpec w sv s) (hbad : askedM s a a ≠ 0) :
    Calls Try.prog 43 #[sv, .int .i64 a] w fun e w' => e = .returned (.tuple #[.slice none 0 0, .int .i64 (askedM s a a)]) ∧ Grew w w' := by
  have HS := hs
  obtain ⟨nv, yv, rfl, _, _⟩ := hs
  obtain ⟨W0, hW0, g0, k0, k1, k2, k3, hz⟩ := box4 w (.int .i64 s.st) (.int .i64 s.ops) nv yv 24
  obtain ⟨W1, hW1, g1, l0, hz1⟩ := box1 W0 (.int .i64 a) 3
  obtain ⟨W2, hW2, g2, e4, hz2⟩ := box1 W1 (.slice none 0 0) 34
  obtain ⟨W3, hW3, g3, e5, hz3⟩ := box1 W2 (.int .i64 0) 27
  have g13 := grew_trans g1 (grew_trans g2 g3)
  have g03 := grew_trans g0 g13
  have r0 := (g13.cell (p := ⟨w.heap.size, 0, none⟩) hz).trans k0
  have r1 := (g13.cell (p := ⟨w.heap.size, 1, none⟩) hz).trans k1
  have r2 := (g13.cell (p := ⟨w.heap.size, 2, none⟩) hz).trans k2
  have r3 := (g13.cell (p := ⟨w.heap.size, 3, none⟩) hz).trans k3
  have r4 := ((grew_trans g2 g3).cell (p := ⟨W0.heap.size, 0, none⟩) hz1).trans l0
  have o4 : W2.heap[W1.heap.size]? = some (.cells #[.slice none 0 0] 34 (0, 0)) := by rw [← hW2]; exact heap_alloc_new W1 _
  have o5 : W3.heap[W2.heap.size]? = some (.cells #[.int .i64 0] 27 (0, 0)) := by rw [← hW3]; exact heap_alloc_new W2 _
  have O4 := hid ((g3.block _ hz2).trans o4)
  have O5 := hid o5
  have hop := opened_way s _ W0.heap.size a W3 (HS.grew g03) r4
  rw [if_neg hbad] at hop
  have HOP := hid hop; clear hop
  obtain ⟨r, hr⟩ : ∃ r, askedM s a a = r := ⟨_, rfl⟩
  rw [hr] at hbad HOP ⊢
  have hs1 := g1.size; have hs2 := g2.size; have hs3 := g3.size; have hs0 := g0.size
  clear k0 k1 k2 k3 e4 l0 o4 o5 HS hr e5
  go_enter Try.func43, Try.ntmps43
  go_wp2_with (go_at_call 56; with_reducible refine HOP.out.mono ?_; rintro e w1 ⟨rfl, hx⟩
               have o4 := (hx.block _ (by omega : W1.heap.size < W3.heap.size)).trans O4.out
               have o5 := (hx.block _ (by omega : W2.heap.size < W3.heap.size)).trans O5.out
               have hltA : W1.heap.size < w1.heap.size := Nat.lt_of_lt_of_le (by omega) hx.size
               have hltB : W2.heap.size < w1.heap.size := Nat.lt_of_lt_of_le hz3 hx.size
               have c4 : w1.cell? ⟨W1.heap.size, 0, none⟩ = some (.slice none 0 0) := cell_of_row _ _ _ _ _ _ o4
               have c5 : w1.cell? ⟨W2.heap.size, 0, none⟩ = some (.int .i64 0) := cell_of_row _ _ _ _ _ _ o5
               have f4 := frozen_obj o4 0
               have f5 := frozen_obj o5 0
               have OA := hid o4; have OB := hid o5; clear o4 o5)
  have hne : W1.heap.size ≠ W2.heap.size := by omega
  obtain ⟨hk, k1, k2⟩ := two_stores hne OA.out OB.out (.slice none 0 0) (.int .i64 r)
  have ha := grew_alloc (grew_refl ((w1.setCell ⟨W1.heap.size, 0, none⟩ (.slice none 0 0)).setCell ⟨W2.heap.size, 0, none⟩ (.int .i64 r))) (.cells #[.int .i64 0, .int .i64 0, .slice none 0 0, .slice none 0 0] 60)
  have hz6 := hk.size
  have d1 := (ha.cell (p := ⟨W1.heap.size, 0, none⟩) (by show W1.heap.size < _; omega)).trans k1
  have d2 := (ha.cell (p := ⟨W2.heap.size, 0, none⟩) (by show W2.heap.size < _; omega)).trans k2
  refine bodyPost_ret (results_way rfl rfl rfl d1 d2) rfl ⟨rfl, ?_⟩
  have g0x := grew_trans g03 hx
  exact (g0x.trans (hk.below g0x.size (fun k o h => by rcases h.1 with e | e <;> rw [e] <;> omega))).trans (ha.mono (by have := g0x.size; omega))
end Go.Proofs.Ytnebpcpihldllaa
