/- Walks: two specifications side by side, where that cannot be, of the program's own text and of the reference's. -/
import Derived.Test.YtnebpcpihldllaaBoth
import Derived.Test.YtnebpcpihldllaaWOpen
import Derived.Test.YtnebpcpihldllaaLBegun
import Derived.Test.YtnebpcpihldllaaWRuns
import Derived.IntWalk
namespace Go.Proofs.Ytnebpcpihldllaa
open Go.RowKit Go.Lin

set_option maxHeartbeats 4000000 in
theorem both_bad1 (s t : RSpec) (sv tv : Value) (w : World) (hs : IsSpec w sv s) (ht : IsSpec w tv t) (hv : validM s = false) :
    Calls Try.prog 39 #[sv, tv] w fun e w' => e = .returned (.tuple #[zeroSpec, .int .i64 10]) ∧ Grew w w' := by
  have HV1 := hid (fun (y : World) (hy : Grew w y) => valid_any s sv y (hs.grew hy))
  have HV2 := hid (fun (y : World) (hy : Grew w y) => valid_any t tv y (ht.grew hy))
  obtain ⟨na, nc, ya, yc, rfl⟩ := isSpec_open' hs
  obtain ⟨nb, nd, yb, yd, rfl⟩ := isSpec_open' ht
  obtain ⟨Wa, hWa, ga, k0, k1, k2, k3, hz⟩ := box4 w (.int .i64 s.st) (.int .i64 s.ops) (.slice na s.next.length nc) (.slice ya s.says.length yc) 24
  obtain ⟨W1, hW1, gb, l0, l1, l2, l3, hz1⟩ := box4 Wa (.int .i64 t.st) (.int .i64 t.ops) (.slice nb t.next.length nd) (.slice yb t.says.length yd) 24
  have hobj2 := heap_alloc_new W1 (.cells #[.int .i64 0, .int .i64 0, .slice none 0 0, .slice none 0 0] 24)
  obtain ⟨W2, hW2, g2, q0, q1, q2, q3, hz2, qf⟩ := boxf4 W1 (.int .i64 0) (.int .i64 0) (.slice none 0 0) (.slice none 0 0) 24
  rw [hW2] at hobj2
  have HOBJ := hid hobj2; clear hobj2
  have g12 := grew_trans gb g2
  have g02 := grew_trans ga g12
  have a0 := (g12.cell (p := ⟨w.heap.size, 0, none⟩) hz).trans k0
  have a1 := (g12.cell (p := ⟨w.heap.size, 1, none⟩) hz).trans k1
  have a2 := (g12.cell (p := ⟨w.heap.size, 2, none⟩) hz).trans k2
  have a3 := (g12.cell (p := ⟨w.heap.size, 3, none⟩) hz).trans k3
  have e0 := (g2.cell (p := ⟨Wa.heap.size, 0, none⟩) hz1).trans l0
  have e1 := (g2.cell (p := ⟨Wa.heap.size, 1, none⟩) hz1).trans l1
  have e2 := (g2.cell (p := ⟨Wa.heap.size, 2, none⟩) hz1).trans l2
  have e3 := (g2.cell (p := ⟨Wa.heap.size, 3, none⟩) hz1).trans l3
  clear k0 k1 k2 k3 l0 l1 l2 l3
  have za : w.heap.size < W2.heap.size := Nat.lt_of_lt_of_le hz g12.size
  have zb : Wa.heap.size < W2.heap.size := Nat.lt_of_lt_of_le hz1 g2.size
  have zw : w.heap.size ≤ W1.heap.size := Nat.le_trans ga.size gb.size
  have hg := grew_refl W2
  rw [hv] at HV1
  clear hs ht hv
  go_enter Try.func39, Try.ntmps39
  go_wp2_with (go_at_call 32; with_reducible refine (HV1.out _ (grew_trans g02 hg)).mono ?_; rintro e w1 ⟨rfl, hx1⟩; replace hg := grew_trans hg hx1; obtain ⟨hc, hcf⟩ := bcell hg; have hza := Nat.lt_of_lt_of_le za hg.size; have hzb := Nat.lt_of_lt_of_le zb hg.size; have hzz := Nat.lt_of_lt_of_le hz2 hg.size)
  (try simp only [Exit.inBlock, Exit.then])
  have hset := fun w' => set4 (w' := w') (c := #[.int .i64 0, .int .i64 0, .slice none 0 0, .slice none 0 0]) rfl (.int .i64 0) (.int .i64 0) (.slice none 0 0) (.slice none 0 0) ((hg.block _ hz2).trans HOBJ.out)
  have hgr : Grew w ((((w1.setCell ⟨W1.heap.size, 0, none⟩ (.int .i64 0)).setCell ⟨W1.heap.size, 1, none⟩ (.int .i64 0)).setCell ⟨W1.heap.size, 2, none⟩ (.slice none 0 0)).setCell ⟨W1.heap.size, 3, none⟩ (.slice none 0 0)) := by
    have h := grew_trans g02 hg
    repeat' (first | assumption | refine Below.setCell ?_ (by (try simp); omega) _)
  generalize hw8 : (((w1.setCell ⟨W1.heap.size, 0, none⟩ (.int .i64 0)).setCell ⟨W1.heap.size, 1, none⟩ (.int .i64 0)).setCell ⟨W1.heap.size, 2, none⟩ (.slice none 0 0)).setCell ⟨W1.heap.size, 3, none⟩ (.slice none 0 0) = w8 at hgr ⊢
  obtain ⟨hobj, hsz⟩ := hset w8 hw8
  obtain ⟨d0, d1, d2, d3, -, hd⟩ := cells4 hobj
  clear hset
  refine bodyPost_ret (v := .tuple #[zeroSpec, .int .i64 10]) ?_ rfl ?_
  · simp [results, Try.results39, go_sem, d0, d1, d2, d3]
  · exact ⟨rfl, hgr⟩

set_option maxHeartbeats 4000000 in
theorem both_bad2 (s t : RSpec) (sv tv : Value) (w : World) (hs : IsSpec w sv s) (ht : IsSpec w tv t) (hv : validM s = true) (hvt : validM t = false) :
    Calls Try.prog 39 #[sv, tv] w fun e w' => e = .returned (.tuple #[zeroSpec, .int .i64 10]) ∧ Grew w w' := by
  have HV1 := hid (fun (y : World) (hy : Grew w y) => valid_any s sv y (hs.grew hy))
  have HV2 := hid (fun (y : World) (hy : Grew w y) => valid_any t tv y (ht.grew hy))
  obtain ⟨na, nc, ya, yc, rfl⟩ := isSpec_open' hs
  obtain ⟨nb, nd, yb, yd, rfl⟩ := isSpec_open' ht
  obtain ⟨Wa, hWa, ga, k0, k1, k2, k3, hz⟩ := box4 w (.int .i64 s.st) (.int .i64 s.ops) (.slice na s.next.length nc) (.slice ya s.says.length yc) 24
  obtain ⟨W1, hW1, gb, l0, l1, l2, l3, hz1⟩ := box4 Wa (.int .i64 t.st) (.int .i64 t.ops) (.slice nb t.next.length nd) (.slice yb t.says.length yd) 24
  have hobj2 := heap_alloc_new W1 (.cells #[.int .i64 0, .int .i64 0, .slice none 0 0, .slice none 0 0] 24)
  obtain ⟨W2, hW2, g2, q0, q1, q2, q3, hz2, qf⟩ := boxf4 W1 (.int .i64 0) (.int .i64 0) (.slice none 0 0) (.slice none 0 0) 24
  rw [hW2] at hobj2
  have HOBJ := hid hobj2; clear hobj2
  have g12 := grew_trans gb g2
  have g02 := grew_trans ga g12
  have a0 := (g12.cell (p := ⟨w.heap.size, 0, none⟩) hz).trans k0
  have a1 := (g12.cell (p := ⟨w.heap.size, 1, none⟩) hz).trans k1
  have a2 := (g12.cell (p := ⟨w.heap.size, 2, none⟩) hz).trans k2
  have a3 := (g12.cell (p := ⟨w.heap.size, 3, none⟩) hz).trans k3
  have e0 := (g2.cell (p := ⟨Wa.heap.size, 0, none⟩) hz1).trans l0
  have e1 := (g2.cell (p := ⟨Wa.heap.size, 1, none⟩) hz1).trans l1
  have e2 := (g2.cell (p := ⟨Wa.heap.size, 2, none⟩) hz1).trans l2
  have e3 := (g2.cell (p := ⟨Wa.heap.size, 3, none⟩) hz1).trans l3
  clear k0 k1 k2 k3 l0 l1 l2 l3
  have za : w.heap.size < W2.heap.size := Nat.lt_of_lt_of_le hz g12.size
  have zb : Wa.heap.size < W2.heap.size := Nat.lt_of_lt_of_le hz1 g2.size
  have zw : w.heap.size ≤ W1.heap.size := Nat.le_trans ga.size gb.size
  have hg := grew_refl W2
  rw [hv] at HV1
  rw [hvt] at HV2
  clear hs ht hv hvt
  go_enter Try.func39, Try.ntmps39
  go_wp2_with (first
    | (go_at_call 32; with_reducible refine (HV1.out _ (grew_trans g02 hg)).mono ?_; rintro e w1 ⟨rfl, hx1⟩; replace hg := grew_trans hg hx1; obtain ⟨hc, hcf⟩ := bcell hg; have hza := Nat.lt_of_lt_of_le za hg.size; have hzb := Nat.lt_of_lt_of_le zb hg.size; have hzz := Nat.lt_of_lt_of_le hz2 hg.size)
    | (go_at_call 32; with_reducible refine (HV2.out _ (grew_trans g02 hg)).mono ?_; rintro e w2 ⟨rfl, hx2⟩; replace hg := grew_trans hg hx2; obtain ⟨hc, hcf⟩ := bcell hg; have hza := Nat.lt_of_lt_of_le za hg.size; have hzb := Nat.lt_of_lt_of_le zb hg.size; have hzz := Nat.lt_of_lt_of_le hz2 hg.size))
  (try simp only [Exit.inBlock, Exit.then])
  have hset := fun w' => set4 (w' := w') (c := #[.int .i64 0, .int .i64 0, .slice none 0 0, .slice none 0 0]) rfl (.int .i64 0) (.int .i64 0) (.slice none 0 0) (.slice none 0 0) ((hg.block _ hz2).trans HOBJ.out)
  have hgr : Grew w ((((w2.setCell ⟨W1.heap.size, 0, none⟩ (.int .i64 0)).setCell ⟨W1.heap.size, 1, none⟩ (.int .i64 0)).setCell ⟨W1.heap.size, 2, none⟩ (.slice none 0 0)).setCell ⟨W1.heap.size, 3, none⟩ (.slice none 0 0)) := by
    have h := grew_trans g02 hg
    repeat' (first | assumption | refine Below.setCell ?_ (by (try simp); omega) _)
  generalize hw8 : (((w2.setCell ⟨W1.heap.size, 0, none⟩ (.int .i64 0)).setCell ⟨W1.heap.size, 1, none⟩ (.int .i64 0)).setCell ⟨W1.heap.size, 2, none⟩ (.slice none 0 0)).setCell ⟨W1.heap.size, 3, none⟩ (.slice none 0 0) = w8 at hgr ⊢
  obtain ⟨hobj, hsz⟩ := hset w8 hw8
  obtain ⟨d0, d1, d2, d3, -, hd⟩ := cells4 hobj
  clear hset
  refine bodyPost_ret (v := .tuple #[zeroSpec, .int .i64 10]) ?_ rfl ?_
  · simp [results, Try.results39, go_sem, d0, d1, d2, d3]
  · exact ⟨rfl, hgr⟩

set_option maxHeartbeats 4000000 in
theorem both_big1 (s t : RSpec) (sv tv : Value) (w : World) (hs : IsSpec w sv s) (ht : IsSpec w tv t) (hv : validM s = true) (hvt : validM t = true) (hbig : 8 < s.st * t.st) :
    Calls Try.prog 39 #[sv, tv] w fun e w' => e = .returned (.tuple #[zeroSpec, .int .i64 4]) ∧ Grew w w' := by
  have HV1 := hid (fun (y : World) (hy : Grew w y) => valid_any s sv y (hs.grew hy))
  have HV2 := hid (fun (y : World) (hy : Grew w y) => valid_any t tv y (ht.grew hy))
  obtain ⟨na, nc, ya, yc, rfl⟩ := isSpec_open' hs
  obtain ⟨nb, nd, yb, yd, rfl⟩ := isSpec_open' ht
  obtain ⟨Wa, hWa, ga, k0, k1, k2, k3, hz⟩ := box4 w (.int .i64 s.st) (.int .i64 s.ops) (.slice na s.next.length nc) (.slice ya s.says.length yc) 24
  obtain ⟨W1, hW1, gb, l0, l1, l2, l3, hz1⟩ := box4 Wa (.int .i64 t.st) (.int .i64 t.ops) (.slice nb t.next.length nd) (.slice yb t.says.length yd) 24
  have hobj2 := heap_alloc_new W1 (.cells #[.int .i64 0, .int .i64 0, .slice none 0 0, .slice none 0 0] 24)
  obtain ⟨W2, hW2, g2, q0, q1, q2, q3, hz2, qf⟩ := boxf4 W1 (.int .i64 0) (.int .i64 0) (.slice none 0 0) (.slice none 0 0) 24
  rw [hW2] at hobj2
  have HOBJ := hid hobj2; clear hobj2
  have g12 := grew_trans gb g2
  have g02 := grew_trans ga g12
  have a0 := (g12.cell (p := ⟨w.heap.size, 0, none⟩) hz).trans k0
  have a1 := (g12.cell (p := ⟨w.heap.size, 1, none⟩) hz).trans k1
  have a2 := (g12.cell (p := ⟨w.heap.size, 2, none⟩) hz).trans k2
  have a3 := (g12.cell (p := ⟨w.heap.size, 3, none⟩) hz).trans k3
  have e0 := (g2.cell (p := ⟨Wa.heap.size, 0, none⟩) hz1).trans l0
  have e1 := (g2.cell (p := ⟨Wa.heap.size, 1, none⟩) hz1).trans l1
  have e2 := (g2.cell (p := ⟨Wa.heap.size, 2, none⟩) hz1).trans l2
  have e3 := (g2.cell (p := ⟨Wa.heap.size, 3, none⟩) hz1).trans l3
  clear k0 k1 k2 k3 l0 l1 l2 l3
  have za : w.heap.size < W2.heap.size := Nat.lt_of_lt_of_le hz g12.size
  have zb : Wa.heap.size < W2.heap.size := Nat.lt_of_lt_of_le hz1 g2.size
  have zw : w.heap.size ≤ W1.heap.size := Nat.le_trans ga.size gb.size
  have hg := grew_refl W2
  rw [hv] at HV1
  rw [hvt] at HV2
  obtain ⟨⟨s1, s8, o1, o4⟩, _⟩ := valid_parts hv
  obtain ⟨⟨s1', s8', o1', o4'⟩, _⟩ := valid_parts hvt
  obtain ⟨x, hx⟩ : ∃ x, s.st = x := ⟨_, rfl⟩
  obtain ⟨y, hy⟩ : ∃ y, t.st = y := ⟨_, rfl⟩
  have hm0 : 0 ≤ s.st * t.st := Int.mul_nonneg (by omega) (by omega)
  have hm1 : s.st * t.st ≤ 8 * 8 := Int.mul_le_mul s8 s8' (by omega) (by omega)
  have hwr : IntKind.i64.wrap (s.st * t.st) = s.st * t.st := IntWalk.i64_in _ (by omega)
  have HBIG := hid hbig
  clear hs ht hv hvt hx hy hbig
  have hd1 : decide ((8 : Int) < s.st * t.st) = true := decide_eq_true HBIG.out
  go_enter Try.func39, Try.ntmps39
  go_wp2_with (first
    | (go_at_call 32; with_reducible refine (HV1.out _ (grew_trans g02 hg)).mono ?_; rintro e w1 ⟨rfl, hx1⟩; replace hg := grew_trans hg hx1; obtain ⟨hc, hcf⟩ := bcell hg; have hza := Nat.lt_of_lt_of_le za hg.size; have hzb := Nat.lt_of_lt_of_le zb hg.size; have hzz := Nat.lt_of_lt_of_le hz2 hg.size)
    | (go_at_call 32; with_reducible refine (HV2.out _ (grew_trans g02 hg)).mono ?_; rintro e w2 ⟨rfl, hx2⟩; replace hg := grew_trans hg hx2; obtain ⟨hc, hcf⟩ := bcell hg; have hza := Nat.lt_of_lt_of_le za hg.size; have hzb := Nat.lt_of_lt_of_le zb hg.size; have hzz := Nat.lt_of_lt_of_le hz2 hg.size))
  (try simp only [Exit.inBlock, Exit.then])
  have hset := fun w' => set4 (w' := w') (c := #[.int .i64 0, .int .i64 0, .slice none 0 0, .slice none 0 0]) rfl (.int .i64 0) (.int .i64 0) (.slice none 0 0) (.slice none 0 0) ((hg.block _ hz2).trans HOBJ.out)
  have hgr : Grew w ((((w2.setCell ⟨W1.heap.size, 0, none⟩ (.int .i64 0)).setCell ⟨W1.heap.size, 1, none⟩ (.int .i64 0)).setCell ⟨W1.heap.size, 2, none⟩ (.slice none 0 0)).setCell ⟨W1.heap.size, 3, none⟩ (.slice none 0 0)) := by
    have h := grew_trans g02 hg
    repeat' (first | assumption | refine Below.setCell ?_ (by (try simp); omega) _)
  generalize hw8 : (((w2.setCell ⟨W1.heap.size, 0, none⟩ (.int .i64 0)).setCell ⟨W1.heap.size, 1, none⟩ (.int .i64 0)).setCell ⟨W1.heap.size, 2, none⟩ (.slice none 0 0)).setCell ⟨W1.heap.size, 3, none⟩ (.slice none 0 0) = w8 at hgr ⊢
  obtain ⟨hobj, hsz⟩ := hset w8 hw8
  obtain ⟨d0, d1, d2, d3, -, hd⟩ := cells4 hobj
  clear hset
  refine bodyPost_ret (v := .tuple #[zeroSpec, .int .i64 4]) ?_ rfl ?_
  · simp [results, Try.results39, go_sem, d0, d1, d2, d3]
  · exact ⟨rfl, hgr⟩

set_option maxHeartbeats 4000000 in
theorem both_big2 (s t : RSpec) (sv tv : Value) (w : World) (hs : IsSpec w sv s) (ht : IsSpec w tv t) (hv : validM s = true) (hvt : validM t = true) (hbig : ¬ 8 < s.st * t.st ∧ 4 < s.ops + t.ops) :
    Calls Try.prog 39 #[sv, tv] w fun e w' => e = .returned (.tuple #[zeroSpec, .int .i64 4]) ∧ Grew w w' := by
  have HV1 := hid (fun (y : World) (hy : Grew w y) => valid_any s sv y (hs.grew hy))
  have HV2 := hid (fun (y : World) (hy : Grew w y) => valid_any t tv y (ht.grew hy))
  obtain ⟨na, nc, ya, yc, rfl⟩ := isSpec_open' hs
  obtain ⟨nb, nd, yb, yd, rfl⟩ := isSpec_open' ht
  obtain ⟨Wa, hWa, ga, k0, k1, k2, k3, hz⟩ := box4 w (.int .i64 s.st) (.int .i64 s.ops) (.slice na s.next.length nc) (.slice ya s.says.length yc) 24
  obtain ⟨W1, hW1, gb, l0, l1, l2, l3, hz1⟩ := box4 Wa (.int .i64 t.st) (.int .i64 t.ops) (.slice nb t.next.length nd) (.slice yb t.says.length yd) 24
  have hobj2 := heap_alloc_new W1 (.cells #[.int .i64 0, .int .i64 0, .slice none 0 0, .slice none 0 0] 24)
  obtain ⟨W2, hW2, g2, q0, q1, q2, q3, hz2, qf⟩ := boxf4 W1 (.int .i64 0) (.int .i64 0) (.slice none 0 0) (.slice none 0 0) 24
  rw [hW2] at hobj2
  have HOBJ := hid hobj2; clear hobj2
  have g12 := grew_trans gb g2
  have g02 := grew_trans ga g12
  have a0 := (g12.cell (p := ⟨w.heap.size, 0, none⟩) hz).trans k0
  have a1 := (g12.cell (p := ⟨w.heap.size, 1, none⟩) hz).trans k1
  have a2 := (g12.cell (p := ⟨w.heap.size, 2, none⟩) hz).trans k2
  have a3 := (g12.cell (p := ⟨w.heap.size, 3, none⟩) hz).trans k3
  have e0 := (g2.cell (p := ⟨Wa.heap.size, 0, none⟩) hz1).trans l0
  have e1 := (g2.cell (p := ⟨Wa.heap.size, 1, none⟩) hz1).trans l1
  have e2 := (g2.cell (p := ⟨Wa.heap.size, 2, none⟩) hz1).trans l2
  have e3 := (g2.cell (p := ⟨Wa.heap.size, 3, none⟩) hz1).trans l3
  clear k0 k1 k2 k3 l0 l1 l2 l3
  have za : w.heap.size < W2.heap.size := Nat.lt_of_lt_of_le hz g12.size
  have zb : Wa.heap.size < W2.heap.size := Nat.lt_of_lt_of_le hz1 g2.size
  have zw : w.heap.size ≤ W1.heap.size := Nat.le_trans ga.size gb.size
  have hg := grew_refl W2
  rw [hv] at HV1
  rw [hvt] at HV2
  obtain ⟨⟨s1, s8, o1, o4⟩, _⟩ := valid_parts hv
  obtain ⟨⟨s1', s8', o1', o4'⟩, _⟩ := valid_parts hvt
  obtain ⟨x, hx⟩ : ∃ x, s.st = x := ⟨_, rfl⟩
  obtain ⟨y, hy⟩ : ∃ y, t.st = y := ⟨_, rfl⟩
  have hm0 : 0 ≤ s.st * t.st := Int.mul_nonneg (by omega) (by omega)
  have hm1 : s.st * t.st ≤ 8 * 8 := Int.mul_le_mul s8 s8' (by omega) (by omega)
  have hwr : IntKind.i64.wrap (s.st * t.st) = s.st * t.st := IntWalk.i64_in _ (by omega)
  have HBIG := hid hbig
  clear hs ht hv hvt hx hy hbig
  have hd1 : decide ((8 : Int) < s.st * t.st) = false := decide_eq_false (by have := HBIG.out.1; omega)
  have hd2 : decide ((4 : Int) < s.ops + t.ops) = true := decide_eq_true HBIG.out.2
  go_enter Try.func39, Try.ntmps39
  go_wp2_with (first
    | (go_at_call 32; with_reducible refine (HV1.out _ (grew_trans g02 hg)).mono ?_; rintro e w1 ⟨rfl, hx1⟩; replace hg := grew_trans hg hx1; obtain ⟨hc, hcf⟩ := bcell hg; have hza := Nat.lt_of_lt_of_le za hg.size; have hzb := Nat.lt_of_lt_of_le zb hg.size; have hzz := Nat.lt_of_lt_of_le hz2 hg.size)
    | (go_at_call 32; with_reducible refine (HV2.out _ (grew_trans g02 hg)).mono ?_; rintro e w2 ⟨rfl, hx2⟩; replace hg := grew_trans hg hx2; obtain ⟨hc, hcf⟩ := bcell hg; have hza := Nat.lt_of_lt_of_le za hg.size; have hzb := Nat.lt_of_lt_of_le zb hg.size; have hzz := Nat.lt_of_lt_of_le hz2 hg.size))
  (try simp only [Exit.inBlock, Exit.then])
  have hset := fun w' => set4 (w' := w') (c := #[.int .i64 0, .int .i64 0, .slice none 0 0, .slice none 0 0]) rfl (.int .i64 0) (.int .i64 0) (.slice none 0 0) (.slice none 0 0) ((hg.block _ hz2).trans HOBJ.out)
  have hgr : Grew w ((((w2.setCell ⟨W1.heap.size, 0, none⟩ (.int .i64 0)).setCell ⟨W1.heap.size, 1, none⟩ (.int .i64 0)).setCell ⟨W1.heap.size, 2, none⟩ (.slice none 0 0)).setCell ⟨W1.heap.size, 3, none⟩ (.slice none 0 0)) := by
    have h := grew_trans g02 hg
    repeat' (first | assumption | refine Below.setCell ?_ (by (try simp); omega) _)
  generalize hw8 : (((w2.setCell ⟨W1.heap.size, 0, none⟩ (.int .i64 0)).setCell ⟨W1.heap.size, 1, none⟩ (.int .i64 0)).setCell ⟨W1.heap.size, 2, none⟩ (.slice none 0 0)).setCell ⟨W1.heap.size, 3, none⟩ (.slice none 0 0) = w8 at hgr ⊢
  obtain ⟨hobj, hsz⟩ := hset w8 hw8
  obtain ⟨d0, d1, d2, d3, -, hd⟩ := cells4 hobj
  clear hset
  refine bodyPost_ret (v := .tuple #[zeroSpec, .int .i64 4]) ?_ rfl ?_
  · simp [results, Try.results39, go_sem, d0, d1, d2, d3]
  · exact ⟨rfl, hgr⟩

set_option maxHeartbeats 4000000 in
theorem refBoth_bad1 (s t : RSpec) (sv tv : Value) (w : World) (hs : IsSpec w sv s) (ht : IsSpec w tv t) (hv : validM s = false) :
    Calls Try.prog 40 #[sv, tv] w fun e w' => e = .returned (.tuple #[zeroSpec, .int .i64 10]) ∧ Grew w w' := by
  have HV1 := hid (fun (y : World) (hy : Grew w y) => refValid_any s sv y (hs.grew hy))
  have HV2 := hid (fun (y : World) (hy : Grew w y) => refValid_any t tv y (ht.grew hy))
  obtain ⟨na, nc, ya, yc, rfl⟩ := isSpec_open' hs
  obtain ⟨nb, nd, yb, yd, rfl⟩ := isSpec_open' ht
  obtain ⟨Wa, hWa, ga, k0, k1, k2, k3, hz⟩ := box4 w (.int .i64 s.st) (.int .i64 s.ops) (.slice na s.next.length nc) (.slice ya s.says.length yc) 24
  obtain ⟨W1, hW1, gb, l0, l1, l2, l3, hz1⟩ := box4 Wa (.int .i64 t.st) (.int .i64 t.ops) (.slice nb t.next.length nd) (.slice yb t.says.length yd) 24
  have hobj2 := heap_alloc_new W1 (.cells #[.int .i64 0, .int .i64 0, .slice none 0 0, .slice none 0 0] 24)
  obtain ⟨W2, hW2, g2, q0, q1, q2, q3, hz2, qf⟩ := boxf4 W1 (.int .i64 0) (.int .i64 0) (.slice none 0 0) (.slice none 0 0) 24
  rw [hW2] at hobj2
  have HOBJ := hid hobj2; clear hobj2
  have g12 := grew_trans gb g2
  have g02 := grew_trans ga g12
  have a0 := (g12.cell (p := ⟨w.heap.size, 0, none⟩) hz).trans k0
  have a1 := (g12.cell (p := ⟨w.heap.size, 1, none⟩) hz).trans k1
  have a2 := (g12.cell (p := ⟨w.heap.size, 2, none⟩) hz).trans k2
  have a3 := (g12.cell (p := ⟨w.heap.size, 3, none⟩) hz).trans k3
  have e0 := (g2.cell (p := ⟨Wa.heap.size, 0, none⟩) hz1).trans l0
  have e1 := (g2.cell (p := ⟨Wa.heap.size, 1, none⟩) hz1).trans l1
  have e2 := (g2.cell (p := ⟨Wa.heap.size, 2, none⟩) hz1).trans l2
  have e3 := (g2.cell (p := ⟨Wa.heap.size, 3, none⟩) hz1).trans l3
  clear k0 k1 k2 k3 l0 l1 l2 l3
  have za : w.heap.size < W2.heap.size := Nat.lt_of_lt_of_le hz g12.size
  have zb : Wa.heap.size < W2.heap.size := Nat.lt_of_lt_of_le hz1 g2.size
  have zw : w.heap.size ≤ W1.heap.size := Nat.le_trans ga.size gb.size
  have hg := grew_refl W2
  rw [hv] at HV1
  clear hs ht hv
  go_enter Try.func40, Try.ntmps40
  go_wp2_with (go_at_call 33; with_reducible refine (HV1.out _ (grew_trans g02 hg)).mono ?_; rintro e w1 ⟨rfl, hx1⟩; replace hg := grew_trans hg hx1; obtain ⟨hc, hcf⟩ := bcell hg; have hza := Nat.lt_of_lt_of_le za hg.size; have hzb := Nat.lt_of_lt_of_le zb hg.size; have hzz := Nat.lt_of_lt_of_le hz2 hg.size)
  (try simp only [Exit.inBlock, Exit.then])
  have hset := fun w' => set4 (w' := w') (c := #[.int .i64 0, .int .i64 0, .slice none 0 0, .slice none 0 0]) rfl (.int .i64 0) (.int .i64 0) (.slice none 0 0) (.slice none 0 0) ((hg.block _ hz2).trans HOBJ.out)
  have hgr : Grew w ((((w1.setCell ⟨W1.heap.size, 0, none⟩ (.int .i64 0)).setCell ⟨W1.heap.size, 1, none⟩ (.int .i64 0)).setCell ⟨W1.heap.size, 2, none⟩ (.slice none 0 0)).setCell ⟨W1.heap.size, 3, none⟩ (.slice none 0 0)) := by
    have h := grew_trans g02 hg
    repeat' (first | assumption | refine Below.setCell ?_ (by (try simp); omega) _)
  generalize hw8 : (((w1.setCell ⟨W1.heap.size, 0, none⟩ (.int .i64 0)).setCell ⟨W1.heap.size, 1, none⟩ (.int .i64 0)).setCell ⟨W1.heap.size, 2, none⟩ (.slice none 0 0)).setCell ⟨W1.heap.size, 3, none⟩ (.slice none 0 0) = w8 at hgr ⊢
  obtain ⟨hobj, hsz⟩ := hset w8 hw8
  obtain ⟨d0, d1, d2, d3, -, hd⟩ := cells4 hobj
  clear hset
  refine bodyPost_ret (v := .tuple #[zeroSpec, .int .i64 10]) ?_ rfl ?_
  · simp [results, Try.results40, go_sem, d0, d1, d2, d3]
  · exact ⟨rfl, hgr⟩

set_option maxHeartbeats 4000000 in
theorem refBoth_bad2 (s t : RSpec) (sv tv : Value) (w : World) (hs : IsSpec w sv s) (ht : IsSpec w tv t) (hv : validM s = true) (hvt : validM t = false) :
    Calls Try.prog 40 #[sv, tv] w fun e w' => e = .returned (.tuple #[zeroSpec, .int .i64 10]) ∧ Grew w w' := by
  have HV1 := hid (fun (y : World) (hy : Grew w y) => refValid_any s sv y (hs.grew hy))
  have HV2 := hid (fun (y : World) (hy : Grew w y) => refValid_any t tv y (ht.grew hy))
  obtain ⟨na, nc, ya, yc, rfl⟩ := isSpec_open' hs
  obtain ⟨nb, nd, yb, yd, rfl⟩ := isSpec_open' ht
  obtain ⟨Wa, hWa, ga, k0, k1, k2, k3, hz⟩ := box4 w (.int .i64 s.st) (.int .i64 s.ops) (.slice na s.next.length nc) (.slice ya s.says.length yc) 24
  obtain ⟨W1, hW1, gb, l0, l1, l2, l3, hz1⟩ := box4 Wa (.int .i64 t.st) (.int .i64 t.ops) (.slice nb t.next.length nd) (.slice yb t.says.length yd) 24
  have hobj2 := heap_alloc_new W1 (.cells #[.int .i64 0, .int .i64 0, .slice none 0 0, .slice none 0 0] 24)
  obtain ⟨W2, hW2, g2, q0, q1, q2, q3, hz2, qf⟩ := boxf4 W1 (.int .i64 0) (.int .i64 0) (.slice none 0 0) (.slice none 0 0) 24
  rw [hW2] at hobj2
  have HOBJ := hid hobj2; clear hobj2
  have g12 := grew_trans gb g2
  have g02 := grew_trans ga g12
  have a0 := (g12.cell (p := ⟨w.heap.size, 0, none⟩) hz).trans k0
  have a1 := (g12.cell (p := ⟨w.heap.size, 1, none⟩) hz).trans k1
  have a2 := (g12.cell (p := ⟨w.heap.size, 2, none⟩) hz).trans k2
  have a3 := (g12.cell (p := ⟨w.heap.size, 3, none⟩) hz).trans k3
  have e0 := (g2.cell (p := ⟨Wa.heap.size, 0, none⟩) hz1).trans l0
  have e1 := (g2.cell (p := ⟨Wa.heap.size, 1, none⟩) hz1).trans l1
  have e2 := (g2.cell (p := ⟨Wa.heap.size, 2, none⟩) hz1).trans l2
  have e3 := (g2.cell (p := ⟨Wa.heap.size, 3, none⟩) hz1).trans l3
  clear k0 k1 k2 k3 l0 l1 l2 l3
  have za : w.heap.size < W2.heap.size := Nat.lt_of_lt_of_le hz g12.size
  have zb : Wa.heap.size < W2.heap.size := Nat.lt_of_lt_of_le hz1 g2.size
  have zw : w.heap.size ≤ W1.heap.size := Nat.le_trans ga.size gb.size
  have hg := grew_refl W2
  rw [hv] at HV1
  rw [hvt] at HV2
  clear hs ht hv hvt
  go_enter Try.func40, Try.ntmps40
  go_wp2_with (first
    | (go_at_call 33; with_reducible refine (HV1.out _ (grew_trans g02 hg)).mono ?_; rintro e w1 ⟨rfl, hx1⟩; replace hg := grew_trans hg hx1; obtain ⟨hc, hcf⟩ := bcell hg; have hza := Nat.lt_of_lt_of_le za hg.size; have hzb := Nat.lt_of_lt_of_le zb hg.size; have hzz := Nat.lt_of_lt_of_le hz2 hg.size)
    | (go_at_call 33; with_reducible refine (HV2.out _ (grew_trans g02 hg)).mono ?_; rintro e w2 ⟨rfl, hx2⟩; replace hg := grew_trans hg hx2; obtain ⟨hc, hcf⟩ := bcell hg; have hza := Nat.lt_of_lt_of_le za hg.size; have hzb := Nat.lt_of_lt_of_le zb hg.size; have hzz := Nat.lt_of_lt_of_le hz2 hg.size))
  (try simp only [Exit.inBlock, Exit.then])
  have hset := fun w' => set4 (w' := w') (c := #[.int .i64 0, .int .i64 0, .slice none 0 0, .slice none 0 0]) rfl (.int .i64 0) (.int .i64 0) (.slice none 0 0) (.slice none 0 0) ((hg.block _ hz2).trans HOBJ.out)
  have hgr : Grew w ((((w2.setCell ⟨W1.heap.size, 0, none⟩ (.int .i64 0)).setCell ⟨W1.heap.size, 1, none⟩ (.int .i64 0)).setCell ⟨W1.heap.size, 2, none⟩ (.slice none 0 0)).setCell ⟨W1.heap.size, 3, none⟩ (.slice none 0 0)) := by
    have h := grew_trans g02 hg
    repeat' (first | assumption | refine Below.setCell ?_ (by (try simp); omega) _)
  generalize hw8 : (((w2.setCell ⟨W1.heap.size, 0, none⟩ (.int .i64 0)).setCell ⟨W1.heap.size, 1, none⟩ (.int .i64 0)).setCell ⟨W1.heap.size, 2, none⟩ (.slice none 0 0)).setCell ⟨W1.heap.size, 3, none⟩ (.slice none 0 0) = w8 at hgr ⊢
  obtain ⟨hobj, hsz⟩ := hset w8 hw8
  obtain ⟨d0, d1, d2, d3, -, hd⟩ := cells4 hobj
  clear hset
  refine bodyPost_ret (v := .tuple #[zeroSpec, .int .i64 10]) ?_ rfl ?_
  · simp [results, Try.results40, go_sem, d0, d1, d2, d3]
  · exact ⟨rfl, hgr⟩

set_option maxHeartbeats 4000000 in
theorem refBoth_big1 (s t : RSpec) (sv tv : Value) (w : World) (hs : IsSpec w sv s) (ht : IsSpec w tv t) (hv : validM s = true) (hvt : validM t = true) (hbig : 8 < s.st * t.st) :
    Calls Try.prog 40 #[sv, tv] w fun e w' => e = .returned (.tuple #[zeroSpec, .int .i64 4]) ∧ Grew w w' := by
  have HV1 := hid (fun (y : World) (hy : Grew w y) => refValid_any s sv y (hs.grew hy))
  have HV2 := hid (fun (y : World) (hy : Grew w y) => refValid_any t tv y (ht.grew hy))
  obtain ⟨na, nc, ya, yc, rfl⟩ := isSpec_open' hs
  obtain ⟨nb, nd, yb, yd, rfl⟩ := isSpec_open' ht
  obtain ⟨Wa, hWa, ga, k0, k1, k2, k3, hz⟩ := box4 w (.int .i64 s.st) (.int .i64 s.ops) (.slice na s.next.length nc) (.slice ya s.says.length yc) 24
  obtain ⟨W1, hW1, gb, l0, l1, l2, l3, hz1⟩ := box4 Wa (.int .i64 t.st) (.int .i64 t.ops) (.slice nb t.next.length nd) (.slice yb t.says.length yd) 24
  have hobj2 := heap_alloc_new W1 (.cells #[.int .i64 0, .int .i64 0, .slice none 0 0, .slice none 0 0] 24)
  obtain ⟨W2, hW2, g2, q0, q1, q2, q3, hz2, qf⟩ := boxf4 W1 (.int .i64 0) (.int .i64 0) (.slice none 0 0) (.slice none 0 0) 24
  rw [hW2] at hobj2
  have HOBJ := hid hobj2; clear hobj2
  have g12 := grew_trans gb g2
  have g02 := grew_trans ga g12
  have a0 := (g12.cell (p := ⟨w.heap.size, 0, none⟩) hz).trans k0
  have a1 := (g12.cell (p := ⟨w.heap.size, 1, none⟩) hz).trans k1
  have a2 := (g12.cell (p := ⟨w.heap.size, 2, none⟩) hz).trans k2
  have a3 := (g12.cell (p := ⟨w.heap.size, 3, none⟩) hz).trans k3
  have e0 := (g2.cell (p := ⟨Wa.heap.size, 0, none⟩) hz1).trans l0
  have e1 := (g2.cell (p := ⟨Wa.heap.size, 1, none⟩) hz1).trans l1
  have e2 := (g2.cell (p := ⟨Wa.heap.size, 2, none⟩) hz1).trans l2
  have e3 := (g2.cell (p := ⟨Wa.heap.size, 3, none⟩) hz1).trans l3
  clear k0 k1 k2 k3 l0 l1 l2 l3
  have za : w.heap.size < W2.heap.size := Nat.lt_of_lt_of_le hz g12.size
  have zb : Wa.heap.size < W2.heap.size := Nat.lt_of_lt_of_le hz1 g2.size
  have zw : w.heap.size ≤ W1.heap.size := Nat.le_trans ga.size gb.size
  have hg := grew_refl W2
  rw [hv] at HV1
  rw [hvt] at HV2
  obtain ⟨⟨s1, s8, o1, o4⟩, _⟩ := valid_parts hv
  obtain ⟨⟨s1', s8', o1', o4'⟩, _⟩ := valid_parts hvt
  obtain ⟨x, hx⟩ : ∃ x, s.st = x := ⟨_, rfl⟩
  obtain ⟨y, hy⟩ : ∃ y, t.st = y := ⟨_, rfl⟩
  have hm0 : 0 ≤ s.st * t.st := Int.mul_nonneg (by omega) (by omega)
  have hm1 : s.st * t.st ≤ 8 * 8 := Int.mul_le_mul s8 s8' (by omega) (by omega)
  have hwr : IntKind.i64.wrap (s.st * t.st) = s.st * t.st := IntWalk.i64_in _ (by omega)
  have HBIG := hid hbig
  clear hs ht hv hvt hx hy hbig
  have hd1 : decide ((8 : Int) < s.st * t.st) = true := decide_eq_true HBIG.out
  go_enter Try.func40, Try.ntmps40
  go_wp2_with (first
    | (go_at_call 33; with_reducible refine (HV1.out _ (grew_trans g02 hg)).mono ?_; rintro e w1 ⟨rfl, hx1⟩; replace hg := grew_trans hg hx1; obtain ⟨hc, hcf⟩ := bcell hg; have hza := Nat.lt_of_lt_of_le za hg.size; have hzb := Nat.lt_of_lt_of_le zb hg.size; have hzz := Nat.lt_of_lt_of_le hz2 hg.size)
    | (go_at_call 33; with_reducible refine (HV2.out _ (grew_trans g02 hg)).mono ?_; rintro e w2 ⟨rfl, hx2⟩; replace hg := grew_trans hg hx2; obtain ⟨hc, hcf⟩ := bcell hg; have hza := Nat.lt_of_lt_of_le za hg.size; have hzb := Nat.lt_of_lt_of_le zb hg.size; have hzz := Nat.lt_of_lt_of_le hz2 hg.size))
  (try simp only [Exit.inBlock, Exit.then])
  have hset := fun w' => set4 (w' := w') (c := #[.int .i64 0, .int .i64 0, .slice none 0 0, .slice none 0 0]) rfl (.int .i64 0) (.int .i64 0) (.slice none 0 0) (.slice none 0 0) ((hg.block _ hz2).trans HOBJ.out)
  have hgr : Grew w ((((w2.setCell ⟨W1.heap.size, 0, none⟩ (.int .i64 0)).setCell ⟨W1.heap.size, 1, none⟩ (.int .i64 0)).setCell ⟨W1.heap.size, 2, none⟩ (.slice none 0 0)).setCell ⟨W1.heap.size, 3, none⟩ (.slice none 0 0)) := by
    have h := grew_trans g02 hg
    repeat' (first | assumption | refine Below.setCell ?_ (by (try simp); omega) _)
  generalize hw8 : (((w2.setCell ⟨W1.heap.size, 0, none⟩ (.int .i64 0)).setCell ⟨W1.heap.size, 1, none⟩ (.int .i64 0)).setCell ⟨W1.heap.size, 2, none⟩ (.slice none 0 0)).setCell ⟨W1.heap.size, 3, none⟩ (.slice none 0 0) = w8 at hgr ⊢
  obtain ⟨hobj, hsz⟩ := hset w8 hw8
  obtain ⟨d0, d1, d2, d3, -, hd⟩ := cells4 hobj
  clear hset
  refine bodyPost_ret (v := .tuple #[zeroSpec, .int .i64 4]) ?_ rfl ?_
  · simp [results, Try.results40, go_sem, d0, d1, d2, d3, hd]
  · exact ⟨rfl, grew_alloc hgr _⟩

set_option maxHeartbeats 4000000 in
theorem refBoth_big2 (s t : RSpec) (sv tv : Value) (w : World) (hs : IsSpec w sv s) (ht : IsSpec w tv t) (hv : validM s = true) (hvt : validM t = true) (hbig : ¬ 8 < s.st * t.st ∧ 4 < s.ops + t.ops) :
    Calls Try.prog 40 #[sv, tv] w fun e w' => e = .returned (.tuple #[zeroSpec, .int .i64 4]) ∧ Grew w w' := by
  have HV1 := hid (fun (y : World) (hy : Grew w y) => refValid_any s sv y (hs.grew hy))
  have HV2 := hid (fun (y : World) (hy : Grew w y) => refValid_any t tv y (ht.grew hy))
  obtain ⟨na, nc, ya, yc, rfl⟩ := isSpec_open' hs
  obtain ⟨nb, nd, yb, yd, rfl⟩ := isSpec_open' ht
  obtain ⟨Wa, hWa, ga, k0, k1, k2, k3, hz⟩ := box4 w (.int .i64 s.st) (.int .i64 s.ops) (.slice na s.next.length nc) (.slice ya s.says.length yc) 24
  obtain ⟨W1, hW1, gb, l0, l1, l2, l3, hz1⟩ := box4 Wa (.int .i64 t.st) (.int .i64 t.ops) (.slice nb t.next.length nd) (.slice yb t.says.length yd) 24
  have hobj2 := heap_alloc_new W1 (.cells #[.int .i64 0, .int .i64 0, .slice none 0 0, .slice none 0 0] 24)
  obtain ⟨W2, hW2, g2, q0, q1, q2, q3, hz2, qf⟩ := boxf4 W1 (.int .i64 0) (.int .i64 0) (.slice none 0 0) (.slice none 0 0) 24
  rw [hW2] at hobj2
  have HOBJ := hid hobj2; clear hobj2
  have g12 := grew_trans gb g2
  have g02 := grew_trans ga g12
  have a0 := (g12.cell (p := ⟨w.heap.size, 0, none⟩) hz).trans k0
  have a1 := (g12.cell (p := ⟨w.heap.size, 1, none⟩) hz).trans k1
  have a2 := (g12.cell (p := ⟨w.heap.size, 2, none⟩) hz).trans k2
  have a3 := (g12.cell (p := ⟨w.heap.size, 3, none⟩) hz).trans k3
  have e0 := (g2.cell (p := ⟨Wa.heap.size, 0, none⟩) hz1).trans l0
  have e1 := (g2.cell (p := ⟨Wa.heap.size, 1, none⟩) hz1).trans l1
  have e2 := (g2.cell (p := ⟨Wa.heap.size, 2, none⟩) hz1).trans l2
  have e3 := (g2.cell (p := ⟨Wa.heap.size, 3, none⟩) hz1).trans l3
  clear k0 k1 k2 k3 l0 l1 l2 l3
  have za : w.heap.size < W2.heap.size := Nat.lt_of_lt_of_le hz g12.size
  have zb : Wa.heap.size < W2.heap.size := Nat.lt_of_lt_of_le hz1 g2.size
  have zw : w.heap.size ≤ W1.heap.size := Nat.le_trans ga.size gb.size
  have hg := grew_refl W2
  rw [hv] at HV1
  rw [hvt] at HV2
  obtain ⟨⟨s1, s8, o1, o4⟩, _⟩ := valid_parts hv
  obtain ⟨⟨s1', s8', o1', o4'⟩, _⟩ := valid_parts hvt
  obtain ⟨x, hx⟩ : ∃ x, s.st = x := ⟨_, rfl⟩
  obtain ⟨y, hy⟩ : ∃ y, t.st = y := ⟨_, rfl⟩
  have hm0 : 0 ≤ s.st * t.st := Int.mul_nonneg (by omega) (by omega)
  have hm1 : s.st * t.st ≤ 8 * 8 := Int.mul_le_mul s8 s8' (by omega) (by omega)
  have hwr : IntKind.i64.wrap (s.st * t.st) = s.st * t.st := IntWalk.i64_in _ (by omega)
  have HBIG := hid hbig
  clear hs ht hv hvt hx hy hbig
  have hd1 : decide ((8 : Int) < s.st * t.st) = false := decide_eq_false (by have := HBIG.out.1; omega)
  have hd2 : decide ((4 : Int) < s.ops + t.ops) = true := decide_eq_true HBIG.out.2
  go_enter Try.func40, Try.ntmps40
  go_wp2_with (first
    | (go_at_call 33; with_reducible refine (HV1.out _ (grew_trans g02 hg)).mono ?_; rintro e w1 ⟨rfl, hx1⟩; replace hg := grew_trans hg hx1; obtain ⟨hc, hcf⟩ := bcell hg; have hza := Nat.lt_of_lt_of_le za hg.size; have hzb := Nat.lt_of_lt_of_le zb hg.size; have hzz := Nat.lt_of_lt_of_le hz2 hg.size)
    | (go_at_call 33; with_reducible refine (HV2.out _ (grew_trans g02 hg)).mono ?_; rintro e w2 ⟨rfl, hx2⟩; replace hg := grew_trans hg hx2; obtain ⟨hc, hcf⟩ := bcell hg; have hza := Nat.lt_of_lt_of_le za hg.size; have hzb := Nat.lt_of_lt_of_le zb hg.size; have hzz := Nat.lt_of_lt_of_le hz2 hg.size))
  (try simp only [Exit.inBlock, Exit.then])
  have hset := fun w' => set4 (w' := w') (c := #[.int .i64 0, .int .i64 0, .slice none 0 0, .slice none 0 0]) rfl (.int .i64 0) (.int .i64 0) (.slice none 0 0) (.slice none 0 0) ((hg.block _ hz2).trans HOBJ.out)
  have hgr : Grew w ((((w2.setCell ⟨W1.heap.size, 0, none⟩ (.int .i64 0)).setCell ⟨W1.heap.size, 1, none⟩ (.int .i64 0)).setCell ⟨W1.heap.size, 2, none⟩ (.slice none 0 0)).setCell ⟨W1.heap.size, 3, none⟩ (.slice none 0 0)) := by
    have h := grew_trans g02 hg
    repeat' (first | assumption | refine Below.setCell ?_ (by (try simp); omega) _)
  generalize hw8 : (((w2.setCell ⟨W1.heap.size, 0, none⟩ (.int .i64 0)).setCell ⟨W1.heap.size, 1, none⟩ (.int .i64 0)).setCell ⟨W1.heap.size, 2, none⟩ (.slice none 0 0)).setCell ⟨W1.heap.size, 3, none⟩ (.slice none 0 0) = w8 at hgr ⊢
  obtain ⟨hobj, hsz⟩ := hset w8 hw8
  obtain ⟨d0, d1, d2, d3, -, hd⟩ := cells4 hobj
  clear hset
  refine bodyPost_ret (v := .tuple #[zeroSpec, .int .i64 4]) ?_ rfl ?_
  · simp [results, Try.results40, go_sem, d0, d1, d2, d3, hd]
  · exact ⟨rfl, grew_alloc hgr _⟩
end Go.Proofs.Ytnebpcpihldllaa
