/- Walks: what a yard returns that is nil or zero; the law HazardNils: it answers true. -/
import Derived.Test.YtcifpigjcfkhmaaHIs
import Derived.Test.YtcifpigjcfkhmaaHOpen2
namespace Go.Proofs.Ytcifpigjcfkhmaa
open Go.RowKit Go.Lin Go.Lin.Hz

/-- A yard that was made by no call. -/
def NoneY (w : World) (pa : Option Addr) : Prop := ∀ y, Grew w y → Calls Try.prog 56 #[.pointer pa] y fun e w' => e = .returned (.bool true) ∧ Grew y w'

theorem NoneY.of {w : World} {pa : Option Addr} (h : ∀ y, Grew w y → Calls Try.prog 56 #[.pointer pa] y fun e w' => e = .returned (.bool true) ∧ Grew y w') : NoneY w pa := h
theorem NoneY.nil (w : World) : NoneY w none := fun y _ => none_nil y
theorem NoneY.zero {w : World} {b : Nat} (hb : b < w.heap.size) (h : w.cell? ⟨b, 0, none⟩ = some (.int .i64 0)) : NoneY w (some ⟨b, 0, none⟩) := fun y hy => none_at b 0 y ((hy.cell (p := ⟨b, 0, none⟩) hb).trans h)
theorem NoneY.grew {w w' : World} {pa : Option Addr} (h : NoneY w pa) (hg : Grew w w') : NoneY w' pa := fun y hy => h y (grew_trans hg hy)

set_option maxHeartbeats 1000000 in
theorem nil41 (pa : Option Addr) (t : Int) (w : World) (hN : NoneY w pa) : Calls Try.prog 41 #[.pointer pa, .int .i64 t] w fun e w' => e = .returned (.tuple #[.int .i64 0, .int .i64 60]) ∧ Grew w w' := by
  have HN := hid (fun (y : World) (hy : Grew w y) => show Calls Try.prog 56 #[.pointer pa] y fun e w' => e = .returned (.bool true) ∧ Grew y w' from hN y hy)
  have hg := grew_refl w
  clear hN
  go_enter Try.func41, Try.ntmps41
  go_wp2_with (first
    | (go_at_call 59; with_reducible refine (isThread_any _ _ _).mono ?_; rintro e w1 ⟨q1, rfl, -, -, -, -, hx⟩; replace hg := grew_trans hg hx; have hc := (bcell hg).1)
    | (go_at_call 60; with_reducible refine (isSlot_any _ _ _).mono ?_; rintro e w2 ⟨q2, rfl, -, -, -, hx⟩; replace hg := grew_trans hg hx; have hc := (bcell hg).1)
    | (go_at_call 58; with_reducible refine (isNode_any _ _ _).mono ?_; rintro e w3 ⟨q3, rfl, -, -, -, hx⟩; replace hg := grew_trans hg hx; have hc := (bcell hg).1)
    | (go_at_call 56; with_reducible refine (HN.out _ hg).mono ?_; rintro e w4 ⟨rfl, hx⟩; replace hg := grew_trans hg hx; have hc := (bcell hg).1)
    | (go_at_call 49; with_reducible refine (asked_none _ _ _ (fun y hy => HN.out y (grew_trans (grew_alloc hg _) hy))).mono ?_; rintro e w5 ⟨rfl, hx⟩; replace hg := grew_trans (grew_alloc hg _) hx; have hc := (bcell hg).1))
  go_ret2
  exact ⟨rfl, hg⟩

set_option maxHeartbeats 1000000 in
theorem nil28 (pa : Option Addr) (t n : Int) (w : World) (hN : NoneY w pa) : Calls Try.prog 28 #[.pointer pa, .int .i64 t, .int .i64 n] w fun e w' => e = .returned (.tuple #[.int .i64 0, .int .i64 60]) ∧ Grew w w' := by
  have HN := hid (fun (y : World) (hy : Grew w y) => show Calls Try.prog 56 #[.pointer pa] y fun e w' => e = .returned (.bool true) ∧ Grew y w' from hN y hy)
  have hg := grew_refl w
  clear hN
  go_enter Try.func28, Try.ntmps28
  go_wp2_with (first
    | (go_at_call 59; with_reducible refine (isThread_any _ _ _).mono ?_; rintro e w1 ⟨q1, rfl, -, -, -, -, hx⟩; replace hg := grew_trans hg hx; have hc := (bcell hg).1)
    | (go_at_call 60; with_reducible refine (isSlot_any _ _ _).mono ?_; rintro e w2 ⟨q2, rfl, -, -, -, hx⟩; replace hg := grew_trans hg hx; have hc := (bcell hg).1)
    | (go_at_call 58; with_reducible refine (isNode_any _ _ _).mono ?_; rintro e w3 ⟨q3, rfl, -, -, -, hx⟩; replace hg := grew_trans hg hx; have hc := (bcell hg).1)
    | (go_at_call 56; with_reducible refine (HN.out _ hg).mono ?_; rintro e w4 ⟨rfl, hx⟩; replace hg := grew_trans hg hx; have hc := (bcell hg).1)
    | (go_at_call 49; with_reducible refine (asked_none _ _ _ (fun y hy => HN.out y (grew_trans (grew_alloc hg _) hy))).mono ?_; rintro e w5 ⟨rfl, hx⟩; replace hg := grew_trans (grew_alloc hg _) hx; have hc := (bcell hg).1))
  go_ret2
  exact ⟨rfl, hg⟩

set_option maxHeartbeats 1000000 in
theorem nil24 (pa : Option Addr) (t : Int) (w : World) (hN : NoneY w pa) : Calls Try.prog 24 #[.pointer pa, .int .i64 t] w fun e w' => e = .returned (.tuple #[.int .i64 0, .int .i64 60]) ∧ Grew w w' := by
  have HN := hid (fun (y : World) (hy : Grew w y) => show Calls Try.prog 56 #[.pointer pa] y fun e w' => e = .returned (.bool true) ∧ Grew y w' from hN y hy)
  have hg := grew_refl w
  clear hN
  go_enter Try.func24, Try.ntmps24
  go_wp2_with (first
    | (go_at_call 59; with_reducible refine (isThread_any _ _ _).mono ?_; rintro e w1 ⟨q1, rfl, -, -, -, -, hx⟩; replace hg := grew_trans hg hx; have hc := (bcell hg).1)
    | (go_at_call 60; with_reducible refine (isSlot_any _ _ _).mono ?_; rintro e w2 ⟨q2, rfl, -, -, -, hx⟩; replace hg := grew_trans hg hx; have hc := (bcell hg).1)
    | (go_at_call 58; with_reducible refine (isNode_any _ _ _).mono ?_; rintro e w3 ⟨q3, rfl, -, -, -, hx⟩; replace hg := grew_trans hg hx; have hc := (bcell hg).1)
    | (go_at_call 56; with_reducible refine (HN.out _ hg).mono ?_; rintro e w4 ⟨rfl, hx⟩; replace hg := grew_trans hg hx; have hc := (bcell hg).1)
    | (go_at_call 49; with_reducible refine (asked_none _ _ _ (fun y hy => HN.out y (grew_trans (grew_alloc hg _) hy))).mono ?_; rintro e w5 ⟨rfl, hx⟩; replace hg := grew_trans (grew_alloc hg _) hx; have hc := (bcell hg).1))
  go_ret2
  exact ⟨rfl, hg⟩

set_option maxHeartbeats 1000000 in
theorem nil22 (pa : Option Addr) (t s : Int) (w : World) (hN : NoneY w pa) : Calls Try.prog 22 #[.pointer pa, .int .i64 t, .int .i64 s] w fun e w' => e = .returned (.tuple #[.int .i64 0, .int .i64 60]) ∧ Grew w w' := by
  have HN := hid (fun (y : World) (hy : Grew w y) => show Calls Try.prog 56 #[.pointer pa] y fun e w' => e = .returned (.bool true) ∧ Grew y w' from hN y hy)
  have hg := grew_refl w
  clear hN
  go_enter Try.func22, Try.ntmps22
  go_wp2_with (first
    | (go_at_call 59; with_reducible refine (isThread_any _ _ _).mono ?_; rintro e w1 ⟨q1, rfl, -, -, -, -, hx⟩; replace hg := grew_trans hg hx; have hc := (bcell hg).1)
    | (go_at_call 60; with_reducible refine (isSlot_any _ _ _).mono ?_; rintro e w2 ⟨q2, rfl, -, -, -, hx⟩; replace hg := grew_trans hg hx; have hc := (bcell hg).1)
    | (go_at_call 58; with_reducible refine (isNode_any _ _ _).mono ?_; rintro e w3 ⟨q3, rfl, -, -, -, hx⟩; replace hg := grew_trans hg hx; have hc := (bcell hg).1)
    | (go_at_call 56; with_reducible refine (HN.out _ hg).mono ?_; rintro e w4 ⟨rfl, hx⟩; replace hg := grew_trans hg hx; have hc := (bcell hg).1)
    | (go_at_call 49; with_reducible refine (asked_none _ _ _ (fun y hy => HN.out y (grew_trans (grew_alloc hg _) hy))).mono ?_; rintro e w5 ⟨rfl, hx⟩; replace hg := grew_trans (grew_alloc hg _) hx; have hc := (bcell hg).1))
  go_ret2
  exact ⟨rfl, hg⟩

set_option maxHeartbeats 1000000 in
theorem nil21 (pa : Option Addr) (t s : Int) (w : World) (hN : NoneY w pa) : Calls Try.prog 21 #[.pointer pa, .int .i64 t, .int .i64 s] w fun e w' => e = .returned (.tuple #[.int .i64 0, .int .i64 60]) ∧ Grew w w' := by
  have HN := hid (fun (y : World) (hy : Grew w y) => show Calls Try.prog 56 #[.pointer pa] y fun e w' => e = .returned (.bool true) ∧ Grew y w' from hN y hy)
  have hg := grew_refl w
  clear hN
  go_enter Try.func21, Try.ntmps21
  go_wp2_with (first
    | (go_at_call 59; with_reducible refine (isThread_any _ _ _).mono ?_; rintro e w1 ⟨q1, rfl, -, -, -, -, hx⟩; replace hg := grew_trans hg hx; have hc := (bcell hg).1)
    | (go_at_call 60; with_reducible refine (isSlot_any _ _ _).mono ?_; rintro e w2 ⟨q2, rfl, -, -, -, hx⟩; replace hg := grew_trans hg hx; have hc := (bcell hg).1)
    | (go_at_call 58; with_reducible refine (isNode_any _ _ _).mono ?_; rintro e w3 ⟨q3, rfl, -, -, -, hx⟩; replace hg := grew_trans hg hx; have hc := (bcell hg).1)
    | (go_at_call 56; with_reducible refine (HN.out _ hg).mono ?_; rintro e w4 ⟨rfl, hx⟩; replace hg := grew_trans hg hx; have hc := (bcell hg).1)
    | (go_at_call 49; with_reducible refine (asked_none _ _ _ (fun y hy => HN.out y (grew_trans (grew_alloc hg _) hy))).mono ?_; rintro e w5 ⟨rfl, hx⟩; replace hg := grew_trans (grew_alloc hg _) hx; have hc := (bcell hg).1)
    | (go_at_call 22; with_reducible refine (nil22 pa t s _ (NoneY.of (fun y hy => HN.out y (grew_trans hg hy)))).mono ?_; rintro e w6 ⟨rfl, hx⟩; replace hg := grew_trans hg hx; have hc := (bcell hg).1))
  go_ret2
  exact ⟨rfl, hg⟩

set_option maxHeartbeats 1000000 in
theorem nil20 (pa : Option Addr) (n : Int) (w : World) (hN : NoneY w pa) : Calls Try.prog 20 #[.pointer pa, .int .i64 n] w fun e w' => e = .returned (.tuple #[.int .i64 0, .int .i64 60]) ∧ Grew w w' := by
  have HN := hid (fun (y : World) (hy : Grew w y) => show Calls Try.prog 56 #[.pointer pa] y fun e w' => e = .returned (.bool true) ∧ Grew y w' from hN y hy)
  have hg := grew_refl w
  clear hN
  go_enter Try.func20, Try.ntmps20
  go_wp2_with (first
    | (go_at_call 59; with_reducible refine (isThread_any _ _ _).mono ?_; rintro e w1 ⟨q1, rfl, -, -, -, -, hx⟩; replace hg := grew_trans hg hx; have hc := (bcell hg).1)
    | (go_at_call 60; with_reducible refine (isSlot_any _ _ _).mono ?_; rintro e w2 ⟨q2, rfl, -, -, -, hx⟩; replace hg := grew_trans hg hx; have hc := (bcell hg).1)
    | (go_at_call 58; with_reducible refine (isNode_any _ _ _).mono ?_; rintro e w3 ⟨q3, rfl, -, -, -, hx⟩; replace hg := grew_trans hg hx; have hc := (bcell hg).1)
    | (go_at_call 56; with_reducible refine (HN.out _ hg).mono ?_; rintro e w4 ⟨rfl, hx⟩; replace hg := grew_trans hg hx; have hc := (bcell hg).1)
    | (go_at_call 49; with_reducible refine (asked_none _ _ _ (fun y hy => HN.out y (grew_trans (grew_alloc hg _) hy))).mono ?_; rintro e w5 ⟨rfl, hx⟩; replace hg := grew_trans (grew_alloc hg _) hx; have hc := (bcell hg).1))
  go_ret2
  exact ⟨rfl, hg⟩

set_option maxHeartbeats 1000000 in
theorem nil32 (pa : Option Addr) (t : Int) (w : World) (hN : NoneY w pa) : Calls Try.prog 32 #[.pointer pa, .int .i64 t] w fun e w' => e = .returned (.tuple #[.slice none 0 0, .int .i64 60]) ∧ Grew w w' := by
  have HN := hid (fun (y : World) (hy : Grew w y) => show Calls Try.prog 56 #[.pointer pa] y fun e w' => e = .returned (.bool true) ∧ Grew y w' from hN y hy)
  have hg := grew_refl w
  clear hN
  go_enter Try.func32, Try.ntmps32
  go_wp2_with (first
    | (go_at_call 59; with_reducible refine (isThread_any _ _ _).mono ?_; rintro e w1 ⟨q1, rfl, -, -, -, -, hx⟩; replace hg := grew_trans hg hx; have hc := (bcell hg).1)
    | (go_at_call 60; with_reducible refine (isSlot_any _ _ _).mono ?_; rintro e w2 ⟨q2, rfl, -, -, -, hx⟩; replace hg := grew_trans hg hx; have hc := (bcell hg).1)
    | (go_at_call 58; with_reducible refine (isNode_any _ _ _).mono ?_; rintro e w3 ⟨q3, rfl, -, -, -, hx⟩; replace hg := grew_trans hg hx; have hc := (bcell hg).1)
    | (go_at_call 56; with_reducible refine (HN.out _ hg).mono ?_; rintro e w4 ⟨rfl, hx⟩; replace hg := grew_trans hg hx; have hc := (bcell hg).1)
    | (go_at_call 49; with_reducible refine (asked_none _ _ _ (fun y hy => HN.out y (grew_trans (grew_alloc hg _) hy))).mono ?_; rintro e w5 ⟨rfl, hx⟩; replace hg := grew_trans (grew_alloc hg _) hx; have hc := (bcell hg).1))
  go_ret2
  exact ⟨rfl, hg⟩

set_option maxHeartbeats 1000000 in
theorem nil37 (pa : Option Addr) (t s n : Int) (w : World) (hN : NoneY w pa) : Calls Try.prog 37 #[.pointer pa, .int .i64 t, .int .i64 s, .int .i64 n] w fun e w' => e = .returned (.int .i64 60) ∧ Grew w w' := by
  have HN := hid (fun (y : World) (hy : Grew w y) => show Calls Try.prog 56 #[.pointer pa] y fun e w' => e = .returned (.bool true) ∧ Grew y w' from hN y hy)
  have hg := grew_refl w
  clear hN
  go_enter Try.func37, Try.ntmps37
  go_wp2_with (first
    | (go_at_call 59; with_reducible refine (isThread_any _ _ _).mono ?_; rintro e w1 ⟨q1, rfl, -, -, -, -, hx⟩; replace hg := grew_trans hg hx; have hc := (bcell hg).1)
    | (go_at_call 60; with_reducible refine (isSlot_any _ _ _).mono ?_; rintro e w2 ⟨q2, rfl, -, -, -, hx⟩; replace hg := grew_trans hg hx; have hc := (bcell hg).1)
    | (go_at_call 58; with_reducible refine (isNode_any _ _ _).mono ?_; rintro e w3 ⟨q3, rfl, -, -, -, hx⟩; replace hg := grew_trans hg hx; have hc := (bcell hg).1)
    | (go_at_call 56; with_reducible refine (HN.out _ hg).mono ?_; rintro e w4 ⟨rfl, hx⟩; replace hg := grew_trans hg hx; have hc := (bcell hg).1)
    | (go_at_call 49; with_reducible refine (asked_none _ _ _ (fun y hy => HN.out y (grew_trans (grew_alloc hg _) hy))).mono ?_; rintro e w5 ⟨rfl, hx⟩; replace hg := grew_trans (grew_alloc hg _) hx; have hc := (bcell hg).1))
  go_ret
  exact ⟨rfl, hg⟩

set_option maxHeartbeats 1000000 in
theorem nil25 (pa : Option Addr) (t s : Int) (w : World) (hN : NoneY w pa) : Calls Try.prog 25 #[.pointer pa, .int .i64 t, .int .i64 s] w fun e w' => e = .returned (.int .i64 60) ∧ Grew w w' := by
  have HN := hid (fun (y : World) (hy : Grew w y) => show Calls Try.prog 56 #[.pointer pa] y fun e w' => e = .returned (.bool true) ∧ Grew y w' from hN y hy)
  have hg := grew_refl w
  clear hN
  go_enter Try.func25, Try.ntmps25
  go_wp2_with (first
    | (go_at_call 59; with_reducible refine (isThread_any _ _ _).mono ?_; rintro e w1 ⟨q1, rfl, -, -, -, -, hx⟩; replace hg := grew_trans hg hx; have hc := (bcell hg).1)
    | (go_at_call 60; with_reducible refine (isSlot_any _ _ _).mono ?_; rintro e w2 ⟨q2, rfl, -, -, -, hx⟩; replace hg := grew_trans hg hx; have hc := (bcell hg).1)
    | (go_at_call 58; with_reducible refine (isNode_any _ _ _).mono ?_; rintro e w3 ⟨q3, rfl, -, -, -, hx⟩; replace hg := grew_trans hg hx; have hc := (bcell hg).1)
    | (go_at_call 56; with_reducible refine (HN.out _ hg).mono ?_; rintro e w4 ⟨rfl, hx⟩; replace hg := grew_trans hg hx; have hc := (bcell hg).1)
    | (go_at_call 49; with_reducible refine (asked_none _ _ _ (fun y hy => HN.out y (grew_trans (grew_alloc hg _) hy))).mono ?_; rintro e w5 ⟨rfl, hx⟩; replace hg := grew_trans (grew_alloc hg _) hx; have hc := (bcell hg).1))
  go_ret
  exact ⟨rfl, hg⟩

set_option maxHeartbeats 1000000 in
theorem nil62 (pa : Option Addr) (s : Int) (w : World) (hN : NoneY w pa) : Calls Try.prog 62 #[.pointer pa, .int .i64 s] w fun e w' => e = .returned (.int .i64 0) ∧ Grew w w' := by
  have HN := hid (fun (y : World) (hy : Grew w y) => show Calls Try.prog 56 #[.pointer pa] y fun e w' => e = .returned (.bool true) ∧ Grew y w' from hN y hy)
  have hg := grew_refl w
  clear hN
  go_enter Try.func62, Try.ntmps62
  go_wp2_with (first
    | (go_at_call 59; with_reducible refine (isThread_any _ _ _).mono ?_; rintro e w1 ⟨q1, rfl, -, -, -, -, hx⟩; replace hg := grew_trans hg hx; have hc := (bcell hg).1)
    | (go_at_call 60; with_reducible refine (isSlot_any _ _ _).mono ?_; rintro e w2 ⟨q2, rfl, -, -, -, hx⟩; replace hg := grew_trans hg hx; have hc := (bcell hg).1)
    | (go_at_call 58; with_reducible refine (isNode_any _ _ _).mono ?_; rintro e w3 ⟨q3, rfl, -, -, -, hx⟩; replace hg := grew_trans hg hx; have hc := (bcell hg).1)
    | (go_at_call 56; with_reducible refine (HN.out _ hg).mono ?_; rintro e w4 ⟨rfl, hx⟩; replace hg := grew_trans hg hx; have hc := (bcell hg).1)
    | (go_at_call 49; with_reducible refine (asked_none _ _ _ (fun y hy => HN.out y (grew_trans (grew_alloc hg _) hy))).mono ?_; rintro e w5 ⟨rfl, hx⟩; replace hg := grew_trans (grew_alloc hg _) hx; have hc := (bcell hg).1))
  go_ret
  exact ⟨rfl, hg⟩

set_option maxHeartbeats 1000000 in
theorem nil26 (pa : Option Addr) (w : World) (hN : NoneY w pa) : Calls Try.prog 26 #[.pointer pa] w fun e w' => e = .returned (.int .i64 0) ∧ Grew w w' := by
  have HN := hid (fun (y : World) (hy : Grew w y) => show Calls Try.prog 56 #[.pointer pa] y fun e w' => e = .returned (.bool true) ∧ Grew y w' from hN y hy)
  have hg := grew_refl w
  clear hN
  go_enter Try.func26, Try.ntmps26
  go_wp2_with (first
    | (go_at_call 59; with_reducible refine (isThread_any _ _ _).mono ?_; rintro e w1 ⟨q1, rfl, -, -, -, -, hx⟩; replace hg := grew_trans hg hx; have hc := (bcell hg).1)
    | (go_at_call 60; with_reducible refine (isSlot_any _ _ _).mono ?_; rintro e w2 ⟨q2, rfl, -, -, -, hx⟩; replace hg := grew_trans hg hx; have hc := (bcell hg).1)
    | (go_at_call 58; with_reducible refine (isNode_any _ _ _).mono ?_; rintro e w3 ⟨q3, rfl, -, -, -, hx⟩; replace hg := grew_trans hg hx; have hc := (bcell hg).1)
    | (go_at_call 56; with_reducible refine (HN.out _ hg).mono ?_; rintro e w4 ⟨rfl, hx⟩; replace hg := grew_trans hg hx; have hc := (bcell hg).1)
    | (go_at_call 49; with_reducible refine (asked_none _ _ _ (fun y hy => HN.out y (grew_trans (grew_alloc hg _) hy))).mono ?_; rintro e w5 ⟨rfl, hx⟩; replace hg := grew_trans (grew_alloc hg _) hx; have hc := (bcell hg).1)
    | (go_at_call 62; with_reducible refine (nil62 pa _ _ (NoneY.of (fun y hy => HN.out y (grew_trans hg hy)))).mono ?_; rintro e w6 ⟨rfl, hx⟩; replace hg := grew_trans hg hx; have hc := (bcell hg).1))
  go_ret
  exact ⟨rfl, hg⟩

set_option maxHeartbeats 1000000 in
theorem nil29 (pa : Option Addr) (w : World) (hN : NoneY w pa) : Calls Try.prog 29 #[.pointer pa] w fun e w' => e = .returned (.int .i64 0) ∧ Grew w w' := by
  have HN := hid (fun (y : World) (hy : Grew w y) => show Calls Try.prog 56 #[.pointer pa] y fun e w' => e = .returned (.bool true) ∧ Grew y w' from hN y hy)
  have hg := grew_refl w
  clear hN
  go_enter Try.func29, Try.ntmps29
  go_wp2_with (first
    | (go_at_call 59; with_reducible refine (isThread_any _ _ _).mono ?_; rintro e w1 ⟨q1, rfl, -, -, -, -, hx⟩; replace hg := grew_trans hg hx; have hc := (bcell hg).1)
    | (go_at_call 60; with_reducible refine (isSlot_any _ _ _).mono ?_; rintro e w2 ⟨q2, rfl, -, -, -, hx⟩; replace hg := grew_trans hg hx; have hc := (bcell hg).1)
    | (go_at_call 58; with_reducible refine (isNode_any _ _ _).mono ?_; rintro e w3 ⟨q3, rfl, -, -, -, hx⟩; replace hg := grew_trans hg hx; have hc := (bcell hg).1)
    | (go_at_call 56; with_reducible refine (HN.out _ hg).mono ?_; rintro e w4 ⟨rfl, hx⟩; replace hg := grew_trans hg hx; have hc := (bcell hg).1)
    | (go_at_call 49; with_reducible refine (asked_none _ _ _ (fun y hy => HN.out y (grew_trans (grew_alloc hg _) hy))).mono ?_; rintro e w5 ⟨rfl, hx⟩; replace hg := grew_trans (grew_alloc hg _) hx; have hc := (bcell hg).1)
    | (go_at_call 62; with_reducible refine (nil62 pa _ _ (NoneY.of (fun y hy => HN.out y (grew_trans hg hy)))).mono ?_; rintro e w6 ⟨rfl, hx⟩; replace hg := grew_trans hg hx; have hc := (bcell hg).1))
  go_ret
  exact ⟨rfl, hg⟩

set_option maxHeartbeats 1000000 in
theorem nil19 (pa : Option Addr) (w : World) (hN : NoneY w pa) : Calls Try.prog 19 #[.pointer pa] w fun e w' => e = .returned (.slice none 0 0) ∧ Grew w w' := by
  have HN := hid (fun (y : World) (hy : Grew w y) => show Calls Try.prog 56 #[.pointer pa] y fun e w' => e = .returned (.bool true) ∧ Grew y w' from hN y hy)
  have hg := grew_refl w
  clear hN
  go_enter Try.func19, Try.ntmps19
  go_wp2_with (first
    | (go_at_call 59; with_reducible refine (isThread_any _ _ _).mono ?_; rintro e w1 ⟨q1, rfl, -, -, -, -, hx⟩; replace hg := grew_trans hg hx; have hc := (bcell hg).1)
    | (go_at_call 60; with_reducible refine (isSlot_any _ _ _).mono ?_; rintro e w2 ⟨q2, rfl, -, -, -, hx⟩; replace hg := grew_trans hg hx; have hc := (bcell hg).1)
    | (go_at_call 58; with_reducible refine (isNode_any _ _ _).mono ?_; rintro e w3 ⟨q3, rfl, -, -, -, hx⟩; replace hg := grew_trans hg hx; have hc := (bcell hg).1)
    | (go_at_call 56; with_reducible refine (HN.out _ hg).mono ?_; rintro e w4 ⟨rfl, hx⟩; replace hg := grew_trans hg hx; have hc := (bcell hg).1)
    | (go_at_call 49; with_reducible refine (asked_none _ _ _ (fun y hy => HN.out y (grew_trans (grew_alloc hg _) hy))).mono ?_; rintro e w5 ⟨rfl, hx⟩; replace hg := grew_trans (grew_alloc hg _) hx; have hc := (bcell hg).1))
  go_ret
  exact ⟨rfl, hg⟩

set_option maxHeartbeats 1000000 in
theorem nil46 (pa : Option Addr) (w : World) (hN : NoneY w pa) : Calls Try.prog 46 #[.pointer pa] w fun e w' => e = .returned (.pointer none) ∧ Grew w w' := by
  have HN := hid (fun (y : World) (hy : Grew w y) => show Calls Try.prog 56 #[.pointer pa] y fun e w' => e = .returned (.bool true) ∧ Grew y w' from hN y hy)
  have hg := grew_refl w
  clear hN
  go_enter Try.func46, Try.ntmps46
  go_wp2_with (first
    | (go_at_call 59; with_reducible refine (isThread_any _ _ _).mono ?_; rintro e w1 ⟨q1, rfl, -, -, -, -, hx⟩; replace hg := grew_trans hg hx; have hc := (bcell hg).1)
    | (go_at_call 60; with_reducible refine (isSlot_any _ _ _).mono ?_; rintro e w2 ⟨q2, rfl, -, -, -, hx⟩; replace hg := grew_trans hg hx; have hc := (bcell hg).1)
    | (go_at_call 58; with_reducible refine (isNode_any _ _ _).mono ?_; rintro e w3 ⟨q3, rfl, -, -, -, hx⟩; replace hg := grew_trans hg hx; have hc := (bcell hg).1)
    | (go_at_call 56; with_reducible refine (HN.out _ hg).mono ?_; rintro e w4 ⟨rfl, hx⟩; replace hg := grew_trans hg hx; have hc := (bcell hg).1)
    | (go_at_call 49; with_reducible refine (asked_none _ _ _ (fun y hy => HN.out y (grew_trans (grew_alloc hg _) hy))).mono ?_; rintro e w5 ⟨rfl, hx⟩; replace hg := grew_trans (grew_alloc hg _) hx; have hc := (bcell hg).1))
  go_ret
  exact ⟨rfl, hg⟩

set_option maxHeartbeats 1000000 in
theorem nil18 (pa : Option Addr) (d a b c : Int) (w : World) (hN : NoneY w pa) : Calls Try.prog 18 #[.pointer pa, .agg #[.int .i64 d, .int .i64 a, .int .i64 b, .int .i64 c]] w fun e w' => e = .returned (.tuple #[.int .i64 0, .int .i64 60]) ∧ Grew w w' := by
  obtain ⟨W0, hW0, g0, k0, k1, k2, k3, hz⟩ := box4 w (.int .i64 d) (.int .i64 a) (.int .i64 b) (.int .i64 c) 32
  have HN := hid (fun (y : World) (hy : Grew W0 y) => show Calls Try.prog 56 #[.pointer pa] y fun e w' => e = .returned (.bool true) ∧ Grew y w' from hN y (grew_trans g0 hy))
  have hg := grew_refl W0
  clear hN
  go_enter Try.func18, Try.ntmps18
  go_wp2_with (go_at_call 49; with_reducible refine (asked_none _ _ _ (fun y hy => HN.out y (grew_trans (grew_alloc hg _) hy))).mono ?_; rintro e w5 ⟨rfl, hx⟩; replace hg := grew_trans (grew_alloc hg _) hx; have hc := (bcell hg).1)
  go_ret2
  exact ⟨rfl, grew_trans g0 hg⟩

set_option maxHeartbeats 1000000 in
theorem nil45 (pa pb : Option Addr) (w : World) (hN : NoneY w pa) (hM : NoneY w pb) : Calls Try.prog 45 #[.pointer pa, .pointer pb] w fun e w' => e = .returned (.bool true) ∧ Grew w w' := by
  have HN := hid (fun (y : World) (hy : Grew w y) => show Calls Try.prog 56 #[.pointer pa] y fun e w' => e = .returned (.bool true) ∧ Grew y w' from hN y hy)
  have HM := hid (fun (y : World) (hy : Grew w y) => show Calls Try.prog 56 #[.pointer pb] y fun e w' => e = .returned (.bool true) ∧ Grew y w' from hM y hy)
  have hg := grew_refl w
  clear hN hM
  go_enter Try.func45, Try.ntmps45
  go_wp2_with (first
    | (go_at_call 56; with_reducible refine (HN.out _ hg).mono ?_; rintro e w4 ⟨rfl, hx⟩; replace hg := grew_trans hg hx; have hc := (bcell hg).1)
    | (go_at_call 56; with_reducible refine (HM.out _ hg).mono ?_; rintro e w4 ⟨rfl, hx⟩; replace hg := grew_trans hg hx; have hc := (bcell hg).1))
  go_ret
  exact ⟨rfl, hg⟩

set_option maxHeartbeats 1000000 in
theorem nil45l (pa : Option Addr) (b : Nat) (w : World) (hN : NoneY w pa) (hM : ∀ y, Grew w y → Calls Try.prog 56 #[.pointer (some ⟨b, 0, none⟩)] y fun e w' => e = .returned (.bool false) ∧ Grew y w') (_hne : pa ≠ some ⟨b, 0, none⟩) : Calls Try.prog 45 #[.pointer pa, .pointer (some ⟨b, 0, none⟩)] w fun e w' => e = .returned (.bool false) ∧ Grew w w' := by
  have HN := hid (fun (y : World) (hy : Grew w y) => show Calls Try.prog 56 #[.pointer pa] y fun e w' => e = .returned (.bool true) ∧ Grew y w' from hN y hy)
  have HM := hid hM
  have hg := grew_refl w
  clear hN hM
  go_enter Try.func45, Try.ntmps45
  go_wp2_with (first
    | (go_at_call 56; with_reducible refine (HN.out _ hg).mono ?_; rintro e w4 ⟨rfl, hx⟩; replace hg := grew_trans hg hx; have hc := (bcell hg).1)
    | (go_at_call 56; with_reducible refine (HM.out _ hg).mono ?_; rintro e w4 ⟨rfl, hx⟩; replace hg := grew_trans hg hx; have hc := (bcell hg).1))
  go_ret
  exact ⟨rfl, hg⟩

set_option maxHeartbeats 1000000 in
theorem nil45r (pa : Option Addr) (b : Nat) (w : World) (hN : NoneY w pa) (hM : ∀ y, Grew w y → Calls Try.prog 56 #[.pointer (some ⟨b, 0, none⟩)] y fun e w' => e = .returned (.bool false) ∧ Grew y w') (_hne : pa ≠ some ⟨b, 0, none⟩) : Calls Try.prog 45 #[.pointer (some ⟨b, 0, none⟩), .pointer pa] w fun e w' => e = .returned (.bool false) ∧ Grew w w' := by
  have HN := hid (fun (y : World) (hy : Grew w y) => show Calls Try.prog 56 #[.pointer pa] y fun e w' => e = .returned (.bool true) ∧ Grew y w' from hN y hy)
  have HM := hid hM
  have hg := grew_refl w
  clear hN hM
  go_enter Try.func45, Try.ntmps45
  go_wp2_with (first
    | (go_at_call 56; with_reducible refine (HM.out _ hg).mono ?_; rintro e w4 ⟨rfl, hx⟩; replace hg := grew_trans hg hx; have hc := (bcell hg).1)
    | (go_at_call 56; with_reducible refine (HN.out _ hg).mono ?_; rintro e w4 ⟨rfl, hx⟩; replace hg := grew_trans hg hx; have hc := (bcell hg).1))
  go_ret
  exact ⟨rfl, hg⟩

end Go.Proofs.Ytcifpigjcfkhmaa
