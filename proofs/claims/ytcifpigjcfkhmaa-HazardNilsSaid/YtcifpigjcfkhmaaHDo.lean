/- Walks: what a deed's fields are asked. -/
import Derived.Test.YtcifpigjcfkhmaaHSweep4
namespace Go.Proofs.Ytcifpigjcfkhmaa
open Go.RowKit Go.Lin Go.Lin.Hz

set_option maxHeartbeats 400000 in
theorem do1_any (B : Nat) (d : Int) (w : World) (hlt : B < w.heap.size) (h : w.cell? ⟨B, 0, none⟩ = some (.int .i64 d)) : Says0 50 #[.pointer (some ⟨B, 0, none⟩)] (decide (1 ≤ d) && decide (d ≤ 6)) w := by
  intro w' hg
  have hcell := (hg.cell (p := ⟨B, 0, none⟩) hlt).trans h
  clear hg h
  have hg := grew_refl w'
  go_enter Try.func50, Try.ntmps50
  go_wp2_with (go_at_call 51; with_reducible refine (between_any _ _ _ _).mono ?_; rintro e w1 ⟨rfl, hx⟩; replace hg := grew_trans hg hx; have hc := (bcell hg).1)
  go_ret
  exact ⟨rfl, hg⟩

set_option maxHeartbeats 400000 in
theorem rest_any (n : Int) (w : World) : Calls Try.prog 55 #[.int .i64 n] w fun e w' => e = .returned (.bool (n != 0)) ∧ Grew w w' := by
  go_enter Try.func55, Try.ntmps55
  go_wp2
  go_ret
  exact ⟨rfl, grew_refl _⟩

/-- How many fields of a deed are named. -/
def fieldsN (d : Int) : Int := if d = 1 ∨ d = 5 then 1 else if d = 2 then 3 else 2

set_option maxHeartbeats 1000000 in
set_option maxRecDepth 20000 in
theorem fields_any (d a b c : Int) (w : World) (h1 : 1 ≤ d) (h6 : d ≤ 6) : Calls Try.prog 54 #[.agg #[.int .i64 d, .int .i64 a, .int .i64 b, .int .i64 c]] w fun e w' => e = .returned (.int .i64 (fieldsN d)) ∧ Grew w w' := by
  obtain rfl | rfl | rfl | rfl | rfl | rfl : d = 1 ∨ d = 2 ∨ d = 3 ∨ d = 4 ∨ d = 5 ∨ d = 6 := by omega
  all_goals
    have hix : ∀ (d : Int) (w : World), 1 ≤ d → d ≤ 6 → (Instr.index 94 (.agg #[.int .i64 0, .int .i64 1, .int .i64 3, .int .i64 2, .int .i64 2, .int .i64 1, .int .i64 2]) (.int .i64 d)).run Try.prog w = .ok (.int .i64 (fieldsN d)) w := by
      intro d w h1 h6
      obtain rfl | rfl | rfl | rfl | rfl | rfl : d = 1 ∨ d = 2 ∨ d = 3 ∨ d = 4 ∨ d = 5 ∨ d = 6 := by omega
      all_goals kernel_rfl
    go_enter Try.func54, Try.ntmps54
    go_wp2
    go_ret
    exact ⟨rfl, grew_alloc (grew_refl _) _⟩

end Go.Proofs.Ytcifpigjcfkhmaa
