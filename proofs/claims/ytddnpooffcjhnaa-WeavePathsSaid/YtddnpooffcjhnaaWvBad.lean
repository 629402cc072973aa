/- Walk: the closure of newLoom that asks whether a number is no letter. -/
import Derived.Test.YtddnpooffcjhnaaWvWout
namespace Go.Proofs.Ytddnpooffcjhnaa
open Go.RowKit Go.Lin Go.Lin.Wv

set_option maxHeartbeats 1000000 in
theorem bad_any {D : Int → Int → Bool} (B N c : Nat) (a : Int) (w : World) (hN : N ≤ 6) (hL : Loom w B D N) (hc : w.cell? ⟨c, 0, none⟩ = some (.pointer (some ⟨B, 0, none⟩))) :
    Calls Try.prog 96 #[.int .i64 a, .pointer (some ⟨c, 0, none⟩)] w fun e w' => e = .returned (.bool (!(decide (0 ≤ a) && decide (a ≤ (N : Int) - 1)))) ∧ Grew w w' := by
  have HB := hid (letter_any B N a w hN hL)
  obtain ⟨r, hr⟩ : ∃ r, (decide (0 ≤ a) && decide (a ≤ (N : Int) - 1)) = r := ⟨_, rfl⟩
  rw [hr] at HB ⊢
  cases r
  all_goals (
    go_enter Try.func96, Try.ntmps96
    go_wp2_with (go_at_call 78; (with_reducible refine HB.out.mono ?_); rintro e w1 ⟨rfl, hx⟩; have HX := hid hx; clear hx)
    go_ret
    exact ⟨rfl, HX.out⟩)

end Go.Proofs.Ytddnpooffcjhnaa
