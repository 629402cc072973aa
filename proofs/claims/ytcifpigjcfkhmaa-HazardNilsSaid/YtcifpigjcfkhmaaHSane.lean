/- Walks: Sane; the law HazardPlays. -/
import Derived.Test.YtcifpigjcfkhmaaHOpens
namespace Go.Proofs.Ytcifpigjcfkhmaa
open Go.RowKit Go.Lin Go.Lin.Hz

def saneL : List Dd := [⟨1, 0, 0, 0⟩, ⟨1, 0, 0, 0⟩, ⟨4, 0, 0, 0⟩, ⟨4, 0, 1, 0⟩]
theorem saneL_play : playL (new 2 2) saneL = [0, 1, 0, 2] := by decide

theorem lit_ints4 (w : World) : IsInts Any (w.alloc (.cells #[.int .i64 0, .int .i64 1, .int .i64 0, .int .i64 2] 3)) (.slice (some ⟨w.heap.size, 0, none⟩) 4 4) [0, 1, 0, 2] :=
  ⟨_, _, rfl, by simp, fun i hi => ⟨_, 0, _, rfl, Array.getElem?_eq_getElem (by simp), trivial, by
    obtain rfl | rfl | rfl | rfl : i = 0 ∨ i = 1 ∨ i = 2 ∨ i = 3 := by simp at hi; omega
    all_goals simp [nth]⟩⟩

set_option maxHeartbeats 2000000 in
set_option maxRecDepth 20000 in
theorem sane_any (w : World) : Calls Try.prog 12 #[] w fun e w' => e = .returned (.bool true) ∧ Grew w w' := by
  obtain ⟨W1, hW1⟩ : ∃ W1, w.alloc (.cells #[.int .i64 1, .int .i64 0, .int .i64 0, .int .i64 0, .int .i64 1, .int .i64 0, .int .i64 0, .int .i64 0, .int .i64 4, .int .i64 0, .int .i64 0, .int .i64 0, .int .i64 4, .int .i64 0, .int .i64 1, .int .i64 0] 32) = W1 := ⟨_, rfl⟩
  have g1 : Grew w W1 := by rw [← hW1]; exact grew_alloc (grew_refl _) _
  have hds : IsDeeds W1 (.slice (some ⟨w.heap.size, 0, none⟩) 4 4) saneL := by
    refine ⟨_, _, rfl, by simp [saneL], fun i x hx => ⟨_, 0, rfl, ?_⟩⟩
    have hi : i = 0 ∨ i = 1 ∨ i = 2 ∨ i = 3 := by have := (List.getElem?_eq_some_iff.1 hx).1; simp [saneL] at this; omega
    rw [← hW1]
    rcases hi with rfl | rfl | rfl | rfl
    all_goals
      simp [saneL] at hx
      subst hx
      exact ⟨by simp, by simp, by simp, by simp, by simp⟩
  have HP := hid (play_ok 2 2 _ saneL W1 hds (by decide) (by decide))
  rw [saneL_play] at HP
  have hg := g1
  clear hds
  go_enter Try.func12, Try.ntmps12
  go_wp2_with (first
    | (go_at_call 13; with_reducible refine HP.out.mono ?_; rintro e w2 ⟨u, rfl, hu, hx⟩; have HU := hid hu; clear hu; replace hg := grew_trans hg hx)
    | (go_at_call 34; (with_reducible refine (sameInts_any _ _ [0, 1, 0, 2] [0, 1, 0, 2] _ (HU.out.grew (grew_alloc (grew_refl _) _)) (lit_ints4 _)).mono ?_); rintro e w3 ⟨rfl, hx⟩; replace hg := grew_trans (grew_alloc hg _) hx))
  go_ret
  exact ⟨rfl, hg⟩

end Go.Proofs.Ytcifpigjcfkhmaa
