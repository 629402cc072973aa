/- Walk: slices.Grow of a nil slice. -/
import Derived.Test.YtddnpooffcjhnaaWvClone
import Derived.Lib.AppendZerosOnto
namespace Go.Proofs.Ytddnpooffcjhnaa
open Go.RowKit Go.Lin Go.Lin.Wv

set_option maxHeartbeats 1000000 in
set_option maxRecDepth 100000 in
theorem grow_nil (n : Nat) (w : World) (hn : n ≤ 1000) :
    Calls Try.prog 102 #[.slice none 0 0, .int .i64 (n : Int)] w fun e w' => ∃ u, e = .returned u ∧ Seg w' w.heap.size 3 1 u 0 [] ∧ Grew w w' := by
  rcases Nat.eq_zero_or_pos n with h0 | h0
  · subst h0
    go_enter Try.func102, Try.ntmps102
    go_wp2
    go_ret
    exact ⟨_, rfl, Seg.nil _ _ _ _, grew_refl _⟩
  · obtain ⟨i0, hi, hz0, hz1, hz2⟩ := info_parts Try.info3
    have hrz : ∀ ty, (Builtin.append_ #[25, 3] ty #[.slice none 0 0, .int .i64 (n : Int)]).run Try.prog w =
        .ok (.slice (some ⟨w.heap.size, 0, none⟩) n (grownCap w n 0 3)) (w.drew.alloc (.cells (#[] ++ Builtin.zeroCells (Value.int .i64 0).cells n ++ Builtin.zeroCells (Value.int .i64 0).cells (grownCap w n 0 3 - n)) 3)) := fun ty => by
      have h := Lib.run_append_grow_zeros w 25 3 ty 3 i0 (.int .i64 0) .i64 .i64 Try.underlying25 Try.underlying3 hi hz0 none 0 0 [] (run_firstCells_none w.drew i0.size 0 0 0) n h0 (by omega) (by omega) (by omega) (by rw [hz2]; omega)
        (by rw [hz2]; exact growslice_fits (by omega) (by omega))
      simpa using h
    have hG1 : n ≤ grownCap w n 0 3 := grownCap_ge w _ _ _
    have hG2 : grownCap w n 0 3 ≤ maxLen := grownCap_le_maxLen w n 0 3 (by unfold maxLen; omega)
    obtain ⟨G, hG⟩ : ∃ G, grownCap w n 0 3 = G := ⟨_, rfl⟩
    rw [hG] at hrz hG1 hG2
    have hG3 : G ≤ 9223372036854775807 := by unfold maxLen at hG2; omega
    have HG2 := hid hG2
    obtain ⟨C, hC⟩ : ∃ C, (#[] ++ Builtin.zeroCells (Value.int .i64 0).cells n ++ Builtin.zeroCells (Value.int .i64 0).cells (G - n)) = C := ⟨_, rfl⟩
    have hCs : C.size = G := by rw [← hC]; simp [Builtin.zeroCells, Value.cells]; omega
    rw [hC] at hrz
    have HCS := hid hCs
    clear hG hC hCs hG2 hz1 hz2
    go_enter Try.func102, Try.ntmps102
    go_wp2_with (at_builtin; refine Lib.wpList_append_run _ rfl _ _ _ _ rfl _ _ rfl rfl _ _ (hrz _) ?_)
    go_ret
    refine ⟨_, rfl, ⟨by simp, .inr ⟨w.heap.size, 0, G, C, rfl, Nat.le_refl _, ?_, Nat.zero_le _, HG2.out, by rw [HCS.out]; omega, by simp⟩⟩, ?_⟩
    · exact heap_alloc_new w.drew _
    · exact grew_alloc (grew_drew (grew_refl w)) _

end Go.Proofs.Ytddnpooffcjhnaa
