/- Walks: slices.Clone. -/
import Derived.Test.YtddnpooffcjhnaaWvLoom
namespace Go.Proofs.Ytddnpooffcjhnaa
open Go.RowKit Go.Lin Go.Lin.Wv

set_option maxHeartbeats 1000000 in
theorem clone_any (v : Value) (n : Nat) (f : Nat → Value) (w : World) (hn : n ≤ 1000000) (hv : Reads Any w v n f) (h1 : ∀ i, (f i).oneCell' = true) :
    Calls Try.prog 80 #[v] w fun e w' => ∃ u, e = .returned u ∧ Seg w' w.heap.size 3 1 u n ((List.range n).map f) ∧ Grew w w' := by
  obtain ⟨a, cap, rfl, hm, hc⟩ := hv
  have HC := hid hc; clear hc
  rcases a with _ | ad
  · have h0 : n = 0 := by
      rcases Nat.eq_zero_or_pos n with h | h
      · exact h
      · obtain ⟨_, _, _, h2, _⟩ := HC.out 0 h; cases h2
    subst h0
    have hnil := fun w => Lib.run_eql_slice_nil (P := Try.prog) w 25 3 none 0 cap 0 0 Try.underlying25
    go_enter Try.func80, Try.ntmps80
    go_wp2
    go_ret
    exact ⟨.slice none 0 0, rfl, Seg.nil _ _ _ _, grew_refl _⟩
  · have hnil := fun w => Lib.run_eql_slice_nil (P := Try.prog) w 25 3 (some ad) n cap 0 0 Try.underlying25
    obtain ⟨i0, hi, hz0, hz1, hz2⟩ := info_parts Try.info3
    have hsrc : Src Try.prog 1 25 (.slice (some ad) n cap) n ((List.range n).map f) (w.alloc (.cells #[] 3)) := by
      refine Src.ofSlice _ Try.underlying25 ad n cap _ (by simp) ?_ ?_
      · intro j u hj
        have hjn : j < n := by have := (List.getElem?_eq_some_iff.1 hj).1; simpa using this
        simp only [List.getElem?_map, List.getElem?_range hjn, Option.map_some, Option.some.injEq] at hj
        obtain ⟨b, off, o, h2, h3, _, h5⟩ := HC.out j hjn
        cases h2
        rw [Addr.add_lit, World.cell?_alloc_lt (a := ⟨b, off + j, none⟩) _ _ (lt_of_obj h3), h5, hj]
      · intro u hu
        obtain ⟨i, _, rfl⟩ := List.mem_map.1 hu
        exact h1 i
    have hseg : Seg (w.alloc (.cells #[] 3)) w.heap.size 3 1 (.slice (some ⟨w.heap.size, 0, none⟩) 0 0) 0 [] :=
      ⟨by simp, .inr ⟨w.heap.size, 0, 0, #[], rfl, Nat.le_refl _, heap_alloc_new w _, Nat.le_refl _, by unfold maxLen; omega, by simp, by simp⟩⟩
    have HSRC := hid hsrc; clear hsrc
    have HSEG := hid hseg; clear hseg
    clear HC
    go_enter Try.func80, Try.ntmps80
    go_wp2_with (at_builtin; refine wpList_append_seg rfl _ _ 25 25 rfl w.heap.size 3 i0 (.int .i64 0) 1 8 Try.underlying25 hi hz0 hz1 hz2 rfl _ 0 [] rfl HSEG.out _ rfl n _ HSRC.out (by unfold maxLen; omega) (by omega) ?_ ?_; simp; intro v1 w1 hown1 hgrow1 hblk1)
    go_ret
    have hg : Grew w w1 := ((grew_refl w).alloc (Nat.le_refl _) _).grown hgrow1 (by simp) (fun k e => by cases e; exact Nat.le_refl _)
    exact ⟨v1, rfl, by simpa using hown1, hg⟩
end Go.Proofs.Ytddnpooffcjhnaa
