/- Walk of the reference: exchanged (83); slices.Clone of a word. -/
import Derived.Test.YtddnpooffcjhnaaWvExchR
import Derived.Test.YtddnpooffcjhnaaWvClone
namespace Go.Proofs.Ytddnpooffcjhnaa
open Go.RowKit Go.Lin Go.Lin.Wv

theorem range_nth (x : List Int) (n : Nat) (hn : x.length = n) : (List.range n).map (fun i => Value.int .i64 (nth x i)) = x.map (.int .i64) := by
  subst hn
  apply List.ext_getElem?
  intro i
  by_cases h : i < x.length
  · simp [nth_lt h, h]
  · simp [h]

theorem clone_ints (v : Value) (n : Nat) (x : List Int) (w : World) (hn : x.length = n) (hl : n ≤ 1000000) (hv : IsInts Any w v x) :
    Calls Try.prog 80 #[v] w fun e w' => ∃ u, e = .returned u ∧ Seg w' w.heap.size 3 1 u n (x.map (.int .i64)) ∧ Grew w w' := by
  have := clone_any v n (fun i => .int .i64 (nth x i)) w hl (by rw [← hn]; exact hv) (fun _ => rfl)
  rw [range_nth x n hn] at this
  exact this

set_option maxHeartbeats 4000000 in
set_option maxRecDepth 20000 in
theorem exchanged83_any (wv : Value) (x : List Int) (n k : Nat) (w : World) (hn : x.length = n) (hlen : n ≤ 100000) (hk : k + 1 < n) (hx : IsInts Any w wv x) :
    Calls Try.prog 83 #[wv, .int .i64 (k : Int)] w fun e w' => ∃ u, e = .returned u ∧ Seg w' w.heap.size 3 1 u n ((swapM x k).map (.int .i64)) ∧ Grew w w' := by
  have hsrc := src_ints (hx.grew (grew_alloc (grew_refl w) (.cells #[] 3)))
  obtain ⟨va, vc, rfl, hm, hc⟩ := hx
  rw [hn] at hm hc hsrc ⊢
  obtain ⟨b, off, o, hva, hob, -, c0⟩ := hc k (by omega)
  subst hva
  obtain ⟨b', off', o', hva', -, -, c1⟩ := hc (k + 1) hk
  simp only [Option.some.injEq, Addr.mk.injEq, and_true] at hva'
  obtain ⟨rfl, rfl⟩ := hva'
  have hbl := lt_of_obj hob
  obtain ⟨a0, ha0⟩ : ∃ a, nth x k = a := ⟨_, rfl⟩
  obtain ⟨a1, ha1⟩ : ∃ a, nth x (k + 1) = a := ⟨_, rfl⟩
  simp only [ha0] at c0
  simp only [ha1] at c1
  obtain ⟨i0, hi, hz0, hz1, hz2⟩ := info_parts Try.info3
  have hseg : Seg (w.alloc (.cells #[] 3)) w.heap.size 3 1 (.slice (some ⟨w.heap.size, 0, none⟩) 0 0) 0 [] :=
    ⟨by simp, .inr ⟨w.heap.size, 0, 0, #[], rfl, Nat.le_refl _, heap_alloc_new w _, Nat.le_refl _, by unfold maxLen; omega, by simp, by simp⟩⟩
  have HSRC := hid hsrc; have HSEG := hid hseg; have HN := hid hn; have HA0 := hid ha0; have HA1 := hid ha1
  have hwr2 : IntKind.i64.wrap ((k : Int) + 1) = (k : Int) + 1 := IntWalk.i64_in _ (by omega)
  have htn : ((k : Int) + 1).toNat = k + 1 := by omega
  have hp0 : (0 : Int) ≤ (k : Int) + 1 := by omega
  have hkl : (k : Int) + 1 < (n : Int) := by omega
  have hkl0 : (k : Int) < (n : Int) := by omega
  clear hsrc hseg hc hob hn ha0 ha1
  go_enter Try.func83, Try.ntmps83
  go_wp2_with (at_builtin; refine wpList_append_seg rfl _ _ 25 25 rfl w.heap.size 3 i0 (.int .i64 0) 1 8 Try.underlying25 hi hz0 hz1 hz2 rfl _ 0 [] rfl HSEG.out _ rfl n _ HSRC.out (by unfold maxLen; omega) (by omega) ?_ ?_; simp; go_loud (
    intro v1 w1 hown1 hgrow1 hblk1
    have hg : Grew w w1 := ((grew_refl w).alloc (Nat.le_refl _) _).grown hgrow1 (by simp) (fun k e => by cases e; exact Nat.le_refl _)
    have HG := hid hg
    replace hown1 : Seg w1 w.heap.size 3 1 v1 n (x.map (.int .i64)) := by simpa using hown1
    obtain ⟨g, of, cap, cur, hv, hbg, hgc, -⟩ := hown1.cell k (by omega)
    have hk1 : k + 1 < x.length := by rw [HN.out]; exact hk
    have hsw := fun (m : Nat) => seg_swap (w := w1.drewN m) (by rw [HN.out]; exact hown1.drewN m) (by rw [HN.out]; exact hv) hk1
    rw [HN.out, HA0.out, HA1.out] at hsw
    have HSW := hid hsw
    have hz3 : w1.frozen? ⟨g, of + k, none⟩ = false := frozen_of_row _ _ _ _ _ hgc
    have hz4 : w1.frozen? ⟨g, of + (k + 1), none⟩ = false := frozen_of_row _ _ _ _ _ hgc
    have e0 := (hg.cell (p := ⟨b, off + k, none⟩) hbl).trans c0
    have e1 := (hg.cell (p := ⟨b, off + (k + 1), none⟩) hbl).trans c1
    have hbl1 := Nat.lt_of_lt_of_le hbl hg.size
    have hgl := lt_of_obj hgc
    have hs := Seg.cell hown1 k (by omega)
    have hs1 := Seg.cell hown1 (k + 1) (by omega)
    obtain ⟨g1, o1, cp1, cr1, hv1, -, -, f0⟩ := hs
    obtain ⟨g2, o2, cp2, cr2, hv2, -, -, f1⟩ := hs1
    rw [hv] at hv1 hv2
    simp only [Value.slice.injEq, Option.some.injEq, Addr.mk.injEq, and_true] at hv1 hv2
    obtain ⟨⟨rfl, rfl⟩, -, rfl⟩ := hv1
    obtain ⟨⟨rfl, rfl⟩, -, rfl⟩ := hv2
    have hk0 : k < x.length := by omega
    rw [List.getElem?_map, List.getElem?_eq_getElem hk0, Option.map_some, ← nth_lt hk0, HA0.out] at f0
    rw [List.getElem?_map, List.getElem?_eq_getElem hk1, Option.map_some, ← nth_lt hk1, HA1.out] at f1
    have HBG := hid hbg
    subst hv
    clear hg hown1 hgrow1 hblk1 hbg hgc hsw hk1 hk0))
  go_region_law (fail)
  all_goals (
    go_wp2
    go_ret
    exact ⟨_, rfl, by first | exact HSW.out _ | exact HSW.out 1 | exact HSW.out 0, HG.out.trans (((((Keeps.refl (fun q _ => q = g) w1).drewN _).trans (keeps_setB _ g _ _)).trans (keeps_setB _ g _ _)).below HG.out.size (fun q o e => by rw [e]; exact HBG.out))⟩)

end Go.Proofs.Ytddnpooffcjhnaa
