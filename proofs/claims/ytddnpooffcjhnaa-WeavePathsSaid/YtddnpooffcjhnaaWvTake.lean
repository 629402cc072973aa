/- Walks: without, of the reference. -/
import Derived.Test.YtddnpooffcjhnaaWvForm
import Derived.Test.YtddnpooffcjhnaaWvSteps
import Derived.Deep.RegionLaw
namespace Go.Proofs.Ytddnpooffcjhnaa
open Go.RowKit Go.Lin Go.Lin.Wv

/-- A list of ints as what is appended. -/
theorem src_ints {w : World} {v : Value} {xs : List Int} (h : IsInts Any w v xs) : Src Try.prog 1 25 v xs.length (xs.map (.int .i64)) w := by
  obtain ⟨a, cap, rfl, hm, hc⟩ := h
  rcases a with _ | ad
  · have h0 : xs.length = 0 := by
      rcases Nat.eq_zero_or_pos xs.length with h | h
      · exact h
      · obtain ⟨_, _, _, h2, _⟩ := hc 0 h; cases h2
    have : xs = [] := List.length_eq_zero_iff.1 h0
    subst this
    exact Src.ofNil _ Try.underlying25 cap
  · refine Src.ofSlice _ Try.underlying25 ad _ cap _ (by simp) ?_ ?_
    · intro j u hj
      have hjn : j < xs.length := by have := (List.getElem?_eq_some_iff.1 hj).1; simpa using this
      simp only [List.getElem?_map, List.getElem?_eq_getElem hjn, Option.map_some, Option.some.injEq] at hj
      obtain ⟨b, off, o, h2, h3, _, h5⟩ := hc j hjn
      cases h2
      rw [Addr.add_lit, h5, ← hj]
      simp only [nth_lt hjn]
    · intro u hu
      obtain ⟨i, _, rfl⟩ := List.mem_map.1 hu
      rfl

/-- A part of a list. -/
theorem part_ints {w : World} {b off cap n : Nat} {xs : List Int} (h : Reads Any w (.slice (some ⟨b, off, none⟩) n cap) n (fun i => .int .i64 (nth xs i))) (hn : xs.length = n) (j k c : Nat) (hjk : j + k ≤ n) : IsInts Any w (.slice (some ⟨b, off + j, none⟩) ((xs.drop j).take k).length c) ((xs.drop j).take k) := by
  obtain ⟨a, cap', hv, hm, hc⟩ := h
  have hl : ((xs.drop j).take k).length = k := by simp; omega
  refine ⟨_, _, rfl, by omega, fun i hi => ?_⟩
  obtain ⟨b', off', o', h1, h2, h3, h4⟩ := hc (j + i) (by omega)
  simp only [Value.slice.injEq] at hv
  obtain ⟨rfl, -⟩ := hv
  cases h1
  refine ⟨b, off + j, o', rfl, h2, h3, ?_⟩
  rw [Nat.add_assoc, h4]
  simp only [nth_lt (show j + i < xs.length by omega), nth_lt hi]
  simp

/-- A list of ints whose room is no less than its length. -/
def IsWd (w : World) (v : Value) (xs : List Int) : Prop := ∃ a cap, v = .slice a xs.length cap ∧ xs.length ≤ cap ∧ IsInts Any w v xs

theorem IsWd.grew {w w' : World} {v : Value} {xs : List Int} (h : IsWd w v xs) (hg : Grew w w') : IsWd w' v xs := let ⟨a, c, h1, h2, h3⟩ := h; ⟨a, c, h1, h2, Reads.grew h3 hg⟩
theorem IsWd.ints {w : World} {v : Value} {xs : List Int} (h : IsWd w v xs) : IsInts Any w v xs := let ⟨_, _, _, _, h3⟩ := h; h3
theorem IsWd.of_seg {w : World} {base : Nat} {v : Value} {n : Nat} {xs : List Int} (h : Seg w base 3 1 v n (xs.map (.int .i64))) : IsWd w v xs := by
  have hl : n = xs.length := by have := h.1; simp at this; omega
  have hi := isInts_any h
  rcases h.2 with ⟨rfl, h0⟩ | ⟨g, off, cap, cur, rfl, _, _, hn, _⟩
  · exact ⟨none, 0, by rw [← hl, h0], by omega, hi⟩
  · exact ⟨_, cap, by rw [hl], by omega, hi⟩

set_option maxHeartbeats 4000000 in
theorem rWithout_any (wv : Value) (x : List Int) (i : Nat) (w : World) (hi : i < x.length) (hs : x.length ≤ 1000000) (hx : IsWd w wv x) : Calls Try.prog 97 #[wv, .int .i64 (i : Int)] w fun e w' => ∃ u, e = .returned u ∧ Seg w' w.heap.size 3 1 u (x.eraseIdx i).length ((x.eraseIdx i).map (.int .i64)) ∧ Grew w w' := by
  obtain ⟨va, vc, rfl, hcap, va0, vc0, hveq, hm, hc⟩ := hx
  obtain ⟨rfl, rfl⟩ : va = va0 ∧ vc = vc0 := by simp at hveq; exact ⟨hveq.1, hveq.2⟩
  clear hveq
  obtain ⟨m, hmm⟩ : ∃ m, x.length = m := ⟨_, rfl⟩
  rw [hmm] at hm hc hi hs hcap ⊢
  obtain ⟨b, off, o, hva, hob, -, -⟩ := hc 0 (by omega)
  subst hva
  have hR : Reads Any w (.slice (some ⟨b, off, none⟩) m vc) m (fun i => .int .i64 (nth x i)) := ⟨_, _, rfl, hm, hc⟩
  obtain ⟨i0, hi0, hi1, hi2, hi3⟩ := info_parts Try.info3
  have hl1 : ((x.drop 0).take i).length = i := by simp; omega
  have hl2 : ((x.drop (i + 1)).take (m - (i + 1))).length = m - (i + 1) := by simp; omega
  have hsrc1 := fun (y : World) (hy : Grew w y) (c : Nat) => src_ints (part_ints (Reads.grew hR hy) hmm 0 i c (by omega))
  have hsrc2 := fun (y : World) (hy : Grew w y) (c : Nat) => src_ints (part_ints (Reads.grew hR hy) hmm (i + 1) (m - (i + 1)) c (by omega))
  rw [hl1] at hsrc1
  rw [hl2] at hsrc2
  have hseg0 : Seg (w.drew.alloc (.cells #[] 3)) w.heap.size 3 1 (.slice (some ⟨w.heap.size, 0, none⟩) 0 0) 0 [] :=
    ⟨by simp, .inr ⟨w.heap.size, 0, 0, #[], rfl, Nat.le_refl _, heap_alloc_new w.drew _, Nat.le_refl _, by unfold maxLen; omega, by simp, by simp⟩⟩
  have HSEG0 := hid hseg0
  have HSRC1 := hid hsrc1
  have HSRC2 := hid hsrc2
  have HM := hid hmm
  have hiv : i ≤ vc := by omega
  have hiv2 : i + 1 ≤ vc := by omega
  have him : i + 1 ≤ m := by omega
  clear hseg0 hsrc1 hsrc2 hl1 hl2 hR hc hob hmm
  have he : (x.take i ++ (x.drop (i + 1)).take (m - (i + 1))) = x.eraseIdx i := by
    rw [List.eraseIdx_eq_take_drop_succ, List.take_of_length_le (l := x.drop (i + 1)) (by rw [List.length_drop, HM.out]; exact Nat.le_refl _)]
  have HE := hid he
  have hlen : i + (m - (i + 1)) = (x.eraseIdx i).length := by rw [List.length_eraseIdx, HM.out, if_pos hi]; omega
  have HLEN := hid hlen
  obtain ⟨r, hr⟩ : ∃ r, m - (i + 1) = r := ⟨_, rfl⟩
  rw [hr] at HSRC2 HE HLEN
  have hmr : m = i + 1 + r := by omega
  subst hmr
  clear he hlen hr
  have hwr : IntKind.i64.wrap ((i : Int) + 1) = (i : Int) + 1 := IntWalk.i64_in _ (by omega)
  have htn : ((i : Int) + 1).toNat = i + 1 := by omega
  have hp0 : (0 : Int) ≤ (i : Int) + 1 := by omega
  have hle : (i : Int) + 1 ≤ (i : Int) + 1 + (r : Int) := by omega
  by_cases hvc : vc = i + 1
  · obtain rfl : r = 0 := by omega
    subst hvc
    have hia : (i : Int) ≤ (i : Int) + 1 := by omega
    have HSRC3 := hid (fun (y : World) => src_ints (w := y) (v := .slice (some ⟨b, off, none⟩) 0 0) (xs := []) (Reads.nil _ _ _ _ _))
    go_enter Try.func97, Try.ntmps97
    go_wp2
    go_region_law (first
      | (refine step_append_seg (by rfl) _ _ 25 25 (by rfl) w.heap.size 3 i0 (.int .i64 0) 1 8 Try.underlying25 hi0 hi1 hi2 hi3 rfl _ 0 [] (by rfl) HSEG0.out _ (by rfl) i _ (HSRC1.out _ (grew_alloc (grew_drew (grew_refl w)) _) _) (by unfold maxLen; omega) (by omega) (by simp) ?_; intro v7 w7 hown7 hgrow7 hblk7; rw [Nat.zero_add, List.nil_append] at hown7; have hg7 : Grew w w7 := ((grew_drew (grew_refl w)).alloc (Nat.le_refl _) _).grown hgrow7 (by simp) (fun k e => by simp [Value.ownBlock] at e; omega); obtain ⟨a7, c7, rfl, _⟩ := hown7.shape; have HOWN7 := hid hown7; clear hown7)
      | (refine step_append_seg (by rfl) _ _ 25 25 (by rfl) w.heap.size 3 i0 (.int .i64 0) 1 8 Try.underlying25 hi0 hi1 hi2 hi3 rfl _ i _ (by rfl) HOWN7.out _ (by rfl) 0 [] (HSRC3.out _) (by unfold maxLen; omega) (by omega) hg7.size ?_; intro v8 w8 hown8 hgrow8 hblk8; have HOWN8 := hid hown8; clear hown8))
    all_goals (
      have hg8 : Grew w w8 := hg7.grown hgrow8 hg7.size (fun k e => (HOWN7.out.own k e).1)
      have HG8 := hid hg8
      clear hg8 hgrow8 hblk8 hgrow7 hblk7
      go_wp2
      go_ret
      refine ⟨_, rfl, ?_, HG8.out⟩
      have h := HOWN8.out
      rw [List.drop_zero] at h
      rw [← HLEN.out, ← HE.out, List.take_zero, List.append_nil]
      simp only [List.append_nil, Nat.add_zero] at h
      exact h)
  · have hvc2 : ¬ vc ≤ i + 1 := by omega
    go_enter Try.func97, Try.ntmps97
    go_wp2
    go_region_law (first
      | (refine step_append_seg (by rfl) _ _ 25 25 (by rfl) w.heap.size 3 i0 (.int .i64 0) 1 8 Try.underlying25 hi0 hi1 hi2 hi3 rfl _ 0 [] (by rfl) HSEG0.out _ (by rfl) i _ (HSRC1.out _ (grew_alloc (grew_drew (grew_refl w)) _) _) (by unfold maxLen; omega) (by omega) (by simp) ?_; intro v7 w7 hown7 hgrow7 hblk7; rw [Nat.zero_add, List.nil_append] at hown7; have hg7 : Grew w w7 := ((grew_drew (grew_refl w)).alloc (Nat.le_refl _) _).grown hgrow7 (by simp) (fun k e => by simp [Value.ownBlock] at e; omega); obtain ⟨a7, c7, rfl, _⟩ := hown7.shape; have HOWN7 := hid hown7; clear hown7)
      | go_loud (refine step_append_seg (by rfl) _ _ 25 25 (by rfl) w.heap.size 3 i0 (.int .i64 0) 1 8 Try.underlying25 hi0 hi1 hi2 hi3 rfl _ i _ (by rfl) HOWN7.out _ (by rfl) r _ (HSRC2.out _ hg7 _) (by unfold maxLen; omega) (by omega) hg7.size ?_; intro v8 w8 hown8 hgrow8 hblk8; have HOWN8 := hid hown8; clear hown8))
    all_goals (
      have hg8 : Grew w w8 := hg7.grown hgrow8 hg7.size (fun k e => (HOWN7.out.own k e).1)
      have HG8 := hid hg8
      clear hg8 hgrow8 hblk8 hgrow7 hblk7
      go_wp2
      go_ret
      refine ⟨_, rfl, ?_, HG8.out⟩
      have h := HOWN8.out
      rw [List.drop_zero] at h
      rw [← HLEN.out, ← HE.out, List.map_append]
      exact h)

end Go.Proofs.Ytddnpooffcjhnaa
