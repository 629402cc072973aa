/- Walks: Size, Awake. -/
import Derived.Test.YtddnpooffcjhnaaWvSize2
namespace Go.Proofs.Ytddnpooffcjhnaa
open Go Go.RowKit Go.Lin Go.Lin.Wv Go.Maps
attribute [local go_sem] Oper.semAt_some

theorem isWd_slice {w : World} {v : Value} {xs : List Int} (h : IsWd w v xs) : ∃ a c, v = .slice a xs.length c := let ⟨a, c, h, _⟩ := h; ⟨a, c, h⟩

/-- One word, laid as the list of words. -/
theorem rows_one {w : World} {v : Value} {xs : List Int} (h : IsInts Any w v xs) (ty : TypeId) : IsRows Any (w.alloc (.cells #[v] ty)) (.slice (some ⟨w.heap.size, 0, none⟩) 1 1) [xs] := by
  refine ⟨fun _ => v, ⟨_, _, rfl, by simp, fun i hi => ?_⟩, fun i hi => ?_⟩
  · obtain rfl : i = 0 := by simp at hi; omega
    exact ⟨_, _, _, rfl, heap_alloc_new w _, trivial, by simp⟩
  · obtain rfl : i = 0 := by simp at hi; omega
    exact Reads.grew h (grew_alloc (grew_refl w) _)

theorem rows_two {w : World} {v u : Value} {xs ys : List Int} (h : IsInts Any w v xs) (h2 : IsInts Any w u ys) (ty : TypeId) : IsRows Any (w.alloc (.cells #[v, u] ty)) (.slice (some ⟨w.heap.size, 0, none⟩) 2 2) [xs, ys] :=
  two_rows (by simp) (by simp) (Reads.grew h (grew_alloc (grew_refl w) _)) (Reads.grew h2 (grew_alloc (grew_refl w) _))

theorem rows_none (w : World) : IsRows Any w (.slice none 0 0) [] := ⟨fun _ => undef, Reads.nil _ _ _ _ _, fun i hi => by simp at hi⟩

theorem wrong_one {L : Lt} {xs : List Int} (h : wrong L [xs] = 0) : valid L = true ∧ isW L xs = true := by
  unfold wrong at h
  split at h
  · split at h
    · rename_i h1 h2; exact ⟨h1, by simpa using h2⟩
    · cases h
  · cases h

theorem wrong_two {L : Lt} {xs ys : List Int} (h : wrong L [xs, ys] = 0) : valid L = true ∧ isW L xs = true ∧ isW L ys = true := by
  unfold wrong at h
  split at h
  · split at h
    · rename_i h1 h2; simp at h2; exact ⟨h1, h2⟩
    · cases h
  · cases h

theorem isW_iff {L : Lt} {N : Nat} (hN : L.n = N) {xs : List Int} (h : isW L xs = true) : xs.length ≤ 10 ∧ ∀ z ∈ xs, 0 ≤ z ∧ z < (N : Int) := by
  unfold isW at h
  simp only [Bool.and_eq_true, decide_eq_true_eq, List.all_eq_true] at h
  refine ⟨h.1, fun z hz => ?_⟩
  have := h.2 z hz
  unfold isL at this
  simp only [Bool.and_eq_true, decide_eq_true_eq] at this
  omega

theorem known_none (D : Int → Int → Bool) (N : Nat) : Known D N (fun _ => none) := fun k v h => by cases h

theorem newLoom_ok (v : Value) (L : Lt) (wv : Value) (ws : List (List Int)) (w : World) (hn : L.n ≤ 9223372036854775807) (hv : IsLt w v L) (hw : IsRows Any w wv ws) (h0 : wrong L ws = 0) :
    Calls Try.prog 60 #[v, wv] w fun e w' => ∃ (B N : Nat), L.n = N ∧ 1 ≤ N ∧ N ≤ 6 ∧ e = .returned (.tuple #[.pointer (some ⟨B, 0, none⟩), .int .i64 0]) ∧ w.heap.size ≤ B ∧ Loom w' B (dep L) N ∧ Grew w w' :=
  (newLoom_any v L wv ws w hn hv hw).mono fun e w' ⟨hg, h⟩ => by
    rcases h with ⟨_, B, N, h1, h2, h3, h4, h5, h6⟩ | ⟨h, _⟩
    · exact ⟨B, N, h1, h2, h3, h4, h5, h6, hg⟩
    · exact absurd h0 h

theorem newLoom_bad (v : Value) (L : Lt) (wv : Value) (ws : List (List Int)) (w : World) (hn : L.n ≤ 9223372036854775807) (hv : IsLt w v L) (hw : IsRows Any w wv ws) (h0 : wrong L ws ≠ 0) :
    Calls Try.prog 60 #[v, wv] w fun e w' => e = .returned (.tuple #[.pointer none, .int .i64 (wrong L ws)]) ∧ Grew w w' :=
  (newLoom_any v L wv ws w hn hv hw).mono fun e w' ⟨hg, h⟩ => by
    rcases h with ⟨h, _⟩ | ⟨_, h⟩
    · exact absurd h h0
    · exact ⟨h, hg⟩

set_option maxHeartbeats 4000000 in
set_option maxRecDepth 20000 in
theorem size48_any (v : Value) (L : Lt) (wv : Value) (xs : List Int) (w : World) (hn : L.n ≤ 9223372036854775807) (hv : IsLt w v L) (hx : IsWd w wv xs) :
    Calls Try.prog 48 #[v, wv] w fun e w' => e = .returned (.tuple #[.int .i64 (if wrong L [xs] = 0 then (sizeM (dep L) L.n.toNat xs : Nat) else 0), .int .i64 (wrong L [xs])]) ∧ Grew w w' := by
  have HV := hid hv
  obtain ⟨s, rfl, hps⟩ := hv
  obtain ⟨xa, xc, rfl⟩ := isWd_slice hx
  obtain ⟨W0, hW0, g0, k0, k1, hz⟩ := box2 w (.int .i64 L.n) s 24
  obtain ⟨W1, hW1⟩ : ∃ W1, W0.alloc (.cells #[.slice xa xs.length xc] 25) = W1 := ⟨_, rfl⟩
  have g1 : Grew W0 W1 := by rw [← hW1]; exact grew_alloc (grew_refl _) _
  have g01 := grew_trans g0 g1
  obtain ⟨m, hm⟩ : ∃ m, xs.length = m := ⟨_, rfl⟩
  obtain ⟨r, hr⟩ : ∃ r, wrong L [xs] = r := ⟨_, rfl⟩
  rw [hr]
  have HM := hid hm; have HR := hid hr
  by_cases hr0 : r = 0
  · subst hr0
    obtain ⟨hv1, hw1⟩ := wrong_one hr
    have hok := newLoom_ok _ L _ [xs] W1 hn (HV.out.grew g01) (by rw [← hW1]; exact rows_one (Reads.grew hx.ints g0) 25) hr
    have HOK := hid hok; have HX := hid hx; have HG01 := hid g01; have HW1 := hid hw1
    rw [hm] at hW1 ⊢
    clear hps hr hx hm hok hv1 hw1
    have hrm := @run_makeMap Try.prog
    go_enter Try.func48, Try.ntmps48
    go_wp2_with (first
      | (go_at_call 60; (with_reducible refine HOK.out.mono ?_); go_loud (rintro e w1 ⟨B, N, hN, hN1, hN6, rfl, hB, hL, hg1⟩; have HL := hid hL; have HN := hid hN; have HG1 := hid hg1; obtain ⟨hl10, hlw⟩ := isW_iff hN HW1.out; have HLW := hid hlw; have HF := hid (first_any (dep L) B N xs _ w1 hN6 hlw (by omega) hL ((HX.out.grew HG01.out).grew hg1)); rw [HM.out] at HF; clear hN hL hg1 hlw))
      | (go_at_call 67; (with_reducible refine HF.out.mono ?_); rintro e w2 ⟨u, rfl, hs2, hg2⟩; have HS2 := hid hs2; have HG2 := hid hg2; clear hs2 hg2)
      | (go_at_call 89; go_loud (
          have hal := alike_first (dep_comm L) HLW.out
          have hlen : (first (dep L) N xs).length = m := by rw [← hal.length (dep_refl L), HM.out]
          have hfw : ∀ z ∈ first (dep L) N xs, 0 ≤ z ∧ z < (N : Int) := fun z hz => HLW.out z ((hal.perm (dep_refl L)).mem_iff.2 hz)
          have hm10 : m ≤ 10 := by rw [← HM.out]; exact hl10
          have h7 : (7 : Nat) ^ m ≤ 282475249 := Nat.le_trans (Nat.pow_le_pow_right (by decide) hm10) (by decide)
          refine (size_any (dep L) (dep_refl L) (dep_comm L) B N w2.heap.size hN6 m (first (dep L) N xs) u (w2.alloc (.map #[] 0)) 0 (fun _ => none) hlen hm10 (by omega) hfw ((HL.out.grew HG2.out).grew (grew_alloc (grew_refl _) _)) ((IsWd.of_seg HS2.out).grew (grew_alloc (grew_refl _) _)) (OMap.made w2 Try.prog 98 3 id) (known_none _ _)).mono ?_
          rintro e w3 ⟨rfl, n', S', hn', hm', hk', hkp⟩
          have HKP := hid (show Grew w2 w3 from (grew_alloc (grew_refl w2) (.map #[] 0)).trans (hkp.below (by simp) (fun k o hm => by have := hm.1; omega)))
          obtain ⟨z, hz⟩ : ∃ z, sizeM (dep L) N (first (dep L) N xs) = z := ⟨_, rfl⟩
          rw [hz]
          have HZ := hid (show sizeM (dep L) L.n.toNat xs = z by rw [HN.out, Int.toNat_natCast, sizeM_alike (dep_refl L) (dep_comm L) N hal, hz])
          clear hal hlen hfw h7 hn' hm' hk' hkp hz)))
    go_ret2
    exact ⟨by rw [HZ.out]; rfl, grew_trans HG01.out (grew_trans HG1.out (grew_trans HG2.out HKP.out))⟩
  · have hbad := newLoom_bad _ L _ [xs] W1 hn (HV.out.grew g01) (by rw [← hW1]; exact rows_one (Reads.grew hx.ints g0) 25) (by rw [hr]; exact hr0)
    rw [hr] at hbad
    have hne : (r != 0) = true := by simpa using hr0
    have HB := hid hbad; have HG01 := hid g01; have HR0 := hid hr0
    rw [hm] at hW1 ⊢
    clear hps hr hx hm hbad hr0
    go_enter Try.func48, Try.ntmps48
    go_wp2_with (go_at_call 60; (with_reducible refine HB.out.mono ?_); rintro e w1 ⟨rfl, hg1⟩; have HG1 := hid hg1; clear hg1)
    go_ret2
    exact ⟨by first | rfl | (rw [if_neg HR0.out]; rfl), grew_trans HG01.out HG1.out⟩

theorem awake_L : wrong ⟨3, [(0, 1)]⟩ [[2, 0, 1]] = 0 ∧ sizeM (dep ⟨3, [(0, 1)]⟩) 3 [2, 0, 1] = 3 := by decide

set_option maxHeartbeats 4000000 in
theorem awake_any (w : World) : Calls Try.prog 17 #[] w fun e w' => e = .returned (.bool true) ∧ Grew w w' := by
  obtain ⟨W0, hW0, g0, k0, k1, hz⟩ := box2 w (.int .i64 0) (.int .i64 1) 57
  obtain ⟨W1, hW1, g1, e0, e1, e2, hz1⟩ := box3 W0 (.int .i64 2) (.int .i64 0) (.int .i64 1) 3
  have hps : IsPairs W0 (.slice (some ⟨w.heap.size, 0, none⟩) 1 1) [(0, 1)] := ⟨_, _, rfl, by simp, fun i x hx => by
    rcases i with _ | i
    · simp at hx; subst hx; exact ⟨_, _, rfl, hz, k0, k1⟩
    · simp at hx⟩
  have hlt : IsLt W1 (.agg #[.int .i64 3, .slice (some ⟨w.heap.size, 0, none⟩) 1 1]) ⟨3, [(0, 1)]⟩ := ⟨_, rfl, hps.grew g1⟩
  have hxs : IsWd W1 (.slice (some ⟨W0.heap.size, 0, none⟩) 3 3) [2, 0, 1] := by
    refine ⟨_, _, rfl, by simp, _, _, rfl, by simp, fun i hi => ?_⟩
    have hi' : i = 0 ∨ i = 1 ∨ i = 2 := by simp at hi; omega
    rcases hi' with rfl | rfl | rfl
    · exact ⟨_, _, _, rfl, Array.getElem?_eq_getElem hz1, trivial, by simpa [nth] using e0⟩
    · exact ⟨_, _, _, rfl, Array.getElem?_eq_getElem hz1, trivial, by simpa [nth] using e1⟩
    · exact ⟨_, _, _, rfl, Array.getElem?_eq_getElem hz1, trivial, by simpa [nth] using e2⟩
  have hs := size48_any _ _ _ _ W1 (by decide) hlt hxs
  rw [if_pos awake_L.1, awake_L.1, show (3 : Int).toNat = 3 from rfl, awake_L.2] at hs
  have HS := hid hs; have HG := hid (grew_trans g0 g1)
  clear hs hps hlt hxs
  go_enter Try.func17, Try.ntmps17
  go_wp2_with (go_at_call 48; (with_reducible refine HS.out.mono ?_); rintro e w1 ⟨rfl, hg1⟩; have HG1 := hid hg1; clear hg1)
  go_ret
  exact ⟨rfl, grew_trans HG.out HG1.out⟩

end Go.Proofs.Ytddnpooffcjhnaa
