/- Walks: Long (15), many (26), Awake (17), in (32), asked (36) of the statements. -/
import Derived.Test.YtojkohpniokaaaaPgRef3
namespace Go.Proofs.Ytojkohpniokaaaa
open Go Go.RowKit Go.Lin Go.Lin.Pg

theorem long15_any (v : Value) (g : Gr) (w : World) (hv : IsGr w v g) : Calls Try.prog 15 #[v] w fun e w' => e = .returned (.bool (decide ((g.ms.length : Int) > 100))) ∧ Grew w w' := by
  obtain ⟨s, rfl, hmv⟩ := hv
  obtain ⟨n, hn⟩ : ∃ n, g.ms.length = n := ⟨_, rfl⟩
  obtain ⟨va, vc, rfl, ⟨hm1, hm2⟩, -⟩ := hmv
  rw [hn] at hm1 hm2 ⊢
  obtain ⟨W0, hW0, g0, k0, k1, hz⟩ := box2 w (.int .i64 g.n) (.slice va n vc) 24
  obtain ⟨b, hb⟩ : ∃ b, decide ((n : Int) > 100) = b := ⟨_, rfl⟩
  have hb2 : decide (n > 100) = b := by rw [← hb]; exact decide_eq_decide.2 (by omega)
  have hb3 : decide (100 < n) = b := hb2
  rw [hb]
  clear hn
  cases b
  all_goals (
    go_enter Try.func15, Try.ntmps15
    go_wp2
    go_ret
    exact ⟨rfl, g0⟩)

theorem many26_any (v : Value) (l : List Int) (w : World) (hv : IsWd w v l) : Calls Try.prog 26 #[v] w fun e w' => e = .returned (.bool (decide ((l.length : Int) > 1100))) ∧ Grew w w' := by
  obtain ⟨n, hn⟩ : ∃ n, l.length = n := ⟨_, rfl⟩
  obtain ⟨va, vc, rfl, hm, -⟩ := hv
  rw [hn]
  obtain ⟨b, hb⟩ : ∃ b, decide ((n : Int) > 1100) = b := ⟨_, rfl⟩
  have hb2 : decide (n > 1100) = b := by rw [← hb]; exact decide_eq_decide.2 (by omega)
  have hb3 : decide (1100 < n) = b := hb2
  rw [hb]
  clear hm hn
  have hg := grew_refl w
  cases b
  all_goals (
    go_enter Try.func26, Try.ntmps26
    go_wp2
    go_ret
    exact ⟨rfl, hg⟩)

/-- The graph of the sanity check. -/
def gA : Gr := ⟨2, [(0, 0, 1, false), (1, 1, 0, true)]⟩
theorem gA_ranks : ranksA gA 0 0 = ([1, 0], 0) := by kernel_rfl

set_option maxHeartbeats 2000000 in
theorem awake17_any (w : World) : Calls Try.prog 17 #[] w fun e w' => e = .returned (.bool true) ∧ Grew w w' := by
  obtain ⟨W0, hW0⟩ : ∃ W0, w.alloc (.cells #[.int .i64 0, .int .i64 0, .int .i64 1, .bool false, .int .i64 1, .int .i64 1, .int .i64 0, .bool true] 50) = W0 := ⟨_, rfl⟩
  have g0 : Grew w W0 := by rw [← hW0]; exact grew_alloc (grew_refl _) _
  have o0 : W0.heap[w.heap.size]? = some (.cells #[.int .i64 0, .int .i64 0, .int .i64 1, .bool false, .int .i64 1, .int .i64 1, .int .i64 0, .bool true] 50 (0, 0)) := by rw [← hW0]; exact heap_alloc_new w _
  have hgr : IsGr W0 (.agg #[.int .i64 2, .slice (some ⟨w.heap.size, 0, none⟩) 2 2]) gA := by
    refine ⟨_, rfl, some ⟨w.heap.size, 0, none⟩, 2, rfl, by simp [gA], fun i m hi => ⟨w.heap.size, 0, rfl, ?_⟩⟩
    have hlt := lt_of_obj o0
    match i, hi with
    | 0, hi =>
      simp [gA] at hi
      subst hi
      exact ⟨hlt, cell_of_row _ _ _ _ _ _ o0, cell_of_row _ _ _ _ _ _ o0, cell_of_row _ _ _ _ _ _ o0, cell_of_row _ _ _ _ _ _ o0⟩
    | 1, hi =>
      simp [gA] at hi
      subst hi
      exact ⟨hlt, cell_of_row _ _ _ _ _ _ o0, cell_of_row _ _ _ _ _ _ o0, cell_of_row _ _ _ _ _ _ o0, cell_of_row _ _ _ _ _ _ o0⟩
    | i + 2, hi => simp [gA] at hi
  have hrk := ranks18_any _ gA 0 0 W0 (by simp [gA]) hgr
  rw [gA_ranks] at hrk
  have HRK := hid hrk
  have HS := hid (fun (u : Value) (W : World) (h : IsInts Any W u [1, 0]) (u' : Value) (h' : IsInts Any W u' [1, 0]) => sameInts_any u u' [1, 0] [1, 0] W h h')
  rw [show ([1, 0] == ([1, 0] : List Int)) = true from rfl] at HS
  clear hgr hrk o0
  go_enter Try.func17, Try.ntmps17
  go_wp2_with (first
    | (go_at_call 18; (with_reducible refine HRK.out.mono ?_); rintro e w1 ⟨u, rfl, hx, hu⟩; have HX := hid hx; obtain ⟨ua, uc, rfl⟩ : ∃ a c, u = .slice a 2 c := isWd_slice hu; obtain ⟨W2, hW2, g2, c0, c1, hz2⟩ := box2 w1 (.int .i64 1) (.int .i64 0) 3; have HU := hid (hu.grew g2).ints; have HV := hid (show IsInts Any W2 (.slice (some ⟨w1.heap.size, 0, none⟩) 2 2) [1, 0] from ⟨_, _, rfl, by simp, fun i hi => ⟨w1.heap.size, 0, _, rfl, Array.getElem?_eq_getElem hz2, trivial, by (match i, hi with | 0, _ => exact c0 | 1, _ => exact c1 | i + 2, h => exact absurd h (by simp))⟩⟩); have HG2 := hid (grew_trans g0 (grew_trans hx g2)); clear hx hu g2)
    | (go_at_call 35; (with_reducible refine (HS.out _ _ HU.out _ HV.out).mono ?_); rintro e w3 ⟨rfl, hy⟩; have HY := hid hy; clear hy))
  go_ret
  exact ⟨rfl, grew_trans HG2.out HY.out⟩

theorem in32_any (v : Value) (l : List Int) (x : Int) (w : World) (hv : IsInts Any w v l) : Calls Try.prog 32 #[v, .int .i64 x] w fun e w' => e = .returned (.bool (l.contains x)) ∧ Grew w w' := by
  obtain ⟨n, hn⟩ : ∃ n, l.length = n := ⟨_, rfl⟩
  obtain ⟨a, cap, rfl, hm, hc⟩ := hv
  rw [hn] at hm hc ⊢
  have HC := hid hc; have HN := hid hn
  clear hc hn
  go_enter Try.func32, Try.ntmps32
  go_wp2
  go_loopg [6, 9] n (fun k _ i wr => ∃ j : Nat, j ≤ n ∧ i = .int .i64 (j : Int) ∧ Hid (k = n - j) ∧ Hid (∀ t, t < j → nth l t ≠ x) ∧ wr = w)
  case atStart => exact ⟨0, Nat.zero_le _, rfl, hid rfl, hid (fun t ht => by omega), rfl⟩
  case round =>
    obtain ⟨j, hj, rfl, HK, HT, rfl⟩ := hrel
    rename World => wr
    have hg := grew_refl wr
    by_cases hlt : j < n
    · obtain ⟨b, off, o, rfl, hb, _, hcj⟩ := HC.out j hlt
      have hbl := lt_of_obj hb
      have hltI : (j : Int) < (n : Int) := by omega
      obtain ⟨y, hy⟩ : ∃ y, nth l j = y := ⟨_, rfl⟩
      have HY := hid hy
      have HLT := hid hlt
      rw [hy] at hcj
      clear hb hy
      by_cases hyx : y = x
      · subst hyx
        have hd : (y == y) = true := by simp
        have HR := hid (show l.contains y = true by rw [List.contains_iff_mem, ← HY.out, nth_lt (by rw [HN.out]; exact HLT.out)]; exact List.getElem_mem _)
        go_wp2
        go_ret
        exact ⟨by rw [HR.out]; rfl, hg⟩
      · have hd : (y == x) = false := by simpa using hyx
        have HNE := hid hyx
        clear hyx
        go_wp2
        go_roundg (n - (j + 1))
        case measure => have := HK.out; have := HLT.out; omega
        case rel => exact ⟨j + 1, by have := HLT.out; omega, by go_num, hid rfl, hid (lt_succ_all HT.out (by rw [HY.out]; exact HNE.out)), rfl⟩
    · obtain rfl : j = n := by omega
      have HR := hid (show l.contains x = false by
        refine Bool.eq_false_iff.2 (fun hc => ?_)
        rw [List.contains_iff_mem] at hc
        obtain ⟨t, ht, e⟩ := List.getElem_of_mem hc
        exact HT.out t (by rw [← HN.out]; exact ht) (by rw [nth_lt ht]; exact e))
      go_wp2
      go_ret
      exact ⟨by rw [HR.out]; rfl, hg⟩

/-- The claim and the thread of two numbers. -/
def askC (c : Int) : Int := c % 3
def askT (c t : Int) : Int := if c % 3 = 0 then 0 else t % 3
theorem askC_cases (c : Int) : askC c = 0 ∨ askC c = 1 ∨ askC c = 2 := by unfold askC; omega
theorem ask_ok {g : Gr} (hv : valid g = true) (c t : Int) : askM g (askC c) (askT c t) = 0 := by
  unfold askM
  rw [if_pos hv, if_pos]
  unfold clOk askC askT isTh
  by_cases h0 : c % 3 = 0
  · rw [if_pos h0, h0]; rfl
  · rw [if_neg h0]
    simp
    omega
end Go.Proofs.Ytojkohpniokaaaa
