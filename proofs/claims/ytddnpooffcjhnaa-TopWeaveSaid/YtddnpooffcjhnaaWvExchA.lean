/- Two neighbouring letters of a word change places; in memory: a cell of an owned slice is stored. Walk: exchange, of the program's loom (81). Walks of the reference: can (82). Walk of the reference: exchanged (83); slices.Clone of a word. Exchanged, of the program (39) and of the reference (40). -/
import Derived.Test.YtddnpooffcjhnaaWvDepend
import Derived.Test.YtddnpooffcjhnaaWvI
import Derived.Deep.QuietTactic
import Derived.BigQuiet
import Derived.StillTailTactics
import Derived.Test.YtddnpooffcjhnaaWvP
import Derived.Test.YtddnpooffcjhnaaWvG
namespace Go.Lin.Wv

/-- Letter i and the one behind it change places. -/
def swapM (x : List Int) (i : Nat) : List Int := (x.set i (nth x (i + 1))).set (i + 1) (nth x i)
/-- They may. -/
def canM (D : Int → Int → Bool) (x : List Int) (i : Int) : Bool := decide (0 ≤ i) && decide (i ≤ (x.length : Int) - 2) && !D (nth x i.toNat) (nth x (i.toNat + 1))
def exM (D : Int → Int → Bool) (x : List Int) (i : Int) : List Int := if canM D x i then swapM x i.toNat else x

theorem swapM_length (x : List Int) (i : Nat) : (swapM x i).length = x.length := by simp [swapM]
theorem exM_length (D : Int → Int → Bool) (x : List Int) (i : Int) : (exM D x i).length = x.length := by unfold exM; split <;> simp [swapM_length]

end Go.Lin.Wv
namespace Go.Proofs.Ytddnpooffcjhnaa
open Go.RowKit Go.Lin Go.Lin.Wv

/-- A cell of an owned slice of ints is stored. -/
theorem Seg.set {w : World} {base n j : Nat} {v : Value} {xs : List Value} (h : Seg w base 3 1 v n xs) {g off cap : Nat} (hv : v = .slice (some ⟨g, off, none⟩) n cap) (hj : j < n) (u : Value) :
    Seg (w.setCell ⟨g, off + j, none⟩ u) base 3 1 v n (xs.set j u) := by
  obtain ⟨h1, h2⟩ := h
  refine ⟨by rw [List.length_set]; exact h1, ?_⟩
  rcases h2 with ⟨rfl, _⟩ | ⟨g', off', cap', cur, rfl, hb, hg, hn, hm, hs, ht⟩
  · simp at hv
  · simp only [Value.slice.injEq, Option.some.injEq, Addr.mk.injEq, and_true] at hv
    obtain ⟨⟨rfl, rfl⟩, -, rfl⟩ := hv
    refine .inr ⟨g', off', cap', _, rfl, hb, heap_setCell_same w g' (off' + j) cur 3 u hg, hn, hm, by simpa using hs, ?_⟩
    rw [← ht]
    have hlen : ((cur.toList.drop off').take (n * 1)).length = n := by rw [List.length_take, List.length_drop, Array.length_toList]; omega
    apply List.ext_getElem?
    intro t
    by_cases htj : t = j
    · subst htj
      rw [List.getElem?_take_of_lt (by omega), List.getElem?_drop, Array.getElem?_toList, Array.getElem?_setIfInBounds, if_pos rfl, if_pos (by omega), List.getElem?_set_self (by omega)]
    · rw [List.getElem?_set_ne (by omega)]
      by_cases ht : t < n * 1
      · rw [List.getElem?_take_of_lt ht, List.getElem?_take_of_lt ht, List.getElem?_drop, List.getElem?_drop, Array.getElem?_toList, Array.getElem?_toList, Array.getElem?_setIfInBounds, if_neg (by omega)]
      · rw [List.getElem?_eq_none (by rw [List.length_take]; omega), List.getElem?_eq_none (by rw [List.length_take]; omega)]

/-- A swap in memory. -/
theorem seg_swap {w : World} {base i : Nat} {v : Value} {x : List Int} (h : Seg w base 3 1 v x.length (x.map (.int .i64))) {g off cap : Nat} (hv : v = .slice (some ⟨g, off, none⟩) x.length cap) (hi : i + 1 < x.length) :
    Seg ((w.setCell ⟨g, off + i, none⟩ (.int .i64 (nth x (i + 1)))).setCell ⟨g, off + (i + 1), none⟩ (.int .i64 (nth x i))) base 3 1 v x.length ((swapM x i).map (.int .i64)) := by
  have h1 := Seg.set h hv (j := i) (by omega) (.int .i64 (nth x (i + 1)))
  have h2 := Seg.set h1 hv (j := i + 1) hi (.int .i64 (nth x i))
  unfold swapM
  rw [List.map_set, List.map_set]
  exact h2

end Go.Proofs.Ytddnpooffcjhnaa
namespace Go.Proofs.Ytddnpooffcjhnaa
open Go.RowKit Go.Lin Go.Lin.Wv

set_option maxHeartbeats 1000000 in
/-- between leaves the world alone. -/
theorem between_same (l n h : Int) (w : World) : Calls Try.prog 61 #[.int .i64 l, .int .i64 n, .int .i64 h] w fun e w' => e = .returned (.bool (decide (l ≤ n) && decide (n ≤ h))) ∧ w' = w := by
  obtain ⟨p, hp⟩ : ∃ p, decide (l ≤ n) = p := ⟨_, rfl⟩
  obtain ⟨q, hq⟩ : ∃ q, decide (n ≤ h) = q := ⟨_, rfl⟩
  rw [hp, hq]
  cases p <;> cases q
  all_goals (
    go_enter Try.func61, Try.ntmps61
    go_wp2
    go_ret
    exact ⟨rfl, rfl⟩)

set_option maxHeartbeats 4000000 in
set_option maxRecDepth 20000 in
theorem exchange81_keeps {D : Int → Int → Bool} (B N base : Nat) (u : Value) (x : List Int) (n : Nat) (i : Int) (w : World) (hn : x.length = n) (hN : N ≤ 6) (hlen : n ≤ 1000) (hw : ∀ z ∈ x, 0 ≤ z ∧ z < (N : Int)) (hL : Loom w B D N) (hbase : base ≤ w.heap.size) (hS : Seg w base 3 1 u n (x.map (.int .i64))) :
    Calls Try.prog 81 #[.pointer (some ⟨B, 0, none⟩), u, .int .i64 i] w fun e w' => e = .returned (.bool (canM D x i)) ∧ Seg w' base 3 1 u n ((exM D x i).map (.int .i64)) ∧ Keeps (fun q _ => u.ownBlock = some q) w w' := by
  have hwr : IntKind.i64.wrap ((n : Int) - 2) = (n : Int) - 2 := IntWalk.i64_in _ (by omega)
  obtain ⟨ua, uc, hu, -⟩ := hS.shape
  obtain ⟨q, hq⟩ : ∃ q, (decide (0 ≤ i) && decide (i ≤ (n : Int) - 2)) = q := ⟨_, rfl⟩
  have hbt := fun (y : World) => between_same 0 i ((n : Int) - 2) y
  rw [hq] at hbt
  have HBT := hid hbt
  have HSG := hid hS
  cases q with
  | false =>
    have hcan : canM D x i = false := by unfold canM; rw [hn, hq]; rfl
    have hex : exM D x i = x := by unfold exM; rw [hcan]; rfl
    have HC := hid hcan; have HE := hid hex
    subst hu
    clear hq hbt hS hcan hex hn hL
    go_enter Try.func81, Try.ntmps81
    go_wp2
    go_quiet ((go_at_call 61; exact Calls.quiet_of_same (HBT.out _)))
    all_goals (
      go_wp2
      go_ret
      exact ⟨by rw [HC.out]; rfl, by rw [HE.out]; exact HSG.out.grew (grew_drewN (grew_refl w) _), (Keeps.refl _ w).drewN _⟩)
  | true =>
    obtain ⟨k, rfl, hk⟩ : ∃ k : Nat, i = k ∧ k + 1 < n := by simp at hq; exact ⟨i.toNat, by omega, by omega⟩
    obtain ⟨g, off, cap, cur, hv, hbg, hgc, c0⟩ := hS.cell k (by omega)
    obtain ⟨g', off', cap', cur', hv', -, -, c1⟩ := hS.cell (k + 1) (by omega)
    rw [hv] at hv'
    simp only [Value.slice.injEq, Option.some.injEq, Addr.mk.injEq, and_true] at hv'
    obtain ⟨⟨rfl, rfl⟩, -, rfl⟩ := hv'
    have hk0 : k < x.length := by omega
    have hk1 : k + 1 < x.length := by omega
    rw [List.getElem?_map, List.getElem?_eq_getElem hk0, Option.map_some, ← nth_lt hk0] at c0
    rw [List.getElem?_map, List.getElem?_eq_getElem hk1, Option.map_some, ← nth_lt hk1] at c1
    have z0 := hw (nth x k) (by rw [nth_lt hk0]; exact List.getElem_mem _)
    have z1 := hw (nth x (k + 1)) (by rw [nth_lt hk1]; exact List.getElem_mem _)
    obtain ⟨a, ha⟩ : ∃ a : Nat, nth x k = a := ⟨(nth x k).toNat, by omega⟩
    obtain ⟨b, hb⟩ : ∃ b : Nat, nth x (k + 1) = b := ⟨(nth x (k + 1)).toNat, by omega⟩
    rw [ha] at c0 z0; rw [hb] at c1 z1
    have ha6 : a < 6 := by omega
    have hb6 : b < 6 := by omega
    obtain ⟨d, hd⟩ : ∃ d, D (a : Int) (b : Int) = d := ⟨_, rfl⟩
    have hdc := hL.cs a b (by omega) (by omega)
    rw [hd] at hdc
    have hcan : canM D x k = !d := by unfold canM; rw [hn, hq, Int.toNat_natCast, ha, hb, hd]; rfl
    have hgl := lt_of_obj hgc
    have hBl := hL.lt
    have hz : w.frozen? ⟨g, off + k, none⟩ = false := frozen_of_row _ _ _ _ _ hgc
    have hz1 : w.frozen? ⟨g, off + (k + 1), none⟩ = false := frozen_of_row _ _ _ _ _ hgc
    have hsw := fun (m : Nat) => seg_swap (w := w.drewN m) (by rw [hn]; exact hS.drewN m) (by rw [hn]; exact hv) hk1
    rw [hn, ha, hb] at hsw
    have HSW := hid hsw
    have HCA := hid hcan; have HA := hid ha; have HB' := hid hb
    have hwr2 : IntKind.i64.wrap ((k : Int) + 1) = (k : Int) + 1 := IntWalk.i64_in _ (by omega)
    have htn : ((k : Int) + 1).toNat = k + 1 := by omega
    have hp0 : (0 : Int) ≤ (k : Int) + 1 := by omega
    have hkl : (k : Int) + 1 < (n : Int) := by omega
    have hkl0 : (k : Int) < (n : Int) := by omega
    have hbase' := hid hbase
    have hbg' := hid hbg
    subst hv
    have HN := hid hn
    clear hk0 hk1 hsw hn hq hbt hS hcan hL hgc hw ha hb hd z0 z1 hu hbg hbase
    cases d
    · go_enter Try.func81, Try.ntmps81
      go_wp2
      go_quiet ((go_at_call 61; exact Calls.quiet_of_same (HBT.out _)))
      all_goals (
        go_wp2
        go_region_law (fail)
        all_goals (
          go_wp2
          go_ret
          exact ⟨by rw [HCA.out]; rfl, by rw [show exM D x (k : Int) = swapM x k by unfold exM; rw [HCA.out, Int.toNat_natCast]; rfl]; exact HSW.out _, ((((Keeps.refl (fun q _ => q = g) w).drewN _).trans (keeps_setB _ g _ _)).trans (keeps_setB _ g _ _)).mono (fun q o e => by rw [e]; rfl)⟩))
    · go_enter Try.func81, Try.ntmps81
      go_wp2
      go_quiet ((go_at_call 61; exact Calls.quiet_of_same (HBT.out _)))
      all_goals (
        go_wp2
        go_ret
        exact ⟨by rw [HCA.out]; rfl, by rw [show exM D x (k : Int) = x by unfold exM; rw [HCA.out]; rfl]; exact HSG.out.grew (grew_drewN (grew_refl w) _), (Keeps.refl _ w).drewN _⟩)

theorem exchange81_any {D : Int → Int → Bool} (B N base : Nat) (u : Value) (x : List Int) (n : Nat) (i : Int) (w : World) (hn : x.length = n) (hN : N ≤ 6) (hlen : n ≤ 1000) (hw : ∀ z ∈ x, 0 ≤ z ∧ z < (N : Int)) (hL : Loom w B D N) (hbase : base ≤ w.heap.size) (hS : Seg w base 3 1 u n (x.map (.int .i64))) :
    Calls Try.prog 81 #[.pointer (some ⟨B, 0, none⟩), u, .int .i64 i] w fun e w' => e = .returned (.bool (canM D x i)) ∧ Seg w' base 3 1 u n ((exM D x i).map (.int .i64)) ∧ Below base w w' :=
  (exchange81_keeps B N base u x n i w hn hN hlen hw hL hbase hS).mono fun _ _ ⟨h1, h2, h3⟩ => ⟨h1, h2, h3.below hbase (fun k _ e => (hS.own k e).1)⟩

end Go.Proofs.Ytddnpooffcjhnaa
namespace Go.Lin.Wv
theorem canM_false {D : Int → Int → Bool} {x : List Int} {i : Int} (h : ¬ (0 ≤ i ∧ i < (x.length : Int) - 1)) : canM D x i = false := by
  unfold canM
  cases h1 : decide (0 ≤ i) with
  | false => rfl
  | true =>
    have h2 : decide (i ≤ (x.length : Int) - 2) = false := by simp at h1 ⊢; omega
    rw [h2]; rfl
theorem canM_true {D : Int → Int → Bool} {x : List Int} {k : Nat} (h : k + 1 < x.length) : canM D x (k : Int) = !D (nth x k) (nth x (k + 1)) := by
  unfold canM
  rw [show decide (0 ≤ (k : Int)) = true by simp, show decide ((k : Int) ≤ (x.length : Int) - 2) = true by simp; omega, Int.toNat_natCast]
  rfl
end Go.Lin.Wv
namespace Go.Proofs.Ytddnpooffcjhnaa
open Go.RowKit Go.Lin Go.Lin.Wv

set_option maxHeartbeats 4000000 in
set_option maxRecDepth 20000 in
theorem can82_any (v : Value) (L : Lt) (wv : Value) (x : List Int) (n : Nat) (i : Int) (w : World) (hn : x.length = n) (hlen : n ≤ 100000) (hv : IsLt w v L) (hx : IsInts Any w wv x) :
    Calls Try.prog 82 #[v, wv, .int .i64 i] w fun e w' => e = .returned (.bool (canM (dep L) x i)) ∧ Grew w w' := by
  have HDEP := hid (fun (a b : Int) (y : World) (hy : Grew w y) => depend_any v L a b y (hv.grew hy))
  obtain ⟨s, rfl, -⟩ := hv
  obtain ⟨W0, hW0, g0, k0, k1, hz⟩ := box2 w (.int .i64 L.n) s 24
  have hwr : IntKind.i64.wrap ((n : Int) - 1) = (n : Int) - 1 := IntWalk.i64_in _ (by omega)
  by_cases hin : 0 ≤ i ∧ i < (n : Int) - 1
  · obtain ⟨k, rfl, hk⟩ : ∃ k : Nat, i = k ∧ k + 1 < n := ⟨i.toNat, by omega, by omega⟩
    rw [canM_true (by omega)]
    obtain ⟨va, vc, rfl, hm, hc⟩ := hx
    rw [hn] at hm hc ⊢
    obtain ⟨b, off, o, hva, hob, -, c0⟩ := hc k (by omega)
    subst hva
    obtain ⟨b', off', o', hva', -, -, c1⟩ := hc (k + 1) hk
    simp only [Option.some.injEq, Addr.mk.injEq, and_true] at hva'
    obtain ⟨rfl, rfl⟩ := hva'
    have hbl := lt_of_obj hob
    obtain ⟨a0, ha0⟩ : ∃ a, nth x k = a := ⟨_, rfl⟩
    obtain ⟨a1, ha1⟩ : ∃ a, nth x (k + 1) = a := ⟨_, rfl⟩
    replace c0 := (g0.cell (p := ⟨b, off + k, none⟩) hbl).trans c0
    replace c1 := (g0.cell (p := ⟨b, off + (k + 1), none⟩) hbl).trans c1
    simp only [ha0] at c0
    simp only [ha1] at c1
    rw [ha0, ha1]
    have hbl2 := Nat.lt_of_lt_of_le hbl g0.size
    obtain ⟨d, hd⟩ : ∃ d, dep L a0 a1 = d := ⟨_, rfl⟩
    have hdep := fun (y : World) (hy : Grew w y) => HDEP.out a0 a1 y hy
    rw [hd] at hdep ⊢
    have HD := hid hdep
    have hwr2 : IntKind.i64.wrap ((k : Int) + 1) = (k : Int) + 1 := IntWalk.i64_in _ (by omega)
    have htn : ((k : Int) + 1).toNat = k + 1 := by omega
    have hp0 : (0 : Int) ≤ (k : Int) + 1 := by omega
    have hkl : (k : Int) + 1 < (n : Int) := by omega
    have hkl0 : (k : Int) < (n : Int) := by omega
    have hkl1 : (k : Int) < (n : Int) - 1 := by omega
    have hg := grew_refl W0
    clear hc hob hn ha0 ha1 hd hdep hin HDEP
    cases d
    all_goals
      go_enter Try.func82, Try.ntmps82
      go_wp2
      go_still_tail 20, (by kernel_rfl)
      change wpList _ _ _ _ _ W0.drew
      have HG := hid (grew_drew hg)
      generalize W0.drew = w2 at HG ⊢
      go_wp2_with (first
        | (go_at_call 74; (with_reducible refine (HD.out _ (grew_trans g0 HG.out)).mono ?_); rintro e w3 ⟨rfl, hx⟩; replace HG := hid (grew_trans HG.out hx); clear hx))
      go_ret
      exact ⟨rfl, grew_trans g0 HG.out⟩
  · rw [canM_false (by rw [hn]; exact hin)]
    obtain ⟨va, vc, rfl, hm, hc⟩ := hx
    rw [hn] at hm hc ⊢
    clear hc hn HDEP
    by_cases h0 : 0 ≤ i
    · have h1 : ¬ i < (n : Int) - 1 := fun h => hin ⟨h0, h⟩
      have hd1 : decide (i < (n : Int) - 1) = false := by simpa using h1
      clear hin
      go_enter Try.func82, Try.ntmps82
      go_wp2
      go_quiet (fail)
      go_wp2
      go_ret
      exact ⟨rfl, grew_drewN g0 _⟩
    · have hd1 : decide (0 ≤ i) = false := by simpa using h0
      clear hin
      go_enter Try.func82, Try.ntmps82
      go_wp2
      go_quiet (fail)
      go_wp2
      go_ret
      exact ⟨rfl, grew_drewN g0 _⟩

end Go.Proofs.Ytddnpooffcjhnaa
namespace Go.Proofs.Ytddnpooffcjhnaa
open Go.RowKit Go.Lin Go.Lin.Wv

theorem range_nth (x : List Int) (n : Nat) (hn : x.length = n) : (List.range n).map (fun i => Value.int .i64 (nth x i)) = x.map (.int .i64) := by
  subst hn
  apply List.ext_getElem?
  intro i
  by_cases h : i < x.length
  · simp [nth_lt h, h]
  · simp [h]

theorem clone_ints (v : Value) (n : Nat) (x : List Int) (w : World) (hn : x.length = n) (hl : n ≤ 1000000) (hv : IsInts Any w v x) :
    Calls Try.prog 80 #[v] w fun e w' => ∃ u, e = .returned u ∧ Seg w' w.heap.size 3 1 u n (x.map (.int .i64)) ∧ Grew w w' := by
  have := clone_any v n (fun i => .int .i64 (nth x i)) w hl (by rw [← hn]; exact hv) (fun _ => rfl)
  rw [range_nth x n hn] at this
  exact this

set_option maxHeartbeats 4000000 in
set_option maxRecDepth 20000 in
theorem exchanged83_any (wv : Value) (x : List Int) (n k : Nat) (w : World) (hn : x.length = n) (hlen : n ≤ 100000) (hk : k + 1 < n) (hx : IsInts Any w wv x) :
    Calls Try.prog 83 #[wv, .int .i64 (k : Int)] w fun e w' => ∃ u, e = .returned u ∧ Seg w' w.heap.size 3 1 u n ((swapM x k).map (.int .i64)) ∧ Grew w w' := by
  have hsrc := src_ints (hx.grew (grew_alloc (grew_refl w) (.cells #[] 3)))
  obtain ⟨va, vc, rfl, hm, hc⟩ := hx
  rw [hn] at hm hc hsrc ⊢
  obtain ⟨b, off, o, hva, hob, -, c0⟩ := hc k (by omega)
  subst hva
  obtain ⟨b', off', o', hva', -, -, c1⟩ := hc (k + 1) hk
  simp only [Option.some.injEq, Addr.mk.injEq, and_true] at hva'
  obtain ⟨rfl, rfl⟩ := hva'
  have hbl := lt_of_obj hob
  obtain ⟨a0, ha0⟩ : ∃ a, nth x k = a := ⟨_, rfl⟩
  obtain ⟨a1, ha1⟩ : ∃ a, nth x (k + 1) = a := ⟨_, rfl⟩
  simp only [ha0] at c0
  simp only [ha1] at c1
  obtain ⟨i0, hi, hz0, hz1, hz2⟩ := info_parts Try.info3
  have hseg : Seg (w.alloc (.cells #[] 3)) w.heap.size 3 1 (.slice (some ⟨w.heap.size, 0, none⟩) 0 0) 0 [] :=
    ⟨by simp, .inr ⟨w.heap.size, 0, 0, #[], rfl, Nat.le_refl _, heap_alloc_new w _, Nat.le_refl _, by unfold maxLen; omega, by simp, by simp⟩⟩
  have HSRC := hid hsrc; have HSEG := hid hseg; have HN := hid hn; have HA0 := hid ha0; have HA1 := hid ha1
  have hwr2 : IntKind.i64.wrap ((k : Int) + 1) = (k : Int) + 1 := IntWalk.i64_in _ (by omega)
  have htn : ((k : Int) + 1).toNat = k + 1 := by omega
  have hp0 : (0 : Int) ≤ (k : Int) + 1 := by omega
  have hkl : (k : Int) + 1 < (n : Int) := by omega
  have hkl0 : (k : Int) < (n : Int) := by omega
  clear hsrc hseg hc hob hn ha0 ha1
  go_enter Try.func83, Try.ntmps83
  go_wp2_with (at_builtin; refine wpList_append_seg rfl _ _ 25 25 rfl w.heap.size 3 i0 (.int .i64 0) 1 8 Try.underlying25 hi hz0 hz1 hz2 rfl _ 0 [] rfl HSEG.out _ rfl n _ HSRC.out (by unfold maxLen; omega) (by omega) ?_ ?_; simp; go_loud (
    intro v1 w1 hown1 hgrow1 hblk1
    have hg : Grew w w1 := ((grew_refl w).alloc (Nat.le_refl _) _).grown hgrow1 (by simp) (fun k e => by cases e; exact Nat.le_refl _)
    have HG := hid hg
    replace hown1 : Seg w1 w.heap.size 3 1 v1 n (x.map (.int .i64)) := by simpa using hown1
    obtain ⟨g, of, cap, cur, hv, hbg, hgc, -⟩ := hown1.cell k (by omega)
    have hk1 : k + 1 < x.length := by rw [HN.out]; exact hk
    have hsw := fun (m : Nat) => seg_swap (w := w1.drewN m) (by rw [HN.out]; exact hown1.drewN m) (by rw [HN.out]; exact hv) hk1
    rw [HN.out, HA0.out, HA1.out] at hsw
    have HSW := hid hsw
    have hz3 : w1.frozen? ⟨g, of + k, none⟩ = false := frozen_of_row _ _ _ _ _ hgc
    have hz4 : w1.frozen? ⟨g, of + (k + 1), none⟩ = false := frozen_of_row _ _ _ _ _ hgc
    have e0 := (hg.cell (p := ⟨b, off + k, none⟩) hbl).trans c0
    have e1 := (hg.cell (p := ⟨b, off + (k + 1), none⟩) hbl).trans c1
    have hbl1 := Nat.lt_of_lt_of_le hbl hg.size
    have hgl := lt_of_obj hgc
    have hs := Seg.cell hown1 k (by omega)
    have hs1 := Seg.cell hown1 (k + 1) (by omega)
    obtain ⟨g1, o1, cp1, cr1, hv1, -, -, f0⟩ := hs
    obtain ⟨g2, o2, cp2, cr2, hv2, -, -, f1⟩ := hs1
    rw [hv] at hv1 hv2
    simp only [Value.slice.injEq, Option.some.injEq, Addr.mk.injEq, and_true] at hv1 hv2
    obtain ⟨⟨rfl, rfl⟩, -, rfl⟩ := hv1
    obtain ⟨⟨rfl, rfl⟩, -, rfl⟩ := hv2
    have hk0 : k < x.length := by omega
    rw [List.getElem?_map, List.getElem?_eq_getElem hk0, Option.map_some, ← nth_lt hk0, HA0.out] at f0
    rw [List.getElem?_map, List.getElem?_eq_getElem hk1, Option.map_some, ← nth_lt hk1, HA1.out] at f1
    have HBG := hid hbg
    subst hv
    clear hg hown1 hgrow1 hblk1 hbg hgc hsw hk1 hk0))
  go_region_law (fail)
  all_goals (
    go_wp2
    go_ret
    exact ⟨_, rfl, by first | exact HSW.out _ | exact HSW.out 1 | exact HSW.out 0, HG.out.trans (((((Keeps.refl (fun q _ => q = g) w1).drewN _).trans (keeps_setB _ g _ _)).trans (keeps_setB _ g _ _)).below HG.out.size (fun q o e => by rw [e]; exact HBG.out))⟩)

end Go.Proofs.Ytddnpooffcjhnaa
namespace Go.Lin.Wv

def exchangedM (L : Lt) (x : List Int) (i : Int) : List Int × Int := if wrong L [x] = 0 then (if canM (dep L) x i then (swapM x i.toNat, 0) else ([], 2)) else ([], wrong L [x])

theorem exM_yes {D : Int → Int → Bool} {x : List Int} {i : Int} (h : canM D x i = true) : exM D x i = swapM x i.toNat := by unfold exM; rw [h]; rfl
theorem canM_pos {D : Int → Int → Bool} {x : List Int} {i : Int} (h : canM D x i = true) : ∃ k : Nat, i = k ∧ k + 1 < x.length := by
  by_cases hi : 0 ≤ i ∧ i < (x.length : Int) - 1
  · exact ⟨i.toNat, by omega, by omega⟩
  · rw [canM_false hi] at h; cases h

end Go.Lin.Wv
namespace Go.Proofs.Ytddnpooffcjhnaa
open Go.RowKit Go.Lin Go.Lin.Wv

theorem wd_seg {w : World} {base n : Nat} {v : Value} {y : List Int} (h : Seg w base 3 1 v n (y.map (.int .i64))) (hn : y.length = n) : IsWd w v y := by
  subst hn; exact IsWd.of_seg h

set_option maxHeartbeats 4000000 in
set_option maxRecDepth 20000 in
theorem exchanged39_any (v : Value) (L : Lt) (uv : Value) (x : List Int) (i : Int) (w : World) (hn : L.n ≤ 9223372036854775807) (hv : IsLt w v L) (hx : IsWd w uv x) :
    Calls Try.prog 39 #[v, uv, .int .i64 i] w fun e w' => Gives e w w' (exchangedM L x i) := by
  have HV := hid hv
  obtain ⟨s, rfl, -⟩ := hv
  obtain ⟨ua, uc, rfl⟩ := isWd_slice hx
  obtain ⟨W0, hW0, g0, k0, k1, hz⟩ := box2 w (.int .i64 L.n) s 24
  obtain ⟨W1, hW1⟩ : ∃ W1, W0.alloc (.cells #[.slice ua x.length uc] 25) = W1 := ⟨_, rfl⟩
  have g1 : Grew W0 W1 := by rw [← hW1]; exact grew_alloc (grew_refl _) _
  have g01 := grew_trans g0 g1
  obtain ⟨m, hm⟩ : ∃ m, x.length = m := ⟨_, rfl⟩
  have HM := hid hm
  have HXM := hid (show IsWd w (.slice ua m uc) x by rw [← hm]; exact hx)
  obtain ⟨r, hr⟩ : ∃ r, wrong L [x] = r := ⟨_, rfl⟩
  have HG01 := hid g01
  by_cases hr0 : r = 0
  · subst hr0
    obtain ⟨hv1, hw1⟩ := wrong_one hr
    have hok := newLoom_ok _ L _ [x] W1 hn (HV.out.grew g01) (by rw [← hW1]; exact rows_one (Reads.grew hx.ints g0) 25) hr
    have HOK := hid hok
    have HW1 := hid hw1
    have hem : exchangedM L x i = if canM (dep L) x i then (swapM x i.toNat, 0) else ([], 2) := by unfold exchangedM; rw [if_pos hr]
    have hl10 : x.length ≤ 10 := by unfold isW at hw1; simp at hw1; exact hw1.1
    have HE10 := hid hl10
    obtain ⟨c, hcan⟩ : ∃ c, canM (dep L) x i = c := ⟨_, rfl⟩
    rw [hcan] at hem
    have HEM := hid hem; have HC := hid hcan
    rw [hm] at hW1 ⊢
    clear hr hx hm hok hv1 hw1 hem hcan hl10
    cases c
    all_goals
      go_enter Try.func39, Try.ntmps39
      go_wp2_with (first
        | (go_at_call 60; (with_reducible refine HOK.out.mono ?_); rintro e w1 ⟨B, N, hN, hN1, hN6, rfl, hB, hL, hg1⟩; have HL := hid hL; have HN6 := hid hN6; have HG1 := hid (grew_trans HG01.out hg1); obtain ⟨hl1, hlw1⟩ := isW_iff hN HW1.out; have HLW := hid hlw1; clear hN hL hg1 hB hN1 hN6 hl1 hlw1)
        | (go_at_call 80; (with_reducible refine (clone_ints _ m x _ HM.out (by have := HE10.out; have := HM.out; omega) (HXM.out.grew HG1.out).ints).mono ?_); rintro e w2 ⟨u, rfl, hs2, hg2⟩; have HS2 := hid hs2; have HG2 := hid hg2; clear hs2 hg2)
        | (go_at_call 81; (with_reducible refine (exchange81_any (D := dep L) B N _ u x m i _ HM.out HN6.out (by have := HE10.out; have := HM.out; omega) HLW.out (HL.out.grew HG2.out) HG2.out.size HS2.out).mono ?_); rw [HC.out]; rintro e w3 ⟨rfl, hs3, hb3⟩; have HS3 := hid hs3; have HG3 := hid (HG2.out.trans hb3); clear hs3 hb3))
      go_ret2
    · exact ⟨_, by rw [HEM.out]; rfl, by rw [HEM.out]; exact wd_nil _, grew_trans HG1.out HG3.out⟩
    · exact ⟨_, by rw [HEM.out]; rfl, by rw [HEM.out]; have h3 := HS3.out; rw [exM_yes HC.out] at h3; exact wd_seg h3 ((swapM_length _ _).trans HM.out), grew_trans HG1.out HG3.out⟩
  · have hbad := newLoom_bad _ L _ [x] W1 hn (HV.out.grew g01) (by rw [← hW1]; exact rows_one (Reads.grew hx.ints g0) 25) (by rw [hr]; exact hr0)
    rw [hr] at hbad
    have hne : (r != 0) = true := by simpa using hr0
    have HEM := hid (show exchangedM L x i = ([], r) by unfold exchangedM; rw [hr, if_neg hr0])
    have HB := hid hbad
    rw [hm] at hW1 ⊢
    clear hr hx hm hbad hr0
    go_enter Try.func39, Try.ntmps39
    go_wp2_with (go_at_call 60; (with_reducible refine HB.out.mono ?_); rintro e w1 ⟨rfl, hg1⟩; have HG1 := hid (grew_trans HG01.out hg1); clear hg1)
    go_ret2
    exact ⟨_, by rw [HEM.out]; rfl, by rw [HEM.out]; exact wd_nil _, HG1.out⟩

set_option maxHeartbeats 4000000 in
set_option maxRecDepth 20000 in
theorem rExchanged40_any (v : Value) (L : Lt) (uv : Value) (x : List Int) (i : Int) (w : World) (hv : IsLt w v L) (hx : IsWd w uv x) :
    Calls Try.prog 40 #[v, uv, .int .i64 i] w fun e w' => Gives e w w' (exchangedM L x i) := by
  have HV := hid hv
  obtain ⟨s, hveq, -⟩ := id hv
  subst hveq
  obtain ⟨ua, uc, rfl⟩ := isWd_slice hx
  obtain ⟨W0, hW0, g0, k0, k1, hz⟩ := box2 w (.int .i64 L.n) s 24
  have hask := asked_any _ L _ (.slice none 0 0) x [] W0 (hv.grew g0) (hx.grew g0).ints (Reads.nil _ _ _ _ _)
  rw [wrong_nil] at hask
  obtain ⟨m, hm⟩ : ∃ m, x.length = m := ⟨_, rfl⟩
  have HM := hid hm
  have HXM := hid (show IsWd w (.slice ua m uc) x by rw [← hm]; exact hx)
  obtain ⟨r, hr⟩ : ∃ r, wrong L [x] = r := ⟨_, rfl⟩
  rw [hr, hm] at hask
  have HASK := hid hask
  have hg := grew_refl W0
  by_cases hr0 : r = 0
  · subst hr0
    obtain ⟨hv1, hw1⟩ := wrong_one hr
    have hem : exchangedM L x i = if canM (dep L) x i then (swapM x i.toNat, 0) else ([], 2) := by unfold exchangedM; rw [if_pos hr]
    have hl10 : x.length ≤ 10 := by unfold isW at hw1; simp at hw1; exact hw1.1
    have HE10 := hid hl10
    obtain ⟨c, hcan⟩ : ∃ c, canM (dep L) x i = c := ⟨_, rfl⟩
    rw [hcan] at hem
    have HEM := hid hem
    have hpos : c = true → ∃ k : Nat, i = k ∧ k + 1 < m := fun h => by rw [← hm]; exact canM_pos (hcan.trans h)
    have HC82 := hid (fun (W : World) (hW : Grew W0 W) => can82_any _ L (.slice ua m uc) x m i W hm (by omega) (hv.grew (grew_trans g0 hW)) (HXM.out.grew (grew_trans g0 hW)).ints)
    rw [hcan] at HC82
    rw [hm]
    clear hr hx hm hv1 hw1 hem hcan hl10 hask hv
    cases c
    · clear hpos
      go_enter Try.func40, Try.ntmps40
      go_wp2_with (first
        | (go_at_call 64; (with_reducible refine HASK.out.mono ?_); rintro e w1 ⟨rfl, hx⟩; replace hg := grew_trans hg hx; have hc := (bcell hg).1; clear hx)
        | (go_at_call 82; (with_reducible refine (HC82.out _ hg).mono ?_); rintro e w2 ⟨rfl, hx⟩; replace hg := grew_trans hg hx; clear hx))
      go_ret2
      exact ⟨_, by rw [HEM.out]; rfl, by rw [HEM.out]; exact wd_nil _, grew_trans g0 hg⟩
    · obtain ⟨k, rfl, hk⟩ := hpos rfl
      have HK := hid hk
      clear hpos
      go_enter Try.func40, Try.ntmps40
      go_wp2_with (first
        | (go_at_call 64; (with_reducible refine HASK.out.mono ?_); rintro e w1 ⟨rfl, hx⟩; replace hg := grew_trans hg hx; have hc := (bcell hg).1; clear hx)
        | (go_at_call 82; (with_reducible refine (HC82.out _ hg).mono ?_); rintro e w2 ⟨rfl, hx⟩; replace hg := grew_trans hg hx; clear hx)
        | (go_at_call 83; (with_reducible refine (exchanged83_any _ x m k _ HM.out (by have := HE10.out; have := HM.out; omega) HK.out (HXM.out.grew (grew_trans g0 hg)).ints).mono ?_); rintro e w3 ⟨u, rfl, hs3, hx⟩; replace hg := grew_trans hg hx; have HS3 := hid hs3; clear hx hs3))
      go_ret2
      exact ⟨_, by rw [HEM.out]; rfl, by rw [HEM.out]; exact wd_seg HS3.out ((swapM_length _ _).trans HM.out), grew_trans g0 hg⟩
  · have hne : (r != 0) = true := by simpa using hr0
    have HEM := hid (show exchangedM L x i = ([], r) by unfold exchangedM; rw [hr, if_neg hr0])
    rw [hm]
    clear hr hx hm hr0 hask hv
    go_enter Try.func40, Try.ntmps40
    go_wp2_with (go_at_call 64; (with_reducible refine HASK.out.mono ?_); rintro e w1 ⟨rfl, hx⟩; replace hg := grew_trans hg hx; clear hx)
    go_ret2
    exact ⟨_, by rw [HEM.out]; rfl, by rw [HEM.out]; exact wd_nil _, grew_trans g0 hg⟩

end Go.Proofs.Ytddnpooffcjhnaa
