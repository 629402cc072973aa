/- Walk: exchange, of the program's loom (81). -/
import Derived.Test.YtddnpooffcjhnaaWvSwap
import Derived.Deep.QuietTactic
import Derived.BigQuiet
namespace Go.Proofs.Ytddnpooffcjhnaa
open Go.RowKit Go.Lin Go.Lin.Wv

set_option maxHeartbeats 1000000 in
/-- between leaves the world alone. -/
theorem between_same (l n h : Int) (w : World) : Calls Try.prog 61 #[.int .i64 l, .int .i64 n, .int .i64 h] w fun e w' => e = .returned (.bool (decide (l ≤ n) && decide (n ≤ h))) ∧ w' = w := by
  obtain ⟨p, hp⟩ : ∃ p, decide (l ≤ n) = p := ⟨_, rfl⟩
  obtain ⟨q, hq⟩ : ∃ q, decide (n ≤ h) = q := ⟨_, rfl⟩
  rw [hp, hq]
  cases p <;> cases q
  all_goals (
    go_enter Try.func61, Try.ntmps61
    go_wp2
    go_ret
    exact ⟨rfl, rfl⟩)

set_option maxHeartbeats 4000000 in
set_option maxRecDepth 20000 in
theorem exchange81_any {D : Int → Int → Bool} (B N base : Nat) (u : Value) (x : List Int) (n : Nat) (i : Int) (w : World) (hn : x.length = n) (hN : N ≤ 6) (hlen : n ≤ 1000) (hw : ∀ z ∈ x, 0 ≤ z ∧ z < (N : Int)) (hL : Loom w B D N) (hbase : base ≤ w.heap.size) (hS : Seg w base 3 1 u n (x.map (.int .i64))) :
    Calls Try.prog 81 #[.pointer (some ⟨B, 0, none⟩), u, .int .i64 i] w fun e w' => e = .returned (.bool (canM D x i)) ∧ Seg w' base 3 1 u n ((exM D x i).map (.int .i64)) ∧ Below base w w' := by
  have hwr : IntKind.i64.wrap ((n : Int) - 2) = (n : Int) - 2 := IntWalk.i64_in _ (by omega)
  obtain ⟨ua, uc, hu, -⟩ := hS.shape
  obtain ⟨q, hq⟩ : ∃ q, (decide (0 ≤ i) && decide (i ≤ (n : Int) - 2)) = q := ⟨_, rfl⟩
  have hbt := fun (y : World) => between_same 0 i ((n : Int) - 2) y
  rw [hq] at hbt
  have HBT := hid hbt
  have HSG := hid hS
  cases q with
  | false =>
    have hcan : canM D x i = false := by unfold canM; rw [hn, hq]; rfl
    have hex : exM D x i = x := by unfold exM; rw [hcan]; rfl
    have HC := hid hcan; have HE := hid hex
    subst hu
    clear hq hbt hS hcan hex hn hL
    go_enter Try.func81, Try.ntmps81
    go_wp2
    go_quiet ((go_at_call 61; exact Calls.quiet_of_same (HBT.out _)))
    all_goals (
      go_wp2
      go_ret
      exact ⟨by rw [HC.out]; rfl, by rw [HE.out]; exact HSG.out.grew (grew_drewN (grew_refl w) _), below_drewN (Below.refl _ _) _⟩)
  | true =>
    obtain ⟨k, rfl, hk⟩ : ∃ k : Nat, i = k ∧ k + 1 < n := by simp at hq; exact ⟨i.toNat, by omega, by omega⟩
    obtain ⟨g, off, cap, cur, hv, hbg, hgc, c0⟩ := hS.cell k (by omega)
    obtain ⟨g', off', cap', cur', hv', -, -, c1⟩ := hS.cell (k + 1) (by omega)
    rw [hv] at hv'
    simp only [Value.slice.injEq, Option.some.injEq, Addr.mk.injEq, and_true] at hv'
    obtain ⟨⟨rfl, rfl⟩, -, rfl⟩ := hv'
    have hk0 : k < x.length := by omega
    have hk1 : k + 1 < x.length := by omega
    rw [List.getElem?_map, List.getElem?_eq_getElem hk0, Option.map_some, ← nth_lt hk0] at c0
    rw [List.getElem?_map, List.getElem?_eq_getElem hk1, Option.map_some, ← nth_lt hk1] at c1
    have z0 := hw (nth x k) (by rw [nth_lt hk0]; exact List.getElem_mem _)
    have z1 := hw (nth x (k + 1)) (by rw [nth_lt hk1]; exact List.getElem_mem _)
    obtain ⟨a, ha⟩ : ∃ a : Nat, nth x k = a := ⟨(nth x k).toNat, by omega⟩
    obtain ⟨b, hb⟩ : ∃ b : Nat, nth x (k + 1) = b := ⟨(nth x (k + 1)).toNat, by omega⟩
    rw [ha] at c0 z0; rw [hb] at c1 z1
    have ha6 : a < 6 := by omega
    have hb6 : b < 6 := by omega
    obtain ⟨d, hd⟩ : ∃ d, D (a : Int) (b : Int) = d := ⟨_, rfl⟩
    have hdc := hL.cs a b (by omega) (by omega)
    rw [hd] at hdc
    have hcan : canM D x k = !d := by unfold canM; rw [hn, hq, Int.toNat_natCast, ha, hb, hd]; rfl
    have hgl := lt_of_obj hgc
    have hBl := hL.lt
    have hz : w.frozen? ⟨g, off + k, none⟩ = false := frozen_of_row _ _ _ _ _ hgc
    have hz1 : w.frozen? ⟨g, off + (k + 1), none⟩ = false := frozen_of_row _ _ _ _ _ hgc
    have hsw := fun (m : Nat) => seg_swap (w := w.drewN m) (by rw [hn]; exact hS.drewN m) (by rw [hn]; exact hv) hk1
    rw [hn, ha, hb] at hsw
    have HSW := hid hsw
    have HCA := hid hcan; have HA := hid ha; have HB' := hid hb
    have hwr2 : IntKind.i64.wrap ((k : Int) + 1) = (k : Int) + 1 := IntWalk.i64_in _ (by omega)
    have htn : ((k : Int) + 1).toNat = k + 1 := by omega
    have hp0 : (0 : Int) ≤ (k : Int) + 1 := by omega
    have hkl : (k : Int) + 1 < (n : Int) := by omega
    have hkl0 : (k : Int) < (n : Int) := by omega
    have hbase' := hid hbase
    have hbg' := hid hbg
    subst hv
    have HN := hid hn
    clear hk0 hk1 hsw hn hq hbt hS hcan hL hgc hw ha hb hd z0 z1 hu hbg hbase
    cases d
    · go_enter Try.func81, Try.ntmps81
      go_wp2
      go_quiet ((go_at_call 61; exact Calls.quiet_of_same (HBT.out _)))
      all_goals (
        go_wp2
        go_region_law (fail)
        all_goals (
          go_wp2
          go_ret
          exact ⟨by rw [HCA.out]; rfl, by rw [show exM D x (k : Int) = swapM x k by unfold exM; rw [HCA.out, Int.toNat_natCast]; rfl]; exact HSW.out _, ((((Keeps.refl (fun q _ => q = g) w).drewN _).trans (keeps_setB _ g _ _)).trans (keeps_setB _ g _ _)).below hbase'.out (fun q o e => by rw [e]; exact hbg'.out)⟩))
    · go_enter Try.func81, Try.ntmps81
      go_wp2
      go_quiet ((go_at_call 61; exact Calls.quiet_of_same (HBT.out _)))
      all_goals (
        go_wp2
        go_ret
        exact ⟨by rw [HCA.out]; rfl, by rw [show exM D x (k : Int) = x by unfold exM; rw [HCA.out]; rfl]; exact HSG.out.grew (grew_drewN (grew_refl w) _), below_drewN (Below.refl _ _) _⟩)

end Go.Proofs.Ytddnpooffcjhnaa
