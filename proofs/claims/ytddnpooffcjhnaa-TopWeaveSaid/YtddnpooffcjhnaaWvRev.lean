/- Walk: slices.Reverse (91), of a slice that the call owns. -/
import Derived.Test.YtddnpooffcjhnaaWvExchA
namespace Go.Lin.Wv
/-- The first i and the last i letters are turned round. -/
def RevTo (xs cur : List Int) (n i : Nat) : Prop := cur.length = n ∧ ∀ t, t < n → nth cur t = if t < i ∨ n ≤ t + i then nth xs (n - 1 - t) else nth xs t

theorem RevTo.step {xs cur : List Int} {n i l : Nat} (h : RevTo xs cur n i) (hil : i < l) (hl : l + i + 1 = n) : RevTo xs ((cur.set i (nth cur l)).set l (nth cur i)) n (i + 1) := by
  refine ⟨by simp [h.1], fun t ht => ?_⟩
  have hc : nth ((cur.set i (nth cur l)).set l (nth cur i)) t = if t = l then nth cur i else if t = i then nth cur l else nth cur t := by
    have hlen := h.1
    unfold nth
    simp only [List.getD, List.getElem?_set, List.length_set]
    by_cases h1 : l = t
    · subst h1; simp [show l < cur.length by omega]
    · by_cases h2 : i = t
      · subst h2; simp [h1, show i < cur.length by omega, show ¬ i = l by omega]
      · simp [h1, h2, show ¬ t = l by omega, show ¬ t = i by omega]
  rw [hc]
  by_cases h1 : t = l
  · subst h1
    rw [if_pos rfl, h.2 i (by omega), if_neg (by omega), if_pos (by omega), show n - 1 - t = i by omega]
  · rw [if_neg h1]
    by_cases h2 : t = i
    · subst h2
      rw [if_pos rfl, h.2 l (by omega), if_neg (by omega), if_pos (by omega), show n - 1 - t = l by omega]
    · rw [if_neg h2, h.2 t ht]
      by_cases h3 : t < i ∨ n ≤ t + i
      · rw [if_pos h3, if_pos (by omega)]
      · rw [if_neg h3, if_neg (by omega)]

theorem RevTo.done {xs cur : List Int} {n i : Nat} (h : RevTo xs cur n i) (hx : xs.length = n) (hi : n ≤ i + i + 1) : cur = xs.reverse := by
  refine ext_nth (by rw [h.1, List.length_reverse, hx]) (fun t ht => ?_)
  rw [h.1] at ht
  rw [h.2 t ht]
  have hr : nth xs.reverse t = nth xs (n - 1 - t) := by
    rw [nth_lt (by rw [List.length_reverse, hx]; exact ht), List.getElem_reverse, nth_lt (by omega)]
    simp only [hx]
  rw [hr]
  by_cases h3 : t < i ∨ n ≤ t + i
  · rw [if_pos h3]
  · rw [if_neg h3, show n - 1 - t = t by omega]
end Go.Lin.Wv
namespace Go.Proofs.Ytddnpooffcjhnaa
open Go.RowKit Go.Lin Go.Lin.Wv

set_option maxHeartbeats 4000000 in
set_option maxRecDepth 20000 in
theorem reverse91_any (base : Nat) (u : Value) (xs : List Int) (n : Nat) (w : World) (hn : xs.length = n) (hlen : n ≤ 1000) (hbase : base ≤ w.heap.size) (hS : Seg w base 3 1 u n (xs.map (.int .i64))) :
    Calls Try.prog 91 #[u] w fun e w' => e = .returned (.tuple #[]) ∧ Seg w' base 3 1 u n (xs.reverse.map (.int .i64)) ∧ Keeps (fun q _ => u.ownBlock = some q) w w' := by
  obtain ⟨ua, uc, rfl, -⟩ := hS.shape
  have HS := hid hS; have HN := hid hn
  have hwr : IntKind.i64.wrap ((n : Int) - 1) = (n : Int) - 1 := IntWalk.i64_in _ (by omega)
  have HB := hid hbase
  clear hS hn hbase
  go_enter Try.func91, Try.ntmps91
  go_wp2
  go_loopg [2, 3] n (fun gk i j wr => ∃ (k : Nat) (z : Int) (cur : List Int), k ≤ n ∧ i = .int .i64 k ∧ j = .int .i64 z ∧ Hid (gk = n - k) ∧ Hid (z = (n : Int) - 1 - k) ∧ Hid (RevTo xs cur n k) ∧ Hid (Seg wr base 3 1 (.slice ua n uc) n (cur.map (.int .i64))) ∧ Hid (Keeps (fun q _ => (Value.slice ua n uc).ownBlock = some q) w wr))
  case atStart => exact ⟨0, (n : Int) - 1, xs, Nat.zero_le _, rfl, rfl, hid rfl, hid (by omega), hid ⟨HN.out, fun t ht => by rw [if_neg (by omega)]⟩, HS, hid (Keeps.refl _ _)⟩
  case round =>
    obtain ⟨k, z, cur, hk, rfl, rfl, HG, HZ, HR, HSG, HK⟩ := hrel
    rename World => wr
    have hz := HZ.out
    by_cases hlt : (k : Int) < z
    · obtain ⟨l, rfl⟩ : ∃ l : Nat, z = l := ⟨z.toNat, by omega⟩
      have hkl : k < l := by omega
      have hln : l < n := by omega
      obtain ⟨g, off, cap, obj, hv, hbg, hgc, c0⟩ := HSG.out.cell k (by omega)
      obtain ⟨g', off', cap', obj', hv', -, -, c1⟩ := HSG.out.cell l (by omega)
      rw [hv] at hv'
      simp only [Value.slice.injEq, Option.some.injEq, Addr.mk.injEq, and_true] at hv'
      obtain ⟨⟨rfl, rfl⟩, -, rfl⟩ := hv'
      simp only [Value.slice.injEq, true_and] at hv
      obtain ⟨rfl, rfl⟩ := hv
      have hlk : k < cur.length := by rw [HR.out.1]; omega
      have hll : l < cur.length := by rw [HR.out.1]; omega
      rw [List.getElem?_map, List.getElem?_eq_getElem hlk, Option.map_some, ← nth_lt hlk] at c0
      rw [List.getElem?_map, List.getElem?_eq_getElem hll, Option.map_some, ← nth_lt hll] at c1
      have hz1 : wr.frozen? ⟨g, off + k, none⟩ = false := frozen_of_row _ _ _ _ _ hgc
      have hz2 : wr.frozen? ⟨g, off + l, none⟩ = false := frozen_of_row _ _ _ _ _ hgc
      have hgl := lt_of_obj hgc
      obtain ⟨a, ha⟩ : ∃ a, nth cur k = a := ⟨_, rfl⟩
      obtain ⟨b, hb⟩ : ∃ b, nth cur l = b := ⟨_, rfl⟩
      rw [ha] at c0; rw [hb] at c1
      have hst := HR.out.step hkl (by omega : l + k + 1 = n)
      rw [ha, hb] at hst
      have hsw := fun (m : Nat) => Seg.set (Seg.set (HSG.out.drewN m) rfl (by omega : k < n) (.int .i64 b)) rfl hln (.int .i64 a)
      rw [show ((cur.map (Value.int .i64)).set k (.int .i64 b)).set l (.int .i64 a) = ((cur.set k b).set l a).map (.int .i64) by rw [List.map_set, List.map_set]] at hsw
      have HSW := hid hsw; have HST := hid hst
      have hwl : IntKind.i64.wrap ((l : Int) - 1) = (l : Int) - 1 := IntWalk.i64_in _ (by omega)
      have hkn : (k : Int) < (n : Int) := by omega
      have hlni : (l : Int) < (n : Int) := by omega
      clear hbg hgc hlk hll ha hb hst hsw hz
      go_wp2
      go_region_law (fail)
      all_goals (
        go_wp2
        go_roundg (n - (k + 1))
        case measure => have := HG.out; omega
        case rel => exact ⟨k + 1, (l : Int) - 1, _, by omega, by go_num, rfl, hid rfl, hid (by have := HZ.out; omega), HST, hid (HSW.out _), hid (((HK.out.drewN _).trans (keeps_setB _ g _ _ |>.mono (fun q _ e => by rw [e]; rfl))).trans (keeps_setB _ g _ _ |>.mono (fun q _ e => by rw [e]; rfl)))⟩)
    · go_wp2
      have hf := HR.out.done HN.out (by omega)
      go_end0
      subst hf
      exact ⟨rfl, by have h := HSG.out; rw [List.map_reverse] at h; exact h, HK.out⟩

end Go.Proofs.Ytddnpooffcjhnaa
