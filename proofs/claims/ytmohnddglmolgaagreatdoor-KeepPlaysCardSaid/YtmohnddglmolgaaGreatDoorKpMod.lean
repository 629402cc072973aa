/- Walk: the book's modulo (113). -/
import Derived.Test.YtmohnddglmolgaaGreatDoorKpAonA
namespace Go.Proofs.YtmohnddglmolgaaGreatDoor
open Go Go.RowKit Go.Lin Go.Lin.Kp

theorem nth_map {l : List Int} {f : Int → Int} {i : Nat} (h : i < l.length) : nth (l.map f) i = f (nth l i) := by
  rw [nth_lt (by rw [List.length_map]; exact h), List.getElem_map, nth_lt h]

set_option maxHeartbeats 2000000 in
set_option maxRecDepth 20000 in
theorem modulo113_any (bb bm : Nat) (b : Bk) (G : Nat → Prop) (k : Int) (w : World) (h : IsBook w bb bm b G) (hb : BkOk b) (hk : 1 ≤ k ∧ k ≤ 10) :
    Calls Tryz.prog 113 #[ptr bb, .int .i64 k] w fun e w' => ∃ u, e = .returned u ∧ Seg w' w.heap.size 3 1 u b.list.length ((b.list.map (· % k)).map (.int .i64)) ∧ Grew w w' := by
  have HEN := hid (entries19_any bb bm b G w h (by have := hb.1; omega))
  have hx : ∀ i, i < b.list.length → 0 ≤ nth b.list i ∧ nth b.list i ≤ 999 := fun i hi => by
    have := hb.2 (nth b.list i) (by rw [nth_lt hi]; exact List.getElem_mem hi)
    exact isNum_iff.1 this
  obtain ⟨l, hl⟩ : ∃ l, b.list = l := ⟨_, rfl⟩
  have hl20 := hb.1
  rw [hl] at HEN hx hl20 ⊢
  obtain ⟨n, hn⟩ : ∃ n, l.length = n := ⟨_, rfl⟩
  rw [hn] at HEN hx hl20 ⊢
  have HN := hid hn; have HX := hid hx
  clear hn hx hl h hb
  have hk0 : (k == 0) = false := by rw [beq_eq_false_iff_ne]; omega
  go_enter Tryz.func113, Tryz.ntmps113
  go_wp2_with (go_at_call 19; (with_reducible refine HEN.out.mono ?_); rintro e w1 ⟨u, rfl, hs, hg⟩; obtain ⟨ua, uc, rfl, _⟩ := hs.shape; have HS := hid hs; have HG := hid hg; clear hs hg)
  go_loopg [6, 11] n (fun gk _ iv wr => ∃ (j : Nat) (xs : List Int), j ≤ n ∧ iv = .int .i64 (j : Int) ∧ Hid (gk = n - j) ∧ Hid (xs.length = n) ∧ Hid (∀ t, t < n → nth xs t = if t < j then nth l t % k else nth l t) ∧ Hid (Grew w wr) ∧ Hid (Seg wr w.heap.size 3 1 (.slice ua n uc) n (xs.map (.int .i64))))
  case atStart => exact ⟨0, l, Nat.zero_le _, rfl, hid rfl, HN, hid (fun t ht => by rw [if_neg (by omega)]), HG, HS⟩
  case round =>
    obtain ⟨j, xs, hj, rfl, HGK, HXL, HXS, HGR, HSR⟩ := hrel
    rename World => wr
    by_cases hlt : j < n
    · obtain ⟨g, off, cap, cur, hv, hgb, hgo, hnc, hcm, hat⟩ := HSR.out.at (by omega)
      simp only [Value.slice.injEq] at hv
      obtain ⟨rfl, -, rfl⟩ := hv
      have hc := hat j (by omega)
      rw [List.getElem?_map, List.getElem?_eq_getElem (by rw [HXL.out]; exact hlt)] at hc
      simp only [Option.map_some] at hc
      have hxj : xs[j]'(by rw [HXL.out]; exact hlt) = nth l j := by
        have := HXS.out j hlt
        rw [if_neg (by omega), nth_lt (by rw [HXL.out]; exact hlt)] at this; exact this
      rw [hxj] at hc
      obtain ⟨y, hy⟩ : ∃ y, nth l j = y := ⟨_, rfl⟩
      have hyb := HX.out j hlt
      rw [hy] at hc hyb
      have hf := frozen_of_row wr g (off + j) _ _ hgo
      have hmod : y.tmod k = y % k := Int.tmod_eq_emod_of_nonneg hyb.1
      have HY := hid hy; have HGB := hid hgb
      clear hat hxj hy hgo hgb
      go_wp2
      go_roundg (n - (j + 1))
      case measure => have := HGK.out; omega
      case rel =>
        refine ⟨j + 1, xs.set j (y % k), by omega, by go_num, hid rfl, hid (by rw [List.length_set]; exact HXL.out), hid (fun t ht => ?_), hid (grew_setB HGR.out HGB.out _ _), hid (by rw [List.map_set]; exact Seg.set HSR.out rfl hlt _)⟩
        have := HXS.out t ht
        rw [nth_set (by rw [HXL.out]; exact ht)]
        by_cases e : t = j
        · subst e; rw [if_pos rfl, if_pos (by omega), HY.out]
        · rw [if_neg e, this]
          by_cases h1 : t < j
          · rw [if_pos h1, if_pos (by omega)]
          · rw [if_neg h1, if_neg (by omega)]
    · obtain rfl : j = n := by omega
      have he : xs = l.map (· % k) := ext_nth (by rw [HXL.out, List.length_map, HN.out]) fun i hi => by
        rw [HXL.out] at hi
        rw [HXS.out i hi, if_pos hi, nth_map (by rw [HN.out]; exact hi)]
      have HS2 := hid (he ▸ HSR.out)
      clear he
      go_wp2
      go_ret
      exact ⟨_, rfl, HS2.out, HGR.out⟩

end Go.Proofs.YtmohnddglmolgaaGreatDoor
