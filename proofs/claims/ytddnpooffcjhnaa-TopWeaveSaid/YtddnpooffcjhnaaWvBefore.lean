/- Walk: before (51): which word comes first. -/
import Derived.Test.YtddnpooffcjhnaaWvLayP
namespace Go.Lin.Wv
theorem befW_drop : ∀ (i : Nat) (x y : List Int), x.take i = y.take i → i ≤ x.length → i ≤ y.length → befW x y = befW (x.drop i) (y.drop i)
  | 0, _, _, _, _, _ => rfl
  | i + 1, [], _, _, h, _ => by simp at h
  | i + 1, _ :: _, [], _, _, h => by simp at h
  | i + 1, a :: x, b :: y, h, h1, h2 => by
    simp only [List.take_succ_cons, List.cons.injEq] at h
    simp only [List.drop_succ_cons]
    rw [← befW_drop i x y h.2 (by simpa using h1) (by simpa using h2)]
    rw [befW, if_pos h.1]

theorem befW_end {x y : List Int} (h : x = [] ∨ y = []) : befW x y = decide (x.length < y.length) := by
  rcases h with rfl | rfl
  · cases y <;> simp [befW]
  · cases x <;> simp [befW]
end Go.Lin.Wv
namespace Go.Proofs.Ytddnpooffcjhnaa
open Go.RowKit Go.Lin Go.Lin.Wv

set_option maxHeartbeats 4000000 in
set_option maxRecDepth 20000 in
theorem before51_any (av bv : Value) (x y : List Int) (w : World) (hx : IsWd w av x) (hy : IsWd w bv y) (hlx : x.length ≤ 1000) (hly : y.length ≤ 1000) :
    Calls Try.prog 51 #[av, bv] w fun e w' => e = .returned (.bool (befW x y)) ∧ Grew w w' := by
  obtain ⟨xa, xc, rfl⟩ := isWd_slice hx
  obtain ⟨ya, yc, rfl⟩ := isWd_slice hy
  obtain ⟨r, hr⟩ : ∃ r, befW x y = r := ⟨_, rfl⟩
  rw [hr]
  have HR := hid hr
  obtain ⟨m, hm⟩ : ∃ m, x.length = m := ⟨_, rfl⟩
  obtain ⟨n, hn⟩ : ∃ n, y.length = n := ⟨_, rfl⟩
  have HM := hid hm; have HN := hid hn
  rw [hm] at hx hlx ⊢; rw [hn] at hy hly ⊢
  have HX := hid hx; have HY := hid hy
  clear hr hm hn hx hy
  go_enter Try.func51, Try.ntmps51
  go_wp2
  go_loopg [5] m (fun gk i wr => ∃ j : Nat, j ≤ m ∧ j ≤ n ∧ i = .int .i64 (j : Int) ∧ Hid (gk = m - j) ∧ Hid (x.take j = y.take j) ∧ Hid (Grew w wr))
  case atStart => exact ⟨0, by omega, by omega, rfl, hid rfl, hid rfl, hid (grew_refl w)⟩
  case round =>
    obtain ⟨j, hjm, hjn, rfl, HGK, HT, HG⟩ := hrel
    rename World => wr
    have hbe := befW_drop j x y HT.out (by rw [HM.out]; exact hjm) (by rw [HN.out]; exact hjn)
    rw [HR.out] at hbe
    by_cases h1 : j < m
    · by_cases h2 : j < n
      · have hji : (j : Int) < (m : Int) := by omega
        have hji2 : (j : Int) < (n : Int) := by omega
        have hd1 : decide ((j : Int) < (m : Int)) = true := by rw [decide_eq_true_iff]; exact hji
        have hd2 : decide ((j : Int) < (n : Int)) = true := by rw [decide_eq_true_iff]; exact hji2
        obtain ⟨b1, o1, ob1, rfl, hb1, c1⟩ := wd_cell HX.out j h1
        obtain ⟨b2, o2, ob2, rfl, hb2, c2⟩ := wd_cell HY.out j h2
        have l1 := lt_of_obj hb1; have l2 := lt_of_obj hb2
        have d1 := (HG.out.cell (p := ⟨b1, o1 + j, none⟩) l1).trans c1
        have d2 := (HG.out.cell (p := ⟨b2, o2 + j, none⟩) l2).trans c2
        have m1 := Nat.lt_of_lt_of_le l1 HG.out.size
        have m2 := Nat.lt_of_lt_of_le l2 HG.out.size
        obtain ⟨a, ha⟩ : ∃ a, nth x j = a := ⟨_, rfl⟩
        obtain ⟨b, hb⟩ : ∃ b, nth y j = b := ⟨_, rfl⟩
        have hst : r = if a = b then befW (x.drop (j + 1)) (y.drop (j + 1)) else decide (a < b) := by
          have e1 : x.drop j = a :: x.drop (j + 1) := (List.drop_eq_getElem_cons (by rw [HM.out]; exact h1)).trans (by rw [← nth_lt (by rw [HM.out]; exact h1), ha])
          have e2 : y.drop j = b :: y.drop (j + 1) := (List.drop_eq_getElem_cons (by rw [HN.out]; exact h2)).trans (by rw [← nth_lt (by rw [HN.out]; exact h2), hb])
          rw [hbe, e1, e2]
          rfl
        rw [ha] at d1; rw [hb] at d2
        by_cases hab : a = b
        · subst hab
          have hne : (a != a) = false := by simp
          have HTN := hid (take_eq_succ HT.out (by rw [HM.out]; exact h1) (by rw [HN.out]; exact h2) (ha.trans hb.symm))
          have HG' := HG.out
          clear hst hb1 hb2 c1 c2 ha hb hbe HT
          go_wp2
          go_quiet (fail)
          go_wp2
          go_roundg (m - (j + 1))
          case measure => have := HGK.out; omega
          case rel => exact ⟨j + 1, by omega, by omega, by go_num, hid rfl, HTN, hid (grew_drewN HG' _)⟩
        · have hne : (a != b) = true := by simpa using hab
          rw [if_neg hab] at hst
          have HST := hid hst
          have HG' := HG.out
          clear hst hb1 hb2 c1 c2 ha hb hbe HT hab
          go_wp2
          go_quiet (fail)
          go_wp2
          go_quiet (fail)
          go_wp2
          go_ret
          exact ⟨by rw [HST.out]; rfl, grew_drewN (grew_drewN HG' _) _⟩
      · obtain rfl : j = n := by omega
        have hd1 : decide ((j : Int) < (m : Int)) = true := by rw [decide_eq_true_iff]; omega
        have hd3 : decide ((m : Int) < (j : Int)) = false := by rw [decide_eq_false_iff_not]; omega
        have hji : (j : Int) < (m : Int) := by omega
        have hmj : ¬ (m : Int) < (j : Int) := by omega
        have hre : r = false := by
          rw [hbe, befW_end (.inr (List.drop_eq_nil_of_le (by rw [HN.out]; exact Nat.le_refl _))), decide_eq_false_iff_not, List.length_drop, List.length_drop, HM.out, HN.out]; omega
        subst hre
        have HG' := HG.out
        clear hbe HT
        go_wp2
        go_ret
        exact ⟨by first | rfl | simp [hd3], HG'⟩
    · obtain rfl : j = m := by omega
      have hre : r = decide ((j : Int) < (n : Int)) := by
        rw [hbe, befW_end (.inl (List.drop_eq_nil_of_le (by rw [HM.out]; exact Nat.le_refl _))), List.length_drop, List.length_drop, HM.out, HN.out]
        exact decide_eq_decide.2 (by omega)
      have HRE := hid hre
      have HG' := HG.out
      clear hre hbe HT
      by_cases h3 : j < n
      · have hji : (j : Int) < (n : Int) := by omega
        go_wp2
        go_ret
        exact ⟨by rw [HRE.out]; simp [hji], HG'⟩
      · have hji : ¬ (j : Int) < (n : Int) := by omega
        go_wp2
        go_ret
        exact ⟨by rw [HRE.out]; simp; omega, HG'⟩
end Go.Proofs.Ytddnpooffcjhnaa
