/- Walks: SameInts (24), SameTexts (15). -/
import Derived.Test.YtmohnddglmolgaaGreatDoorKpPlay
namespace Go.Proofs.YtmohnddglmolgaaGreatDoor
open Go Go.RowKit Go.Lin Go.Lin.Kp

theorem take_succ_eq {α : Type} {l m : List α} {j : Nat} (h : l.take j = m.take j) (h2 : l[j]? = m[j]?) : l.take (j + 1) = m.take (j + 1) := by
  rw [List.take_add_one, List.take_add_one, h, h2]

set_option maxHeartbeats 2000000 in
theorem same24_any (v v' : Value) (l m : List Int) (w : World) (hv : IsInts Any w v l) (hv' : IsInts Any w v' m) :
    Calls Tryz.prog 24 #[v, v'] w fun e w' => e = .returned (.bool (l == m)) ∧ Grew w w' := by
  obtain ⟨a, cap, rfl, hm, hc⟩ := hv
  obtain ⟨a', cap', rfl, hm', hc'⟩ := hv'
  have HC := hid hc; clear hc
  have HC' := hid hc'; clear hc'
  obtain ⟨r, hr⟩ : ∃ r, (l == m) = r := ⟨_, rfl⟩
  rw [hr]
  have HR := hid hr; clear hr
  obtain ⟨n, hn⟩ : ∃ n, l.length = n := ⟨_, rfl⟩
  obtain ⟨n', hn'⟩ : ∃ n, m.length = n := ⟨_, rfl⟩
  rw [hn] at hm HC ⊢
  rw [hn'] at hm' HC' ⊢
  have HN := hid hn
  have HN' := hid hn'
  by_cases hne : n = n'
  · subst hne
    clear hn hn'
    have hg := grew_refl w
    go_enter Tryz.func24, Tryz.ntmps24
    go_wp2
    go_loopg [5] n (fun k i wr => ∃ j : Nat, j ≤ n ∧ i = .int .i64 j ∧ k = n - j ∧ Hid (l.take j = m.take j) ∧ Grew w wr)
    case atStart => exact ⟨0, by omega, rfl, rfl, hid (by simp), hg⟩
    case round =>
      clear hg
      obtain ⟨j, hj, rfl, hk, HT, hg⟩ := hrel
      have HK := hid hk; clear hk
      by_cases hlt : j < n
      · obtain ⟨b1, off1, o1, rfl, hb1, _, hcj1⟩ := HC.out j hlt
        obtain ⟨b2, off2, o2, rfl, hb2, _, hcj2⟩ := HC'.out j hlt
        have hbl1 := lt_of_obj hb1
        have hbl2 := lt_of_obj hb2
        have d1 := (hg.cell (p := ⟨b1, off1 + j, none⟩) hbl1).trans hcj1
        have d2 := (hg.cell (p := ⟨b2, off2 + j, none⟩) hbl2).trans hcj2
        clear hb1 hb2 hcj1 hcj2
        by_cases he : nth l j = nth m j
        · have hd : (nth l j != nth m j) = false := by simp [he]
          have HE := hid he; clear he
          go_wp2
          go_quiet (fail)
          go_wp2
          go_roundg (n - (j + 1))
          case measure => have := HK.out; omega
          case rel => exact ⟨j + 1, by omega, by go_num, rfl, hid (take_succ_eq HT.out (by
            have h1 : j < l.length := by rw [HN.out]; exact hlt
            have h2 : j < m.length := by rw [HN'.out]; exact hlt
            have := HE.out
            rw [nth_lt h1, nth_lt h2] at this
            rw [List.getElem?_eq_getElem h1, List.getElem?_eq_getElem h2, this])), grew_drewN hg _⟩
        · have hd : (nth l j != nth m j) = true := by simpa using he
          have HE := hid he; clear he
          go_wp2
          go_quiet (fail)
          go_wp2
          go_ret
          refine ⟨ret_bool (Eq.trans ?_ HR.out), grew_drewN hg _⟩
          symm
          rw [beq_eq_false_iff_ne]
          rintro rfl
          exact HE.out rfl
      · obtain rfl : j = n := by omega
        go_wp2
        go_ret
        refine ⟨ret_bool (Eq.trans ?_ HR.out), hg⟩
        have h1 := HT.out
        rw [List.take_of_length_le (by rw [HN.out]; omega), List.take_of_length_le (by rw [HN'.out]; omega)] at h1
        rw [h1]; simp
  · have hd : ((n : Int) != (n' : Int)) = true := by simp; omega
    have HNE := hid hne
    clear hne hn hn'
    go_enter Tryz.func24, Tryz.ntmps24
    go_wp2
    go_ret
    refine ⟨ret_bool (Eq.trans ?_ HR.out), grew_refl _⟩
    symm
    rw [beq_eq_false_iff_ne]
    rintro rfl
    exact HNE.out (HN.out.symm.trans HN'.out)

set_option maxHeartbeats 2000000 in
theorem same15_any (v v' : Value) (l m : List ByteArray) (w : World) (hv : IsWds Any w v l) (hv' : IsWds Any w v' m) :
    Calls Tryz.prog 15 #[v, v'] w fun e w' => e = .returned (.bool (decide (l = m))) ∧ Grew w w' := by
  obtain ⟨a, cap, rfl, hm, hc⟩ := hv
  obtain ⟨a', cap', rfl, hm', hc'⟩ := hv'
  have HC := hid hc; clear hc
  have HC' := hid hc'; clear hc'
  obtain ⟨r, hr⟩ : ∃ r, (decide (l = m)) = r := ⟨_, rfl⟩
  rw [hr]
  have HR := hid hr; clear hr
  obtain ⟨n, hn⟩ : ∃ n, l.length = n := ⟨_, rfl⟩
  obtain ⟨n', hn'⟩ : ∃ n, m.length = n := ⟨_, rfl⟩
  rw [hn] at hm HC ⊢
  rw [hn'] at hm' HC' ⊢
  have HN := hid hn
  have HN' := hid hn'
  by_cases hne : n = n'
  · subst hne
    clear hn hn'
    have hg := grew_refl w
    go_enter Tryz.func15, Tryz.ntmps15
    go_wp2
    go_loopg [5] n (fun k i wr => ∃ j : Nat, j ≤ n ∧ i = .int .i64 j ∧ k = n - j ∧ Hid (l.take j = m.take j) ∧ Grew w wr)
    case atStart => exact ⟨0, by omega, rfl, rfl, hid (by simp), hg⟩
    case round =>
      clear hg
      obtain ⟨j, hj, rfl, hk, HT, hg⟩ := hrel
      have HK := hid hk; clear hk
      by_cases hlt : j < n
      · obtain ⟨b1, off1, o1, rfl, hb1, _, hcj1⟩ := HC.out j hlt
        obtain ⟨b2, off2, o2, rfl, hb2, _, hcj2⟩ := HC'.out j hlt
        have hbl1 := lt_of_obj hb1
        have hbl2 := lt_of_obj hb2
        have h1 : j < l.length := by rw [HN.out]; exact hlt
        have h2 : j < m.length := by rw [HN'.out]; exact hlt
        have d1 := (hg.cell (p := ⟨b1, off1 + j, none⟩) hbl1).trans (line_cell h1 hcj1)
        have d2 := (hg.cell (p := ⟨b2, off2 + j, none⟩) hbl2).trans (line_cell h2 hcj2)
        obtain ⟨x, hx⟩ : ∃ x, l[j] = x := ⟨_, rfl⟩
        obtain ⟨y, hy⟩ : ∃ y, m[j] = y := ⟨_, rfl⟩
        rw [hx] at d1; rw [hy] at d2
        have HX := hid hx; have HY := hid hy
        clear hb1 hb2 hcj1 hcj2 hx hy
        by_cases he : x = y
        · have hd : (x.toList == y.toList) = true := by rw [he]; exact beq_self_eq_true _
          have HE := hid he; clear he
          go_wp2
          go_quiet (fail)
          go_wp2
          go_roundg (n - (j + 1))
          case measure => have := HK.out; omega
          case rel => exact ⟨j + 1, by omega, by go_num, rfl, hid (take_succ_eq HT.out (by
            rw [List.getElem?_eq_getElem h1, List.getElem?_eq_getElem h2, HX.out, HY.out, HE.out])), grew_drewN hg _⟩
        · have hd : (x.toList == y.toList) = false := by
            rw [beq_eq_false_iff_ne, ne_eq, ByteArray.toList_eq, ByteArray.toList_eq]
            intro h
            exact he (ByteArray.ext (by simpa using congrArg List.toArray h))
          have HE := hid he; clear he
          go_wp2
          go_quiet (fail)
          go_wp2
          go_ret
          refine ⟨ret_bool (Eq.trans ?_ HR.out), grew_drewN hg _⟩
          symm
          rw [decide_eq_false_iff_not]
          rintro rfl
          exact HE.out (HX.out.symm.trans HY.out)
      · obtain rfl : j = n := by omega
        go_wp2
        go_ret
        refine ⟨ret_bool (Eq.trans ?_ HR.out), hg⟩
        have h1 := HT.out
        rw [List.take_of_length_le (by rw [HN.out]; omega), List.take_of_length_le (by rw [HN'.out]; omega)] at h1
        rw [h1]; simp
  · have hd : ((n : Int) != (n' : Int)) = true := by simp; omega
    have HNE := hid hne
    clear hne hn hn'
    go_enter Tryz.func15, Tryz.ntmps15
    go_wp2
    go_ret
    refine ⟨ret_bool (Eq.trans ?_ HR.out), grew_refl _⟩
    symm
    rw [decide_eq_false_iff_not]
    rintro rfl
    exact HNE.out (HN.out.symm.trans HN'.out)

end Go.Proofs.YtmohnddglmolgaaGreatDoor
