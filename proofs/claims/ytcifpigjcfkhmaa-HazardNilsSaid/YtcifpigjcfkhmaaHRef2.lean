/- Walks: the reference's questions, SameInts, State, List, Slot, Use, Point, Clear. -/
import Derived.Test.YtcifpigjcfkhmaaHRef
namespace Go.Proofs.Ytcifpigjcfkhmaa
open Go.RowKit Go.Lin Go.Lin.Hz

set_option maxHeartbeats 400000 in
theorem within_any (a n b : Int) (w : World) : Calls Try.prog 48 #[.int .i64 a, .int .i64 n, .int .i64 b] w fun e w' => e = .returned (.bool (decide (a ≤ n) && decide (n ≤ b))) ∧ Grew w w' := by
  by_cases h1 : a ≤ n <;> by_cases h2 : n ≤ b
  all_goals (
    go_enter Try.func48, Try.ntmps48
    go_wp2
    go_ret
    exact ⟨ret_bool (by simp [h1, h2]), grew_refl _⟩)

set_option maxHeartbeats 400000 in
theorem rNode_any (n : Int) (w : World) : Calls Try.prog 63 #[.int .i64 n] w fun e w' => e = .returned (.bool (isN n)) ∧ Grew w w' := by
  have hg := grew_refl w
  go_enter Try.func63, Try.ntmps63
  go_wp2_with (go_at_call 48; with_reducible refine (within_any _ _ _ _).mono ?_; rintro e w1 ⟨rfl, hx⟩; replace hg := grew_trans hg hx; have hc := (bcell hg).1)
  go_ret
  exact ⟨rfl, hg⟩

set_option maxHeartbeats 400000 in
theorem rSlot_any (n : Int) (w : World) : Calls Try.prog 66 #[.int .i64 n] w fun e w' => e = .returned (.bool (isS n)) ∧ Grew w w' := by
  have hg := grew_refl w
  go_enter Try.func66, Try.ntmps66
  go_wp2_with (go_at_call 48; with_reducible refine (within_any _ _ _ _).mono ?_; rintro e w1 ⟨rfl, hx⟩; replace hg := grew_trans hg hx; have hc := (bcell hg).1)
  go_ret
  exact ⟨rfl, hg⟩

set_option maxHeartbeats 400000 in
theorem rThread_any (Y : Yd) (h4 : Y.th.length ≤ 4) (b : Nat) (t : Int) (w : World) (c0 : w.cell? ⟨b, 0, none⟩ = some (.int .i64 (Y.th.length : Int))) : Calls Try.prog 65 #[.pointer (some ⟨b, 0, none⟩), .int .i64 t] w fun e w' => e = .returned (.bool (isT Y t)) ∧ Grew w w' := by
  have hg := grew_refl w
  have HT := hid (show isT Y t = (decide (0 ≤ t) && decide (t ≤ (Y.th.length : Int) - 1)) from rfl)
  rw [HT.out]
  obtain ⟨n, hn⟩ : ∃ n, Y.th.length = n := ⟨_, rfl⟩
  rw [hn] at c0 h4 ⊢
  clear hn HT
  go_enter Try.func65, Try.ntmps65
  go_wp2_with (go_at_call 48; with_reducible refine (within_any _ _ _ _).mono ?_; rintro e w1 ⟨rfl, hx⟩; replace hg := grew_trans hg hx; have hc := (bcell hg).1)
  go_ret
  exact ⟨rfl, hg⟩

theorem rThreadY {Y : Yd} {h4 : Y.th.length ≤ 4} {w : World} {b sb sc lb lc : Nat} {lv : List Value} (h : RCell w b Y sb sc lb lc lv) (t : Int) : ∀ y, Grew w y → Calls Try.prog 65 #[.pointer (some ⟨b, 0, none⟩), .int .i64 t] y fun e w' => e = .returned (.bool (isT Y t)) ∧ Grew y w' :=
  fun y hy => rThread_any Y h4 b t y ((hy.cell (p := ⟨b, 0, none⟩) h.lt).trans h.c0)

set_option maxHeartbeats 400000 in
theorem isNew_any (t s : Int) (w : World) : Calls Try.prog 14 #[.int .i64 t, .int .i64 s] w fun e w' => e = .returned (.bool (isNew t s)) ∧ Grew w w' := by
  have hg := grew_refl w
  obtain ⟨p1, h1⟩ : ∃ p, (decide (1 ≤ t) && decide (t ≤ 4)) = p := ⟨_, rfl⟩
  obtain ⟨p2, h2⟩ : ∃ p, (decide (1 ≤ s) && decide (s ≤ 4)) = p := ⟨_, rfl⟩
  have hr : isNew t s = (p1 && p2) := by unfold isNew; rw [h1, h2]
  rw [hr]
  have H1 := hid h1
  have H2 := hid h2
  clear h1 h2 hr
  cases p1 <;> cases p2
  all_goals
    go_enter Try.func14, Try.ntmps14
    go_wp2_with (first
      | (go_at_call 48; with_reducible refine (within_any 1 t 4 _).mono ?_; rw [H1.out]; rintro e w1 ⟨rfl, hx⟩; replace hg := grew_trans hg hx; have hc := (bcell hg).1)
      | (go_at_call 48; with_reducible refine (within_any 1 s 4 _).mono ?_; rw [H2.out]; rintro e w2 ⟨rfl, hx⟩; replace hg := grew_trans hg hx; have hc := (bcell hg).1))
    go_ret
    exact ⟨rfl, hg⟩

set_option maxHeartbeats 2000000 in
theorem sameInts_any (v v' : Value) (l m : List Int) (w : World) (hv : IsInts Any w v l) (hv' : IsInts Any w v' m) :
    Calls Try.prog 34 #[v, v'] w fun e w' => e = .returned (.bool (l == m)) ∧ Grew w w' := by
  obtain ⟨a, cap, rfl, hm, hc⟩ := hv
  obtain ⟨a', cap', rfl, hm', hc'⟩ := hv'
  have HC := hid hc; clear hc
  have HC' := hid hc'; clear hc'
  obtain ⟨r, hr⟩ : ∃ r, (l == m) = r := ⟨_, rfl⟩
  rw [hr]
  have HR := hid hr; clear hr
  obtain ⟨n, hn⟩ : ∃ n, l.length = n := ⟨_, rfl⟩
  obtain ⟨n', hn'⟩ : ∃ n, m.length = n := ⟨_, rfl⟩
  rw [hn] at hm HC ⊢
  rw [hn'] at hm' HC' ⊢
  have HN := hid hn
  have HN' := hid hn'
  by_cases hne : n = n'
  · subst hne
    clear hn hn'
    have hg := grew_refl w
    go_enter Try.func34, Try.ntmps34
    go_wp2
    go_loopg [5] n (fun k i wr => ∃ j : Nat, j ≤ n ∧ i = .int .i64 j ∧ k = n - j ∧ Hid (l.take j = m.take j) ∧ Grew w wr)
    case atStart => exact ⟨0, by omega, rfl, rfl, hid (by simp), hg⟩
    case round =>
      clear hg
      obtain ⟨j, hj, rfl, hk, HT, hg⟩ := hrel
      have HK := hid hk; clear hk
      by_cases hlt : j < n
      · obtain ⟨b1, off1, o1, rfl, hb1, _, hcj1⟩ := HC.out j hlt
        obtain ⟨b2, off2, o2, rfl, hb2, _, hcj2⟩ := HC'.out j hlt
        have hbl1 := lt_of_obj hb1
        have hbl2 := lt_of_obj hb2
        have d1 := (hg.cell (p := ⟨b1, off1 + j, none⟩) hbl1).trans hcj1
        have d2 := (hg.cell (p := ⟨b2, off2 + j, none⟩) hbl2).trans hcj2
        clear hb1 hb2 hcj1 hcj2
        by_cases he : nth l j = nth m j
        · have hd : (nth l j != nth m j) = false := by simp [he]
          have HE := hid he; clear he
          go_wp2
          go_quiet (fail)
          go_wp2
          go_roundg (n - (j + 1))
          case measure => have := HK.out; omega
          case rel => exact ⟨j + 1, by omega, by go_num, rfl, hid (take_eq_succ HT.out (by rw [HN.out]; exact hlt) (by rw [HN'.out]; exact hlt) HE.out), grew_drewN hg _⟩
        · have hd : (nth l j != nth m j) = true := by simpa using he
          have HE := hid he; clear he
          go_wp2
          go_quiet (fail)
          go_wp2
          go_ret
          refine ⟨ret_bool (Eq.trans ?_ HR.out), grew_drewN hg _⟩
          symm
          rw [beq_eq_false_iff_ne]
          rintro rfl
          exact HE.out rfl
      · obtain rfl : j = n := by omega
        go_wp2
        go_ret
        refine ⟨ret_bool (Eq.trans ?_ HR.out), hg⟩
        have h1 := HT.out
        rw [List.take_of_length_le (by rw [HN.out]; omega), List.take_of_length_le (by rw [HN'.out]; omega)] at h1
        rw [h1]; simp
  · have hd : ((n : Int) != (n' : Int)) = true := by simp; omega
    have HNE := hid hne
    clear hne hn hn'
    go_enter Try.func34, Try.ntmps34
    go_wp2
    go_ret
    refine ⟨ret_bool (Eq.trans ?_ HR.out), grew_refl _⟩
    symm
    rw [beq_eq_false_iff_ne]
    rintro rfl
    exact HNE.out (HN.out.symm.trans HN'.out)

set_option maxHeartbeats 1000000 in
theorem rState_any (Y : Yd) (b : Nat) (n : Int) (w : World) {sb sc lb lc : Nat} {lv : List Value} (hc : RCell w b Y sb sc lb lc lv) :
    Calls Try.prog 31 #[.pointer (some ⟨b, 0, none⟩), .int .i64 n] w fun e w' => e = .returned (.tuple #[.int .i64 (stateOf Y n).1, .int .i64 (stateOf Y n).2]) ∧ Grew w w' := by
  have HC := hid hc
  have hlt := hc.lt
  have hg := grew_refl w
  have HN := hid (fun y => rNode_any n y)
  by_cases hn : isN n = true
  · have hn' := isN_iff.1 hn
    obtain ⟨k, rfl⟩ : ∃ k : Nat, n = k := ⟨n.toNat, by omega⟩
    have hcell := hc.cs k (by omega)
    have hres : stateOf Y (k : Int) = (nth Y.st k, 0) := by simp [stateOf, hn, stAt]
    rw [hres]
    obtain ⟨v, hv⟩ : ∃ v, nth Y.st k = v := ⟨_, rfl⟩
    rw [hv] at hcell ⊢
    rw [hn] at HN
    have h7 : k < 8 := by omega
    clear hc hn' hv hn hres
    go_enter Try.func31, Try.ntmps31
    go_wp2_with (go_at_call 63; with_reducible refine (HN.out _).mono ?_; rintro e w1 ⟨rfl, hx⟩; replace hg := grew_trans hg hx; have hc := (bcell hg).1)
    go_ret2
    exact ⟨rfl, hg⟩
  · have hn' : isN n = false := by simpa using hn
    have hres : stateOf Y n = (0, 2) := by simp [stateOf, hn']
    rw [hres]
    rw [hn'] at HN
    clear hc hn hn' hres
    go_enter Try.func31, Try.ntmps31
    go_wp2_with (go_at_call 63; with_reducible refine (HN.out _).mono ?_; rintro e w1 ⟨rfl, hx⟩; replace hg := grew_trans hg hx; have hc := (bcell hg).1)
    go_ret2
    exact ⟨rfl, hg⟩

set_option maxHeartbeats 1000000 in
theorem rList_any (Y : Yd) (h4 : Y.th.length ≤ 4) (b : Nat) (t : Int) (w : World) {sb sc lb lc : Nat} {lv : List Value} {Lb : List Nat} (hA : RAll w b Y sb sc lb lc lv Lb) :
    Calls Try.prog 33 #[.pointer (some ⟨b, 0, none⟩), .int .i64 t] w fun e w' => ∃ u, e = .returned (.tuple #[u, .int .i64 (listOf Y t).2]) ∧ IsInts Any w' u (listOf Y t).1 ∧ Grew w w' := by
  have hc := hA.cell
  have hlt := hc.lt
  have hlt2 := hc.llt
  have hg := grew_refl w
  have HT := hid (rThreadY (h4 := h4) hc t)
  by_cases hb : isT Y t = true
  · have ht := isT_iff.1 hb
    obtain ⟨i, rfl⟩ : ∃ i : Nat, t = i := ⟨t.toNat, by omega⟩
    have hi : i < Y.th.length := by omega
    obtain ⟨v, hvv, hvs⟩ := hA.list i hi
    have hth : thAt Y (i : Int) = Y.th.getD i noTh := rfl
    obtain ⟨l, hl⟩ : ∃ l, (Y.th.getD i noTh).l = l := ⟨_, rfl⟩
    rw [hl] at hvs
    have hres : listOf Y (i : Int) = (l, 0) := by simp only [listOf, hb, if_true, hth, hl]
    rw [hres]
    have c11 := hc.c11
    have cl := hc.l i hi
    rw [hvv] at cl
    obtain ⟨m, hm⟩ : ∃ m, Y.th.length = m := ⟨_, rfl⟩
    rw [hm] at c11
    have him : i < m := by omega
    have hm4 : m ≤ 4 := by omega
    have HV := hid hvs
    rw [hb] at HT
    clear hm hvs hvv hth hl hres hb ht hc hA
    go_enter Try.func33, Try.ntmps33
    go_wp2_with (go_at_call 65; with_reducible refine (HT.out _ hg).mono ?_; rintro e w1 ⟨rfl, hx⟩; replace hg := grew_trans hg hx; have hc := (bcell hg).1)
    go_ret2
    exact ⟨_, rfl, (HV.out.any).grew hg, hg⟩
  · have hb : isT Y t = false := by simpa using hb
    have hres : listOf Y t = ([], 2) := by simp [listOf, hb]
    rw [hres]
    rw [hb] at HT
    clear hb hres hc hA
    go_enter Try.func33, Try.ntmps33
    go_wp2_with (go_at_call 65; with_reducible refine (HT.out _ hg).mono ?_; rintro e w1 ⟨rfl, hx⟩; replace hg := grew_trans hg hx; have hc := (bcell hg).1)
    go_ret2
    exact ⟨_, rfl, Reads.nil _ _ _ _ _, hg⟩

end Go.Proofs.Ytcifpigjcfkhmaa
