/- Walks: List, slices.Equal, Same. -/
import Derived.Test.YtcifpigjcfkhmaaHPutBy
namespace Go.Proofs.Ytcifpigjcfkhmaa
open Go.RowKit Go.Lin Go.Lin.Hz

set_option maxHeartbeats 1000000 in
theorem list_any (Y : Yd) (hI : Inv Y) (b : Nat) (Fp : List Nat) (t : Int) (w : World) (hy : IsYard w b Y Fp) :
    Calls Try.prog 32 #[.pointer (some ⟨b, 0, none⟩), .int .i64 t] w fun e w' => ∃ u, e = .returned (.tuple #[u, .int .i64 (listOf Y t).2]) ∧ Seg w' w.heap.size 3 1 u (listOf Y t).1.length ((listOf Y t).1.map (.int .i64)) ∧ Grew w w' := by
  obtain ⟨tb, cap, lv, hA⟩ := YAll.of hy hI.st hI.th.2
  have HA := hid hA
  have hv := hA.run.view
  have hh := hv.head
  have HH := hid hh
  have hlt := hh.lt
  have hlt2 := hv.th.lt
  have hg := grew_refl w
  have HT := hid (fun (y : World) (hy : Grew w y) => isThreadY hI b t y (hh.grew hy))
  by_cases hb : isT Y t = true
  · have HB := hid hb
    have ht := hb
    rw [isT_iff] at ht
    obtain ⟨i, rfl⟩ : ∃ i : Nat, t = i := ⟨t.toNat, by omega⟩
    have hi : i < Y.th.length := by omega
    obtain ⟨v, hvv, hvs⟩ := hA.list i hi
    have hth : thAt Y (i : Int) = Y.th.getD i noTh := rfl
    obtain ⟨l, hl⟩ : ∃ l, (Y.th.getD i noTh).l = l := ⟨_, rfl⟩
    rw [hl] at hvs
    have hl8 : l.length ≤ 8 := by
      have := list_le hI hb
      rw [hth, hl] at this; exact this
    have hres : listOf Y (i : Int) = (l, 0) := by simp only [listOf, hb, if_true, hth, hl]
    rw [hres]
    have c9 := hv.c9
    have cl := hv.th.l i hi
    rw [hvv] at cl
    obtain ⟨m, hm⟩ : ∃ m, Y.th.length = m := ⟨_, rfl⟩
    rw [hm] at c9
    have him : i < m := by omega
    have hm4 : m ≤ 4 := by have := hI.th.2; omega
    have HC := hid (fun (y : World) (hy : Grew w y) => clone64_any v l y (by omega) (hvs.reads.any.grew hy))
    clear hm hvs hvv hth hl hres hb ht hv hh hA hy hl8
    go_enter Try.func32, Try.ntmps32
    go_wp2_with (first
      | (go_at_call 59; with_reducible refine (HT.out _ hg).mono ?_; rintro e w1 ⟨q1, rfl, hs1, hx⟩; have S1 := hid hs1; clear hs1; replace hg := grew_trans hg hx; have hc := (bcell hg).1)
      | (go_at_call 49; with_reducible refine (ask1 hI HH.out asks80 hg S1.out).mono ?_; rintro e w3 ⟨rfl, hx⟩; replace hg := grew_trans hg hx; have hc := (bcell hg).1; rw [HB.out])
      | (go_at_call 64; with_reducible refine (HC.out _ hg).mono ?_; rintro e w4 ⟨u, rfl, hs4, hx⟩; have HS4 := hid (hs4.mono hg.size); clear hs4; replace hg := grew_trans hg hx; have hc := (bcell hg).1))
    go_ret2
    exact ⟨_, rfl, HS4.out, hg⟩
  · have hb : isT Y t = false := by simpa using hb
    have hres : listOf Y t = ([], 2) := by simp [listOf, hb]
    rw [hres]
    have HB := hid hb
    clear hb hres hv hh hA hy
    go_enter Try.func32, Try.ntmps32
    go_wp2_with (first
      | (go_at_call 59; with_reducible refine (HT.out _ hg).mono ?_; rintro e w1 ⟨q1, rfl, hs1, hx⟩; have S1 := hid hs1; clear hs1; replace hg := grew_trans hg hx; have hc := (bcell hg).1)
      | (go_at_call 49; with_reducible refine (ask1 hI HH.out asks80 hg S1.out).mono ?_; rintro e w3 ⟨rfl, hx⟩; replace hg := grew_trans hg hx; have hc := (bcell hg).1; rw [HB.out]))
    go_ret2
    exact ⟨_, rfl, Seg.nil _ _ _ _, hg⟩

theorem take_eq_succ {l m : List Int} {j : Nat} (h : l.take j = m.take j) (hj : j < l.length) (hjm : j < m.length) (he : nth l j = nth m j) : l.take (j + 1) = m.take (j + 1) := by
  rw [take_succ_nth hj, take_succ_nth hjm, h, he]

set_option maxHeartbeats 2000000 in
theorem equal73_any (v v' : Value) (l m : List Int) (w : World) (hv : IsInts Any w v l) (hv' : IsInts Any w v' m) :
    Calls Try.prog 73 #[v, v'] w fun e w' => e = .returned (.bool (l == m)) ∧ Grew w w' := by
  obtain ⟨a, cap, rfl, hm, hc⟩ := hv
  obtain ⟨a', cap', rfl, hm', hc'⟩ := hv'
  have HC := hid hc; clear hc
  have HC' := hid hc'; clear hc'
  obtain ⟨r, hr⟩ : ∃ r, (l == m) = r := ⟨_, rfl⟩
  rw [hr]
  have HR := hid hr; clear hr
  obtain ⟨n, hn⟩ : ∃ n, l.length = n := ⟨_, rfl⟩
  obtain ⟨n', hn'⟩ : ∃ n, m.length = n := ⟨_, rfl⟩
  rw [hn] at hm HC ⊢
  rw [hn'] at hm' HC' ⊢
  have HN := hid hn
  have HN' := hid hn'
  by_cases hne : n = n'
  · subst hne
    clear hn hn'
    have hg := grew_refl w
    go_enter Try.func73, Try.ntmps73
    go_wp2
    go_loopg [5, 13] n (fun k _ i wr => ∃ j : Nat, j ≤ n ∧ i = .int .i64 j ∧ k = n - j ∧ Hid (l.take j = m.take j) ∧ Grew w wr)
    case atStart => exact ⟨0, by omega, rfl, rfl, hid (by simp), hg⟩
    case round =>
      clear hg
      obtain ⟨j, hj, rfl, hk, HT, hg⟩ := hrel
      have HK := hid hk; clear hk
      by_cases hlt : j < n
      · obtain ⟨b1, off1, o1, rfl, hb1, _, hcj1⟩ := HC.out j hlt
        obtain ⟨b2, off2, o2, rfl, hb2, _, hcj2⟩ := HC'.out j hlt
        have hbl1 := lt_of_obj hb1
        have hbl2 := lt_of_obj hb2
        have d1 := (hg.cell (p := ⟨b1, off1 + j, none⟩) hbl1).trans hcj1
        have d2 := (hg.cell (p := ⟨b2, off2 + j, none⟩) hbl2).trans hcj2
        clear hb1 hb2 hcj1 hcj2
        by_cases he : nth l j = nth m j
        · have hd : (nth l j != nth m j) = false := by simp [he]
          have HE := hid he; clear he
          go_wp2
          go_quiet (fail)
          go_wp2
          go_roundg (n - (j + 1))
          case measure => have := HK.out; omega
          case rel => exact ⟨j + 1, by omega, by go_num, rfl, hid (take_eq_succ HT.out (by rw [HN.out]; exact hlt) (by rw [HN'.out]; exact hlt) HE.out), grew_drewN hg _⟩
        · have hd : (nth l j != nth m j) = true := by simpa using he
          have HE := hid he; clear he
          go_wp2
          go_quiet (fail)
          go_wp2
          go_ret
          refine ⟨ret_bool (Eq.trans ?_ HR.out), grew_drewN hg _⟩
          symm
          rw [beq_eq_false_iff_ne]
          rintro rfl
          exact HE.out rfl
      · obtain rfl : j = n := by omega
        go_wp2
        go_ret
        refine ⟨ret_bool (Eq.trans ?_ HR.out), hg⟩
        have h1 := HT.out
        rw [List.take_of_length_le (by rw [HN.out]; omega), List.take_of_length_le (by rw [HN'.out]; omega)] at h1
        rw [h1]; simp
  · have hd : ((n : Int) != (n' : Int)) = true := by simp; omega
    have HNE := hid hne
    clear hne hn hn'
    go_enter Try.func73, Try.ntmps73
    go_wp2
    go_ret
    refine ⟨ret_bool (Eq.trans ?_ HR.out), grew_refl _⟩
    symm
    rw [beq_eq_false_iff_ne]
    rintro rfl
    exact HNE.out (HN.out.symm.trans HN'.out)

end Go.Proofs.Ytcifpigjcfkhmaa
