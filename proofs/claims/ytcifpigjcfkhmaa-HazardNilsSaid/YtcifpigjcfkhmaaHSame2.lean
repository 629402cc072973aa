/- Walks: slices.EqualFunc at threads. -/
import Derived.Test.YtcifpigjcfkhmaaHEq
namespace Go.Proofs.Ytcifpigjcfkhmaa
open Go.RowKit Go.Lin Go.Lin.Hz

/-- Threads as they lie, with their lists. -/
def ThL (w : World) (tb : Nat) (th : List Th) (lv : List Value) : Prop :=
  ThAt w tb th lv ∧ ∀ i, i < th.length → ∃ v, lv[i]? = some v ∧ IsInts Any w v (th.getD i noTh).l

theorem ThL.grew {w w' : World} {tb : Nat} {th : List Th} {lv : List Value} (h : ThL w tb th lv) (hg : Grew w w') : ThL w' tb th lv :=
  ⟨h.1.grew hg, fun i hi => let ⟨v, h1, h2⟩ := h.2 i hi; ⟨v, h1, h2.grew hg⟩⟩

theorem ThL.at {w : World} {tb : Nat} {th : List Th} {lv : List Value} (h : ThL w tb th lv) {i : Nat} (hi : i < th.length) : ∃ t v, th.getD i noTh = t ∧ th[i]? = some t ∧ IsInts Any w v t.l ∧ w.cell? ⟨tb, i * 3, none⟩ = some (.int .i64 t.a) ∧ w.cell? ⟨tb, i * 3 + 1, none⟩ = some (.int .i64 t.b) ∧ w.cell? ⟨tb, i * 3 + 2, none⟩ = some v := by
  obtain ⟨v, hv, hs⟩ := h.2 i hi
  exact ⟨_, v, rfl, by simp [List.getD, hi], hs, h.1.a i hi, h.1.b i hi, (h.1.l i hi).trans hv⟩


theorem take_succ_eq {α : Type} {l m : List α} {j : Nat} {x : α} (h : l.take j = m.take j) (h1 : l[j]? = some x) (h2 : m[j]? = some x) : l.take (j + 1) = m.take (j + 1) := by
  rw [List.take_add_one, List.take_add_one, h, h1, h2]

set_option maxHeartbeats 4000000 in
theorem equalFunc_any (th th' : List Th) (lv lv' : List Value) (tb tb' cap cap' : Nat) (w : World) (ht : ThL w tb th lv) (ht' : ThL w tb' th' lv') (h4 : th.length ≤ 4) (h4' : th'.length ≤ 4) :
    Calls Try.prog 71 #[.slice (some ⟨tb, 0, none⟩) th.length cap, .slice (some ⟨tb', 0, none⟩) th'.length cap', .func (.func 72) #[] #[]] w fun e w' => e = .returned (.bool (decide (th = th'))) ∧ Grew w w' := by
  have HT := hid ht
  have HT' := hid ht'
  have hlt := ht.1.lt
  have hlt' := ht'.1.lt
  have hcf' : ∀ args w, (callFunc 72 args).run Try.prog w = .ok (.enter 72 args) w := fun _ _ => by kernel_rfl
  obtain ⟨r, hr⟩ : ∃ r, decide (th = th') = r := ⟨_, rfl⟩
  rw [hr]
  have HR := hid hr; clear hr
  obtain ⟨n, hn⟩ : ∃ n, th.length = n := ⟨_, rfl⟩
  obtain ⟨n', hn'⟩ : ∃ n, th'.length = n := ⟨_, rfl⟩
  rw [hn] at h4 ⊢
  rw [hn'] at h4' ⊢
  have HN := hid hn
  have HN' := hid hn'
  by_cases hne : n = n'
  · subst hne
    clear hn hn' ht ht'
    have hg := grew_refl w
    go_enter Try.func71, Try.ntmps71
    go_wp2
    go_loopg [7, 8, 9, 17] n (fun k _ _ _ i wr => ∃ j : Nat, j ≤ n ∧ i = .int .i64 j ∧ k = n - j ∧ Hid (th.take j = th'.take j) ∧ Grew w wr)
    case atStart => exact ⟨0, by omega, rfl, rfl, hid (by simp), hg⟩
    case round =>
      clear hg
      obtain ⟨j, hj, rfl, hk, HTK, hg⟩ := hrel
      have HK := hid hk; clear hk
      by_cases hltj : j < n
      · obtain ⟨t, v, ht1, ht2, hs, c0, c1, c2⟩ := (HT.out.grew hg).at (i := j) (by rw [HN.out]; exact hltj)
        obtain ⟨t', v', ht1', ht2', hs', c0', c1', c2'⟩ := (HT'.out.grew hg).at (i := j) (by rw [HN'.out]; exact hltj)
        rename World => wr
        have hsv := hs
        have hsv' := hs'
        obtain ⟨ya, yc, hve, -⟩ := hsv
        obtain ⟨za, zc, hve', -⟩ := hsv'
        obtain ⟨n1, hn1⟩ : ∃ n, t.l.length = n := ⟨_, rfl⟩
        obtain ⟨n2, hn2⟩ : ∃ n, t'.l.length = n := ⟨_, rfl⟩
        rw [hn1] at hve
        rw [hn2] at hve'
        subst hve hve'
        clear hn1 hn2
        obtain ⟨W1, hW1, g1, a0, a1, a2, hz1⟩ := box3 wr (.int .i64 t.a) (.int .i64 t.b) (.slice ya n1 yc) 81
        obtain ⟨W2, hW2, g2, b0, b1, b2, hz2⟩ := box3 W1 (.int .i64 t'.a) (.int .i64 t'.b) (.slice za n2 zc) 81
        have HS := hid (fun (y : World) (hy : Grew wr y) => same72_any t t' _ _ y (hs.grew hy) (hs'.grew hy))
        unfold thVal at HS
        have g02 := grew_trans g1 g2
        have hz1' := Nat.lt_of_lt_of_le hz1 g2.size
        replace a0 := (g2.cell (p := ⟨wr.heap.size, 0, none⟩) hz1).trans a0
        replace a1 := (g2.cell (p := ⟨wr.heap.size, 1, none⟩) hz1).trans a1
        replace a2 := (g2.cell (p := ⟨wr.heap.size, 2, none⟩) hz1).trans a2
        replace c0' := (g1.cell (p := ⟨tb', j * 3, none⟩) (Nat.lt_of_lt_of_le hlt' hg.size)).trans c0'
        replace c1' := (g1.cell (p := ⟨tb', j * 3 + 1, none⟩) (Nat.lt_of_lt_of_le hlt' hg.size)).trans c1'
        replace c2' := (g1.cell (p := ⟨tb', j * 3 + 2, none⟩) (Nat.lt_of_lt_of_le hlt' hg.size)).trans c2'
        obtain ⟨p, hp⟩ : ∃ p, decide (t = t') = p := ⟨_, rfl⟩
        rw [hp] at HS
        have HP := hid hp
        have HT2 := hid ht2
        have HT2' := hid ht2'
        have HG := hid hg
        clear hp ht1 ht1' ht2 ht2' hs hs'
        cases p
        · go_wp2_with (refine (show Calls _ _ _ _ _ from HS.out _ g02).mono ?_; rintro e w4 ⟨rfl, hx⟩)
          go_ret
          refine ⟨ret_bool (Eq.trans ?_ HR.out), grew_trans HG.out (grew_trans g02 hx)⟩
          symm
          rw [decide_eq_false_iff_not]
          rintro rfl
          have h1 := HT2.out.symm.trans HT2'.out
          simp only [Option.some.injEq] at h1
          simpa [h1] using HP.out
        · go_wp2_with (refine (show Calls _ _ _ _ _ from HS.out _ g02).mono ?_; rintro e w4 ⟨rfl, hx⟩)
          go_roundg (n - (j + 1))
          case measure => have := HK.out; omega
          case rel => exact ⟨j + 1, by omega, by go_num, rfl, hid (take_succ_eq HTK.out HT2.out (by rw [of_decide_eq_true HP.out]; exact HT2'.out)), grew_trans HG.out (grew_trans g02 hx)⟩
      · obtain rfl : j = n := by omega
        go_wp2
        go_ret
        refine ⟨ret_bool (Eq.trans ?_ HR.out), hg⟩
        have h1 := HTK.out
        rw [List.take_of_length_le (by rw [HN.out]; omega), List.take_of_length_le (by rw [HN'.out]; omega)] at h1
        rw [h1]; simp
  · have hd : ((n : Int) != (n' : Int)) = true := by simp; omega
    have HNE := hid hne
    clear hne hn hn' ht ht'
    go_enter Try.func71, Try.ntmps71
    go_wp2
    go_ret
    refine ⟨ret_bool (Eq.trans ?_ HR.out), grew_refl _⟩
    symm
    rw [decide_eq_false_iff_not]
    rintro rfl
    exact HNE.out (HN.out.symm.trans HN'.out)

end Go.Proofs.Ytcifpigjcfkhmaa
