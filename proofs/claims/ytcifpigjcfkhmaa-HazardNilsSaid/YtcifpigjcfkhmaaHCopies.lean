/- The law HazardCopies, walked: it answers true. -/
import Derived.Test.YtcifpigjcfkhmaaHTop2
namespace Go.Proofs.Ytcifpigjcfkhmaa
open Go.RowKit Go.Lin Go.Lin.Hz

/-- Whether two yards are the same, of yards that lie somewhere. -/
theorem sameW {w : World} {B C : Nat} {Y Z : Yd} {F G : List Nat} (hy : IsYard w B Y F) (hz : IsYard w C Z G) (hY : Hz.Inv Y) (hZ : Hz.Inv Z) :
    Calls Try.prog 45 #[.pointer (some ⟨B, 0, none⟩), .pointer (some ⟨C, 0, none⟩)] w fun e w' => e = .returned (.bool (decide (Y = Z))) ∧ Grew w w' := by
  obtain ⟨tb, cap, lv, h1⟩ := YSee.of hy hY
  obtain ⟨tb', cap', lv', h2⟩ := YSee.of hz hZ
  exact same_any Y Z B C tb tb' cap cap' lv lv' w h1 h2

set_option maxHeartbeats 16000000 in
set_option maxRecDepth 100000 in
theorem copies_law (m : Int × Int) (l l2 : List Dd) (v0 v v2 : Value) (w : World) (h0 : IsShape v0 m) (hv : IsDeeds w v l) (hv2 : IsDeeds w v2 l2) :
    Calls Try.prog 9 #[v0, v, v2] w fun e w' => e = .returned (.bool true) ∧ Grew w w' := by
  obtain ⟨rfl, hm1, hm2⟩ := h0
  have hN := shaped_new hm1.1 hm2.1
  have hI0 : Hz.Inv (shaped m) := new_inv hN
  obtain ⟨W0, hW0, g0, e0, e1, hz0⟩ := box2 w (.int .u8 m.1) (.int .u8 m.2) 36
  have HD := hid (fun (y : World) (hy : Grew w y) => done_any m hm1 hm2 l v y (hv.grew hy))
  have hIb := hI0.after l
  obtain ⟨Yb, hYb⟩ : ∃ Yb, after (shaped m) l = Yb := ⟨_, rfl⟩
  rw [hYb] at hIb HD
  obtain ⟨a, b⟩ := m
  simp only at hm1 hm2 HD hW0 e0 e1 ⊢
  obtain ⟨a0, a1⟩ := hm1
  obtain ⟨b0, b1⟩ := hm2
  obtain ⟨va, vc, rfl, hm, -⟩ := hv
  obtain ⟨n, hn⟩ : ∃ n, l.length = n := ⟨_, rfl⟩
  rw [hn] at hm HD ⊢
  obtain ⟨va2, vc2, rfl, hmm, hdd⟩ := hv2
  obtain ⟨n2, hn2⟩ : ∃ n, l2.length = n := ⟨_, rfl⟩
  have HLN := hid hn2
  have HDD := hid hdd
  rw [hn2] at hmm ⊢
  have hg := g0
  have HIb := hid hIb
  clear hn hn2 hdd hN hYb
  by_cases h100 : 100 < n ∨ 100 < n2
  · by_cases h1 : 100 < n
    · have hd : decide (100 < (n : Int)) = true := by simp; omega
      clear h100 h1
      go_enter Try.func9, Try.ntmps9
      go_wp2_with (go_at_call 12; with_reducible refine (sane_any _).mono ?_; rintro e w1 ⟨rfl, hx⟩; replace hg := grew_trans hg hx)
      go_ret
      exact ⟨rfl, hg⟩
    · have hd : decide (100 < (n : Int)) = false := by simp; omega
      have hd2 : decide (100 < (n2 : Int)) = true := by simp; omega
      clear h100 h1
      go_enter Try.func9, Try.ntmps9
      go_wp2_with (go_at_call 12; with_reducible refine (sane_any _).mono ?_; rintro e w1 ⟨rfl, hx⟩; replace hg := grew_trans hg hx)
      go_ret
      exact ⟨rfl, hg⟩
  · have hd : decide (100 < (n : Int)) = false := by simp; omega
    have hd2 : decide (100 < (n2 : Int)) = false := by simp; omega
    clear h100
    have HS := hid (fun (y : World) (B C : Nat) (Y : Yd) (F G : List Nat) (hI : Hz.Inv Y) (h1 : IsYard y B Y F) (h2 : IsYard y C Y G) => show Calls Try.prog 45 #[.pointer (some ⟨B, 0, none⟩), .pointer (some ⟨C, 0, none⟩)] y fun e w' => e = .returned (.bool true) ∧ Grew y w' by
      have := sameW h1 h2 hI hI
      simpa using this)
    have HG0 := hid g0
    have HG0' := hid g0
    go_enter Try.func9, Try.ntmps9
    go_wp2_with (first
      | (go_at_call 17; (with_reducible refine (HD.out _ HG0.out).mono ?_); go_loud (
          rintro e w2 ⟨B, Fp, rfl, hy, hx⟩
          have HY := hid hy
          have HX := hid hx
          have hc := (bcell hx).1
          have hz2 := Nat.lt_of_lt_of_le hz0 hx.size
          have HGG := hid (grew_trans HG0.out hx)
          clear hy hx HG0))
      | (go_at_call 17; (with_reducible refine (HD.out _ HGG.out).mono ?_); go_loud (
          rintro e w3 ⟨B2, Fp2, rfl, hy, hx⟩
          have HZ := hid hy
          have HX3 := hid hx
          have HYz := hid (HY.out.grew hx)
          clear hy hx))
      | (go_at_call 45; (with_reducible refine (HS.out _ _ _ _ _ _ HIb.out HYz.out.yard HZ.out.yard).mono ?_); go_loud (
          rintro e w4 ⟨rfl, hx⟩
          have HY4 := hid (HYz.out.grew hx)
          have HZ4 := hid (HZ.out.grew hx)
          have HX4 := hid (grew_trans HX.out (grew_trans HX3.out hx))
          clear hx))
      | (go_at_call 46; (with_reducible refine (copy_any Yb HIb.out B Fp _ HY4.out.yard).mono ?_); go_loud (
          rintro e w5 ⟨C, FC, rfl, hy, hlo, hx⟩
          have HC := hid (show YNew w4.heap.size w5 C Yb FC from ⟨hy, hlo, HIb.out⟩)
          have HX5 := hid hx
          clear hy hlo hx)))
    clear hc hg e0 e1
    have HW4 := hid (grew_trans HG0'.out HX4.out)
    go_loopg [10, 11, 12, 13, 52] n2 (fun k i _ _ _ _ wr => ∃ (j : Nat) (FC : List Nat), j ≤ n2 ∧ i = .int .i64 j ∧ k = n2 - j ∧ Hid (YNew w4.heap.size wr C (after Yb (l2.take j)) FC) ∧ Hid (Grew w4 wr))
    case atStart => exact ⟨0, FC, by omega, rfl, rfl, HC, HX5⟩
    case round =>
      obtain ⟨j, FC, hj, rfl, hk, HYJ, HGR⟩ := hrel
      have HKj := hid hk; clear hk
      have hwr := HGR.out.size
      by_cases hlt : j < n2
      · obtain ⟨x, hx⟩ : ∃ x, l2[j]? = some x := ⟨_, List.getElem?_eq_getElem (by rw [HLN.out]; exact hlt)⟩
        obtain ⟨b, off, rfl, hda⟩ := HDD.out j x hx
        have hda4 := hda.grew hda.lt HW4.out
        have hda' := hda4.grew hda4.lt HGR.out
        have k0z := hda'.c0
        have k1z := hda'.c1
        have k2z := hda'.c2
        have k3z := hda'.c3
        have hblt := hda'.lt
        obtain ⟨d, aa, bb, c⟩ := x
        simp only at k0z k1z k2z k3z
        have HTK := hid (take_snoc hx)
        rename World => wr
        have has := after_snoc Yb (l2.take j) ⟨d, aa, bb, c⟩
        have hIs := HYJ.out.inv.doD d aa bb c
        have herr : (doD (after Yb (l2.take j)) d aa bb c).2.2 ≠ 0 → (doD (after Yb (l2.take j)) d aa bb c).1 = after Yb (l2.take j) := doD_err
        have hdo := fun (y : World) (h : IsYard y C (after Yb (l2.take j)) FC) => do_any (after Yb (l2.take j)) HYJ.out.inv C FC d aa bb c y h
        obtain ⟨Y', n', f', hr⟩ : ∃ Y' n' f', doD (after Yb (l2.take j)) d aa bb c = (Y', n', f') := ⟨_, _, _, rfl⟩
        unfold DoPost at hdo
        simp only [hr] at has hIs herr hdo
        have HAS := hid has
        have HIS := hid hIs
        have HERR := hid herr
        have HDO := hid hdo
        have HCP := hid (copy_any (after Yb (l2.take j)) HYJ.out.inv C FC wr HYJ.out.yard)
        clear has hIs hx hda hda' hda4 hr herr hdo
        by_cases hf0 : f' = 0
        case' pos =>
          subst hf0
          go_wp2_with (first
            | (go_at_call 46; (with_reducible refine HCP.out.mono ?_); go_loud (
                rintro e w6 ⟨D, FD, rfl, hy, hlo, hx⟩
                have HD6 := hid hy
                have HLO6 := hid hlo
                have HX6 := hid hx
                have k0 := (hx.cell (p := ⟨b, off + j * 4, none⟩) hblt).trans k0z
                have k1 := (hx.cell (p := ⟨b, off + j * 4 + 1, none⟩) hblt).trans k1z
                have k2 := (hx.cell (p := ⟨b, off + j * 4 + 2, none⟩) hblt).trans k2z
                have k3 := (hx.cell (p := ⟨b, off + j * 4 + 3, none⟩) hblt).trans k3z
                have hblt6 := Nat.lt_of_lt_of_le hblt hx.size
                clear hy hlo hx))
            | (go_at_call 18; (with_reducible refine (HDO.out _ (HYJ.out.grew HX6.out).yard).mono ?_); go_loud (
                rintro e w7 ⟨rfl, hdoes⟩
                obtain ⟨F7, hF7, hb7, hk7, -⟩ := (HYJ.out.grew HX6.out).does (Nat.le_trans hwr HX6.out.size) hdoes HIS.out
                have HF7 := hid hF7
                have HB7 := hid ((below_of_grew HGR.out hwr HX6.out).trans hb7)
                have HD7 := hid (IsYardAt.keeps HD6.out hk7 (fun k _ hk hm => by have := HLO6.out k hk; have := HYJ.out.lt k hm; omega))
                clear hdoes hF7 hb7 hk7)))
          go_roundg (n2 - (j + 1))
          case measure => have := HKj.out; omega
          case rel => exact ⟨j + 1, F7, by omega, by go_num, rfl, hid (by rw [HTK.out, HAS.out]; exact HF7.out), HB7⟩
        · have hf0' : (f' != 0) = true := by simpa using hf0
          have hYe := HERR.out hf0
          have HYE := hid hYe
          have HERR2 := hid hf0
          clear hYe hf0
          go_wp2_with (first
            | (go_at_call 46; (with_reducible refine HCP.out.mono ?_); go_loud (
                rintro e w6 ⟨D, FD, rfl, hy, hlo, hx⟩
                have HD6 := hid hy
                have HLO6 := hid hlo
                have HX6 := hid hx
                have k0 := (hx.cell (p := ⟨b, off + j * 4, none⟩) hblt).trans k0z
                have k1 := (hx.cell (p := ⟨b, off + j * 4 + 1, none⟩) hblt).trans k1z
                have k2 := (hx.cell (p := ⟨b, off + j * 4 + 2, none⟩) hblt).trans k2z
                have k3 := (hx.cell (p := ⟨b, off + j * 4 + 3, none⟩) hblt).trans k3z
                have hblt6 := Nat.lt_of_lt_of_le hblt hx.size
                clear hy hlo hx))
            | (go_at_call 18; (with_reducible refine (HDO.out _ (HYJ.out.grew HX6.out).yard).mono ?_); go_loud (
                rintro e w7 ⟨rfl, hdoes⟩
                obtain ⟨F7, hF7, hb7, hk7, -⟩ := (HYJ.out.grew HX6.out).does (Nat.le_trans hwr HX6.out.size) hdoes HIS.out
                have HF7 := hid hF7
                have HB7 := hid ((below_of_grew HGR.out hwr HX6.out).trans hb7)
                have HD7 := hid (show IsYard w7 D Y' FD by
                  rw [HYE.out]
                  exact IsYardAt.keeps HD6.out hk7 (fun k _ hk hm => by have := HLO6.out k hk; have := HYJ.out.lt k hm; omega))
                clear hdoes hF7 hb7 hk7))
            | (go_at_call 45; (with_reducible refine (HS.out _ _ _ _ _ _ HIS.out HF7.out.yard HD7.out).mono ?_); go_loud (
                rintro e w8 ⟨rfl, hx⟩
                have HX8 := hid hx
                have HB8 := hid (below_of_grew HB7.out (HB7.out.size) hx)
                clear hx)))
          go_roundg (n2 - (j + 1))
          case measure => have := HKj.out; omega
          case rel => exact ⟨j + 1, F7, by omega, by go_num, rfl, hid (by rw [HTK.out, HAS.out]; exact HF7.out.grew HX8.out), HB8⟩
      · obtain rfl : j = n2 := by omega
        have htk : l2.take j = l2 := List.take_of_length_le (by rw [HLN.out]; omega)
        rw [htk] at HYJ
        rename World => wr
        obtain ⟨Yc, hYc⟩ : ∃ Yc, after Yb l2 = Yc := ⟨_, rfl⟩
        rw [hYc] at HYJ
        have HYC := hid hYc
        have HYw := hid (HY4.out.grew HGR.out)
        have HZw := hid (HZ4.out.grew HGR.out)
        have HLTY := hid (fun k hk => HY4.out.lt k hk)
        clear htk hYc
        go_wp2_with (go_at_call 45; (with_reducible refine (HS.out _ _ _ _ _ _ HIb.out HYw.out.yard HZw.out.yard).mono ?_); go_loud (
            rintro e w8 ⟨rfl, hx⟩
            have HY8 := hid (HYw.out.grew hx)
            have HC8 := hid (IsYardAt.grew HYJ.out.yard hx)
            have HG8 := hid (grew_trans HX4.out (grew_trans HGR.out hx))
            clear hx))
        have HDJ := hid (show ∀ k ∈ Fp, k ∉ FC from fun k h1 h2 => by have := HLTY.out k h1; have := HYJ.out.lo k h2; omega)
        have HIC := hid HYJ.out.inv
        go_loopg [14] j (fun k i wq => ∃ (q : Nat) (F : List Nat), q ≤ j ∧ i = .int .i64 q ∧ k = j - q ∧ Hid (YNew W0.heap.size wq B (after Yb (l2.take q)) F) ∧ Hid (IsYard wq C Yc FC) ∧ Hid (∀ k ∈ F, k ∉ FC) ∧ Hid (Grew W0 wq))
        case atStart => exact ⟨0, Fp, by omega, rfl, rfl, HY8, HC8, HDJ, HG8⟩
        case round =>
          obtain ⟨q, F, hq, rfl, hk, HYQ, HCQ, HDQ, HGQ⟩ := hrel
          have HKq := hid hk; clear hk
          have hwq := HGQ.out.size
          by_cases hlt : q < j
          · obtain ⟨x, hx⟩ : ∃ x, l2[q]? = some x := ⟨_, List.getElem?_eq_getElem (by rw [HLN.out]; exact hlt)⟩
            obtain ⟨b, off, rfl, hda⟩ := HDD.out q x hx
            have hda0 := hda.grew hda.lt HG0'.out
            have hda' := hda0.grew hda0.lt HGQ.out
            have k0 := hda'.c0
            have k1 := hda'.c1
            have k2 := hda'.c2
            have k3 := hda'.c3
            have hblt := hda'.lt
            obtain ⟨d, aa, bb, c⟩ := x
            simp only at k0 k1 k2 k3
            have HTK := hid (take_snoc hx)
            rename World => wq
            have has := after_snoc Yb (l2.take q) ⟨d, aa, bb, c⟩
            have hIs := HYQ.out.inv.doD d aa bb c
            have HAS := hid has
            have HIS := hid hIs
            have HDO := hid (do_any (after Yb (l2.take q)) HYQ.out.inv B F d aa bb c wq HYQ.out.yard)
            clear has hIs hx hda hda' hda0
            go_wp2_with (go_at_call 18; (with_reducible refine HDO.out.mono ?_); go_loud (
                rintro e w9 hdp
                unfold DoPost at hdp
                obtain ⟨rfl, hdoes⟩ := hdp
                obtain ⟨F9, hF9, hb9, hk9, hf9⟩ := HYQ.out.does hwq hdoes HIS.out
                have HF9 := hid hF9
                have HB9 := hid (HGQ.out.trans hb9)
                have HC9 := hid (IsYardAt.keeps HCQ.out hk9 (fun k _ hk hm => HDQ.out k hm hk))
                have HD9 := hid (show ∀ k ∈ F9, k ∉ FC from fun k h1 h2 => (hf9 k h1).elim (fun h => HDQ.out k h h2) (fun h => by have := IsYardAt.lt HCQ.out k h2; omega))
                clear hdoes hF9 hb9 hk9 hf9))
            go_roundg (j - (q + 1))
            case measure => have := HKq.out; omega
            case rel => exact ⟨q + 1, F9, by omega, by go_num, rfl, hid (by rw [HTK.out, HAS.out]; exact HF9.out), HC9, HD9, HB9⟩
          · obtain rfl : q = j := by omega
            have htk : l2.take q = l2 := List.take_of_length_le (by rw [HLN.out]; omega)
            rw [htk, HYC.out] at HYQ
            clear htk
            rename World => wq
            have HS2 := hid (fun (y : World) (hy : Grew wq y) => HS.out y _ _ _ _ _ HIC.out (IsYardAt.grew HYQ.out.yard hy) (IsYardAt.grew HCQ.out hy))
            have HS3 := hid (fun (y : World) (hy : Grew wq y) => HS.out y _ _ _ _ _ HIC.out (IsYardAt.grew HCQ.out hy) (IsYardAt.grew HYQ.out.yard hy))
            have hg := grew_refl wq
            go_wp2_with (first
              | (go_at_call 45; (with_reducible refine (HS2.out _ hg).mono ?_); rintro e w10 ⟨rfl, hx⟩; replace hg := grew_trans hg hx; clear hx)
              | (go_at_call 45; (with_reducible refine (HS3.out _ hg).mono ?_); rintro e w10 ⟨rfl, hx⟩; replace hg := grew_trans hg hx; clear hx)
              | (go_at_call 12; with_reducible refine (sane_any _).mono ?_; rintro e wz ⟨rfl, hx⟩; replace hg := grew_trans hg hx; clear hx))
            go_ret
            exact ⟨rfl, grew_trans HG0'.out (grew_trans HGQ.out hg)⟩

end Go.Proofs.Ytcifpigjcfkhmaa
