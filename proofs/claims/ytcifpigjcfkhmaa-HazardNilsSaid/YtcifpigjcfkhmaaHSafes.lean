/- The law HazardSafes, walked: it answers true. -/
import Derived.Test.YtcifpigjcfkhmaaHDone
namespace Go.Lin.Hz

theorem threads_after (Y : Yd) (l : List Dd) : (after Y l).th.length = Y.th.length := by
  induction l generalizing Y with
  | nil => rfl
  | cons x l ih => rw [after, ih, threads_doD]

theorem size_after (Y : Yd) (l : List Dd) : (after Y l).size = Y.size := by
  induction l generalizing Y with
  | nil => rfl
  | cons x l ih => rw [after, ih, size_doD]

theorem heldAll_le (Y : Yd) : (heldAll Y).length ≤ 8 := Nat.le_trans (List.length_filter_le _ _) (by simp)

theorem heldAll_lt (Y : Yd) {j : Nat} (h0 : 0 < j) (hj : j < (heldAll Y).length) : nth (heldAll Y) (j - 1) < nth (heldAll Y) j := by
  rw [nth_lt (by omega), nth_lt hj]
  exact List.pairwise_iff_getElem.1 (heldAll_up Y) (j - 1) j (by omega) hj (by omega)

end Go.Lin.Hz
namespace Go.Proofs.Ytcifpigjcfkhmaa
open Go.RowKit Go.Lin Go.Lin.Hz

theorem seg_ints {w : World} {base : Nat} {v : Value} {l : List Int} (h : Seg w base 3 1 v l.length (l.map (.int .i64))) : IsInts Any w v l := (Lst.reads (Lst.of_seg h).1).any

theorem nil_deeds (w : World) : IsDeeds w (.slice none 0 0) [] := ⟨none, 0, rfl, by simp, fun i x h => by simp at h⟩

/-- What the law Safes sees of a slot. -/
theorem use_slot {Y : Yd} (hY : Hz.Inv Y) {t s : Int} (ht : isT Y t = true) (hs : isS s = true) :
    (slot Y t s = (-1, 0) ∧ use Y t s = (0, 5)) ∨ ∃ x : Int, 0 ≤ x ∧ x ∈ heldAll Y ∧ slot Y t s = (x, 0) ∧ use Y t s = (x, 0) := by
  have h1 : slot Y t s = ((thAt Y t).slot s, 0) := by simp [slot, ht, hs]
  have h2 : use Y t s = if (thAt Y t).slot s = -1 then (0, 5) else ((thAt Y t).slot s, 0) := by simp [use, ht, hs]
  rcases slot_cases hY ht (s := s) with h | ⟨h, h'⟩
  · left; rw [h1, h2, h]; simp
  · right; exact ⟨_, h', h, h1, by rw [h2, if_neg (by omega)]⟩

set_option maxHeartbeats 16000000 in
set_option maxRecDepth 100000 in
theorem safes_law (m : Int × Int) (l : List Dd) (v0 v : Value) (w : World) (h0 : IsShape v0 m) (hv : IsDeeds w v l) :
    Calls Try.prog 4 #[v0, v] w fun e w' => e = .returned (.bool true) ∧ Grew w w' := by
  obtain ⟨rfl, hm1, hm2⟩ := h0
  have hN := shaped_new hm1.1 hm2.1
  have hI0 : Hz.Inv (shaped m) := new_inv hN
  have HD := hid (fun y => done_any m hm1 hm2 [] (.slice none 0 0) y (nil_deeds y))
  have hT : (shaped m).th.length = (1 + m.1 % 4).toNat := by simp [shaped, new]
  obtain ⟨Y0, hY0⟩ : ∃ Y0, shaped m = Y0 := ⟨_, rfl⟩
  rw [hY0] at hI0 hT
  rw [hY0, show after Y0 [] = Y0 from rfl] at HD
  obtain ⟨a, b⟩ := m
  simp only at hm1 hm2 HD hT ⊢
  obtain ⟨a0, a1⟩ := hm1
  obtain ⟨b0, b1⟩ := hm2
  obtain ⟨va, vc, rfl, hm, hdd⟩ := hv
  obtain ⟨n, hn⟩ : ∃ n, l.length = n := ⟨_, rfl⟩
  have HLN := hid hn
  have HDD := hid hdd
  rw [hn] at hm ⊢
  obtain ⟨W0, hW0, g0, e0, e1, hz0⟩ := box2 w (.int .u8 a) (.int .u8 b) 36
  have hg := g0
  have hT4 : Y0.th.length ≤ 4 := hI0.th.2
  obtain ⟨T, hTT⟩ : ∃ T : Nat, (1 + a % 4).toNat = T := ⟨_, rfl⟩
  have hTa : (1 + a % 4 : Int) = (T : Int) := by have := Int.emod_nonneg a (show (4 : Int) ≠ 0 by decide); omega
  rw [hTT] at hT
  have hTle : T ≤ 4 := by rw [← hT]; exact hT4
  have HTA := hid hTa
  have HT := hid hT
  clear hn hdd hN hY0 hT hTT hTa
  by_cases h100 : 100 < n
  · have hd : decide (100 < (n : Int)) = true := by simp; omega
    clear h100
    go_enter Try.func4, Try.ntmps4
    go_wp2_with (go_at_call 12; with_reducible refine (sane_any _).mono ?_; rintro e w1 ⟨rfl, hx⟩; replace hg := grew_trans hg hx)
    go_ret
    exact ⟨rfl, hg⟩
  · have hd : decide (100 < (n : Int)) = false := by simp; omega
    clear h100
    go_enter Try.func4, Try.ntmps4
    go_wp2_with (go_at_call 17; (with_reducible refine (HD.out _).mono ?_); rintro e w2 ⟨B, Fp, rfl, hy, hx⟩; have HY2 := hid hy; have HX := hid hx; clear hy hx)
    clear hg
    go_loopg [6, 7, 8, 9, 10, 11, 12, 13, 14, 15, 16, 45, 89, 96] n (fun k i _ _ _ _ _ _ _ _ _ _ _ _ _ wr => ∃ (j : Nat) (Fp : List Nat), j ≤ n ∧ i = .int .i64 j ∧ k = n - j ∧ Hid (YNew W0.heap.size wr B (after Y0 (l.take j)) Fp) ∧ Hid (Grew W0 wr))
    case atStart => exact ⟨0, Fp, by omega, rfl, rfl, HY2, HX⟩
    case round =>
      obtain ⟨j, Fp, hj, rfl, hk, HYJ, HGR⟩ := hrel
      have HKj := hid hk; clear hk
      have hwr := HGR.out.size
      by_cases hlt : j < n
      · obtain ⟨x, hx⟩ : ∃ x, l[j]? = some x := ⟨_, List.getElem?_eq_getElem (by rw [HLN.out]; exact hlt)⟩
        obtain ⟨b, off, rfl, hda⟩ := HDD.out j x hx
        have hda0 := hda.grew hda.lt g0
        have hda' := hda0.grew hda0.lt HGR.out
        have k0 := hda'.c0
        have k1 := hda'.c1
        have k2 := hda'.c2
        have k3 := hda'.c3
        have hbw := hda'.lt
        obtain ⟨d, aa, bb, c⟩ := x
        simp only at k0 k1 k2 k3
        have HTK := hid (take_snoc hx)
        rename World => wr
        have HDO := hid (do_any (after Y0 (l.take j)) HYJ.out.inv B Fp d aa bb c wr HYJ.out.yard)
        have has := after_snoc Y0 (l.take j) ⟨d, aa, bb, c⟩
        have hIs := HYJ.out.inv.doD d aa bb c
        have HTY := hid (show (doD (after Y0 (l.take j)) d aa bb c).1.th.length = T by rw [threads_doD, threads_after]; exact HT.out)
        obtain ⟨Y', r', hr⟩ : ∃ Y' r', doD (after Y0 (l.take j)) d aa bb c = (Y', r') := ⟨_, _, rfl⟩
        have HDR := hid hr
        rw [hr] at has hIs HTY
        have HAS := hid has
        have HIS := hid hIs
        clear has hIs hx hda hda' hda0 hr
        have HHE := hid (fun (y : World) (tb cap : Nat) (lv : List Value) (h : YView y B Y' tb cap lv) => held19_any Y' HIS.out B tb cap lv y h)
        obtain ⟨L, hL⟩ : ∃ L, heldAll Y' = L := ⟨_, rfl⟩
        rw [hL] at HHE
        have HLL := hid hL
        obtain ⟨ln, hln⟩ : ∃ n, L.length = n := ⟨_, rfl⟩
        have hl8 : ln ≤ 8 := by rw [← hln, ← hL]; exact heldAll_le _
        rw [hln] at HHE
        have HLNN := hid hln
        clear hL hln
        go_wp2_with (first
          | (go_at_call 18; (with_reducible refine HDO.out.mono ?_); go_loud (
              rintro e w5 hdp
              unfold DoPost at hdp
              rw [HDR.out] at hdp
              obtain ⟨rfl, hdoes⟩ := hdp
              obtain ⟨Fp', hy5, hb5, -, -⟩ := HYJ.out.does hwr hdoes HIS.out
              have HY5 := hid hy5
              have HB5 := hid (HGR.out.trans hb5)
              obtain ⟨tb, cap, lv, hview, -⟩ := IsYard.view hy5.yard HIS.out
              have HVW := hid hview
              clear hy5 hb5 hdoes hview))
          | (go_at_call 19; (with_reducible refine (HHE.out _ _ _ _ HVW.out).mono ?_); go_loud (
              rintro e w6 ⟨u, rfl, hsu, hg6⟩
              obtain ⟨ua, uc, rfl, -⟩ := hsu.shape
              have HU := hid (seg_ints (l := L) (by rw [HLNN.out]; exact hsu))
              have HG6 := hid hg6
              clear hsu hg6)))
        have HSTA := hid (fun (q : Nat) (hq : q < ln) => show isN (nth L q) = true ∧ stAt Y' (nth L q) ≠ 0 by
          have hm : nth L q ∈ heldAll Y' := by rw [HLL.out, nth_lt (by rw [HLNN.out]; exact hq)]; exact List.getElem_mem _
          have h2 := mem_heldAll.1 hm
          exact ⟨h2.1, held_state HIS.out h2.1 h2.2⟩)
        have HUP := hid (fun (q : Nat) (h0 : 0 < q) (hq : q < ln) => show nth L (q - 1) < nth L q by
          have := heldAll_lt Y' (j := q) h0 (by rw [HLL.out, HLNN.out]; exact hq)
          rwa [HLL.out] at this)
        obtain ⟨_, _, hue, -, huc⟩ := HU.out
        rw [HLNN.out] at hue huc
        simp only [Value.slice.injEq, true_and] at hue
        obtain ⟨rfl, rfl⟩ := hue
        have HUC := hid huc
        have h56 := Nat.le_trans HB5.out.size HG6.out.size
        clear huc
        go_loopg [8, 9, 10, 45] ln (fun k i _ _ _ wq => ∃ q : Nat, q ≤ ln ∧ i = .int .i64 q ∧ k = ln - q ∧ Hid (Grew w6 wq))
        case atStart => exact ⟨0, by omega, rfl, rfl, hid (grew_refl _)⟩
        case round =>
          obtain ⟨q, hq, rfl, hk, HGQ⟩ := hrel
          have HK := hid hk; clear hk
          have hwq := HGQ.out.size
          rename World => wq
          by_cases hqt : q < ln
          · obtain ⟨b2, off2, o2, rfl, hb2, _, hcu⟩ := HUC.out q hqt
            have hb2l := lt_of_obj hb2
            have hcu' := (HGQ.out.cell (p := ⟨b2, off2 + q, none⟩) hb2l).trans hcu
            have hb2q := Nat.lt_of_lt_of_le hb2l hwq
            have hsta := HSTA.out q hqt
            obtain ⟨x, hx⟩ : ∃ x, nth L q = x := ⟨_, rfl⟩
            replace hcu' : _ = some (Value.int .i64 (nth L q)) := hcu'
            rw [hx] at hcu' hsta
            have HX := hid hx
            have hst := state_any HIS.out B x wq (((HVW.out.grew HG6.out).grew HGQ.out).head)
            have hso : stateOf Y' x = (stAt Y' x, 0) := by simp [stateOf, hsta.1]
            rw [hso] at hst
            obtain ⟨y, hy⟩ : ∃ y, stAt Y' x = y := ⟨_, rfl⟩
            rw [hy] at hst hsta
            have hy0 : (y == 0) = false := by simpa using hsta.2
            have HST := hid hst
            clear hst hso hsta hx hy hcu
            rcases Nat.eq_zero_or_pos q with rfl | hq0
            · rw [Nat.add_zero] at hcu'
              go_wp2_with (go_at_call 20; (with_reducible refine HST.out.mono ?_); rintro e w7 ⟨rfl, hx7⟩; have HG7 := hid hx7; have hc7 := (bcell hx7).1; have hsz7 := hx7.size; clear hx7)
              go_quiet (fail)
              go_wp2
              go_roundg (ln - (0 + 1))
              case measure => have := HK.out; omega
              case rel => exact ⟨0 + 1, by omega, by go_num, rfl, hid (grew_drewN (grew_trans HGQ.out HG7.out) _)⟩
            · obtain ⟨b3, off3, o3, hva3, hb3, _, hcu3⟩ := HUC.out (q - 1) (by omega)
              simp only [Option.some.injEq, Addr.mk.injEq, and_true] at hva3
              obtain ⟨rfl, rfl⟩ := hva3
              replace hcu3 := (HGQ.out.cell (p := ⟨b2, off2 + (q - 1), none⟩) hb2l).trans hcu3
              replace hcu3 : _ = some (Value.int .i64 (nth L (q - 1))) := hcu3
              have hup := HUP.out q hq0 hqt
              rw [HX.out] at hup
              obtain ⟨z, hz⟩ : ∃ z, nth L (q - 1) = z := ⟨_, rfl⟩
              rw [hz] at hcu3 hup
              have hle : decide (x ≤ z) = false := by simp; omega
              have hd0 : decide ((0 : Int) < (q : Int)) = true := by simp; omega
              obtain ⟨q1, rfl⟩ : ∃ q1, q = q1 + 1 := ⟨q - 1, by omega⟩
              rw [show q1 + 1 - 1 = q1 from rfl] at hcu3
              clear hz hup hb3
              go_wp2_with (go_at_call 20; (with_reducible refine HST.out.mono ?_); rintro e w7 ⟨rfl, hx7⟩; have HG7 := hid hx7; have hc7 := (bcell hx7).1; have hsz7 := hx7.size; clear hx7)
              go_quiet (fail)
              go_wp2
              go_roundg (ln - (q1 + 1 + 1))
              case measure => have := HK.out; omega
              case rel => exact ⟨q1 + 1 + 1, by omega, by go_num, rfl, hid (grew_drewN (grew_trans HGQ.out HG7.out) _)⟩
          · obtain rfl : q = ln := by omega
            go_wp2
            go_loopg [11, 12, 13, 14, 15, 16, 89, 96] T (fun k i _ _ _ _ _ _ _ wt => ∃ t : Nat, t ≤ T ∧ i = .int .i64 t ∧ k = T - t ∧ Hid (Grew w6 wt))
            case atStart => exact ⟨0, by omega, rfl, rfl, HGQ⟩
            case round =>
              obtain ⟨t, ht, rfl, hk, HGT⟩ := hrel
              have HKt := hid hk; clear hk
              have HGT5 := hid (grew_trans HG6.out HGT.out)
              have hwt := Nat.le_trans HB5.out.size HGT5.out.size
              have e0t := (HGT5.out.cell (p := ⟨w.heap.size, 0, none⟩) (Nat.lt_of_lt_of_le hz0 HB5.out.size)).trans ((HB5.out.cell (p := ⟨w.heap.size, 0, none⟩) hz0).trans e0)
              have hz0t := Nat.lt_of_lt_of_le hz0 hwt
              rename World => wt
              by_cases htt : t < T
              · have hdt : decide ((t : Int) < 1 + a % 4) = true := by rw [HTA.out]; simp; omega
                have hTi := hid (show isT Y' (t : Int) = true from isT_iff.2 (by rw [HTY.out]; omega))
                go_wp2
                go_loopg [12, 13, 14, 15, 16, 89, 96] 2 (fun k i _ _ _ _ _ _ ws => ∃ s : Nat, s ≤ 2 ∧ i = .int .i64 s ∧ k = 2 - s ∧ Hid (Grew w6 ws))
                case atStart => exact ⟨0, by omega, rfl, rfl, HGT⟩
                case round =>
                  obtain ⟨s, hs, rfl, hk, HGS⟩ := hrel
                  have HK2 := hid hk; clear hk
                  rename World => ws
                  by_cases hss : s < 2
                  · have hU := use_any Y' HIS.out B tb cap lv (t : Int) (s : Int) ws (HVW.out.grew (grew_trans HG6.out HGS.out))
                    have hS := fun (y : World) (hy : Grew ws y) => slot_any Y' HIS.out B tb cap lv (t : Int) (s : Int) y ((HVW.out.grew (grew_trans HG6.out HGS.out)).grew hy)
                    have hcs := use_slot HIS.out hTi.out (s := (s : Int)) (isS_iff.2 (by omega))
                    have hg := grew_refl ws
                    rcases hcs with ⟨h1, h2⟩ | ⟨x, hx0, hxm, h1, h2⟩
                    · rw [h2] at hU
                      rw [h1] at hS
                      have HU2 := hid hU
                      have HS2 := hid hS
                      clear h1 h2 hU hS
                      go_wp2_with (first
                        | (go_at_call 21; (with_reducible refine HU2.out.mono ?_); rintro e w7 ⟨rfl, hx7⟩; replace hg := grew_trans hg hx7; clear hx7)
                        | (go_at_call 22; (with_reducible refine (HS2.out _ hg).mono ?_); rintro e w8 ⟨rfl, hx8⟩; replace hg := grew_trans hg hx8; clear hx8))
                      go_roundg (2 - (s + 1))
                      case measure => have := HK2.out; omega
                      case rel => exact ⟨s + 1, by omega, by go_num, rfl, hid (grew_trans HGS.out hg)⟩
                    · rw [h2] at hU
                      rw [h1] at hS
                      have HU2 := hid hU
                      have HS2 := hid hS
                      have hd1 : decide ((0 : Int) ≤ x) = true := by simpa using hx0
                      have HAS2 := hid (fun (y : World) (hy : Grew w6 y) => has_any _ L x y (Reads.grew HU.out hy))
                      rw [show decide (x ∈ L) = true by rw [← HLL.out]; simpa using hxm] at HAS2
                      clear h1 h2 hU hS hxm
                      go_wp2_with (first
                        | (go_at_call 21; (with_reducible refine HU2.out.mono ?_); rintro e w7 ⟨rfl, hx7⟩; replace hg := grew_trans hg hx7; clear hx7)
                        | (go_at_call 22; (with_reducible refine (HS2.out _ hg).mono ?_); rintro e w8 ⟨rfl, hx8⟩; replace hg := grew_trans hg hx8; clear hx8)
                        | (go_at_call 23; (with_reducible refine (HAS2.out _ (grew_trans HGS.out hg)).mono ?_); rintro e w9 ⟨rfl, rfl⟩))
                      go_roundg (2 - (s + 1))
                      case measure => have := HK2.out; omega
                      case rel => exact ⟨s + 1, by omega, by go_num, rfl, hid (grew_trans HGS.out hg)⟩
                  · obtain rfl : s = 2 := by omega
                    go_wp2
                    go_roundg (T - (t + 1))
                    case measure => have := HKt.out; omega
                    case rel => exact ⟨t + 1, by omega, by go_num, rfl, HGS⟩
              · have hdt : decide ((t : Int) < 1 + a % 4) = false := by rw [HTA.out]; simp; omega
                go_wp2
                go_roundg (n - (j + 1))
                case measure => have := HKj.out; omega
                case rel => exact ⟨j + 1, Fp', by omega, by go_num, rfl, hid (by rw [HTK.out, HAS.out]; exact HY5.out.grew HGT5.out), hid (grew_trans HB5.out HGT5.out)⟩
      · obtain rfl : j = n := by omega
        go_wp2_with (go_at_call 12; with_reducible refine (sane_any _).mono ?_; rintro e wz ⟨rfl, hx⟩; have HZ := hid hx; clear hx)
        go_ret
        exact ⟨rfl, grew_trans g0 (grew_trans HGR.out HZ.out)⟩

end Go.Proofs.Ytcifpigjcfkhmaa
