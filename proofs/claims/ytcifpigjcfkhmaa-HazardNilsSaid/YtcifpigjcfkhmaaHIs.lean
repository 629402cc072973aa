/- Walks: isOne, Is, called. -/
import Derived.Test.YtcifpigjcfkhmaaHCopies
namespace Go.Proofs.Ytcifpigjcfkhmaa
open Go.RowKit Go.Lin Go.Lin.Hz

set_option maxHeartbeats 1000000 in
theorem isOne_bad (t s : Int) (w : World) (h : isNew t s = false) : Calls Try.prog 30 #[.pointer none, .int .i64 2, .int .i64 t, .int .i64 s] w fun e w' => e = .returned (.bool true) ∧ Grew w w' := by
  have HN := hid (isNew_any t s w)
  rw [h] at HN
  have hg := grew_refl w
  clear h
  go_enter Try.func30, Try.ntmps30
  go_wp2_with (go_at_call 14; with_reducible refine HN.out.mono ?_; rintro e w3 ⟨rfl, hx⟩; replace hg := grew_trans hg hx)
  go_ret
  exact ⟨rfl, hg⟩

set_option maxHeartbeats 1000000 in
theorem isOne_ok (t s : Int) (B : Nat) (w : World) (h : isNew t s = true) : Calls Try.prog 30 #[.pointer (some ⟨B, 0, none⟩), .int .i64 0, .int .i64 t, .int .i64 s] w fun e w' => e = .returned (.bool true) ∧ Grew w w' := by
  have HN := hid (isNew_any t s w)
  rw [h] at HN
  have hg := grew_refl w
  clear h
  go_enter Try.func30, Try.ntmps30
  go_wp2_with (go_at_call 14; with_reducible refine HN.out.mono ?_; rintro e w3 ⟨rfl, hx⟩; replace hg := grew_trans hg hx)
  go_ret
  exact ⟨rfl, hg⟩

set_option maxHeartbeats 8000000 in
set_option maxRecDepth 100000 in
theorem is_any (Y : Yd) (hI : Hz.Inv Y) (B b : Nat) (F : List Nat) {sb sc lb lc : Nat} {lv : List Value} {Lb : List Nat} (w : World) (hy : IsYard w B Y F) (hr : RAll w b Y sb sc lb lc lv Lb) :
    Calls Try.prog 44 #[.pointer (some ⟨B, 0, none⟩), .pointer (some ⟨b, 0, none⟩)] w fun e w' => e = .returned (.bool true) ∧ Grew w w' := by
  obtain ⟨tb, cap, lv', hv, -⟩ := IsYard.view hy hI
  have HV := hid hv
  have HR := hid hr
  have hc := hr.cell
  have HC := hid hc
  have hlt := hc.lt
  have hlt2 := hc.slt
  have hlt3 := hc.llt
  have hst := hI.st
  have h4 := hI.th.2
  have HB := hid (fun (y : World) (hy : Grew w y) => by26_any Y hI B y (hv.grew hy).head)
  have HF := hid (fun (y : World) (hy : Grew w y) => free29_any Y hI B y (hv.grew hy).head)
  have HC2 := hid (fun (s : Int) (y : World) (hy : Grew w y) => rCount_any Y hst b s y (hr.grew hy).cell)
  have HH := hid (fun (y : World) (hyy : Grew w y) => held19_any Y hI B tb cap lv' y (hv.grew hyy))
  have HRH := hid (fun (y : World) (hyy : Grew w y) => rHeld_any Y h4 b y (hr.grew hyy))
  have HL := hid (fun (t : Int) (y : World) (hyy : Grew w y) => list_any Y hI B F t y (IsYardAt.grew hy hyy))
  have HS := hid (fun (n : Int) (y : World) (hyy : Grew w y) => state_any hI B n y (hv.grew hyy).head)
  have HSL := hid (fun (t s : Int) (y : World) (hyy : Grew w y) => slot_any Y hI B tb cap lv' t s y (hv.grew hyy))
  have HLEN := hid (fun t (h : isT Y t = true) => list_le hI h)
  obtain ⟨T, hT⟩ : ∃ T, Y.th.length = T := ⟨_, rfl⟩
  rw [hT] at h4
  have HT := hid hT
  obtain ⟨c2, hc2⟩ : ∃ c, count Y 2 = c := ⟨_, rfl⟩
  obtain ⟨c0, hc0⟩ : ∃ c, count Y 0 = c := ⟨_, rfl⟩
  rw [hc2] at HB
  rw [hc0] at HF
  have HCA := hid (fun (y : World) (hy : Grew w y) => show Calls Try.prog 69 #[.pointer (some ⟨b, 0, none⟩), .int .i64 2] y fun e w' => e = .returned (.int .i64 c2) ∧ y = w' by rw [← hc2]; exact HC2.out 2 y hy)
  have HCB := hid (fun (y : World) (hy : Grew w y) => show Calls Try.prog 69 #[.pointer (some ⟨b, 0, none⟩), .int .i64 0] y fun e w' => e = .returned (.int .i64 c0) ∧ y = w' by rw [← hc0]; exact HC2.out 0 y hy)
  obtain ⟨L, hL⟩ : ∃ L, heldAll Y = L := ⟨_, rfl⟩
  rw [hL] at HH HRH
  have hg := grew_refl w
  clear hT hc2 hc0 hL hy hr hv hst hc HC2
  go_enter Try.func44, Try.ntmps44
  go_wp2_with (first
    | (go_at_call 26; (with_reducible refine (HB.out _ hg).mono ?_); rintro e w1 ⟨rfl, hx⟩; replace hg := grew_trans hg hx; clear hx)
    | (go_at_call 29; (with_reducible refine (HF.out _ hg).mono ?_); rintro e w1 ⟨rfl, hx⟩; replace hg := grew_trans hg hx; clear hx)
    | (go_at_call 69; (with_reducible refine (HCA.out _ hg).mono ?_); rintro e w1 ⟨rfl, rfl⟩)
    | (go_at_call 69; (with_reducible refine (HCB.out _ hg).mono ?_); rintro e w1 ⟨rfl, rfl⟩)
    | (go_at_call 19; (with_reducible refine (HH.out _ hg).mono ?_); rintro e w2 ⟨u, rfl, hs, hx⟩; have HU := hid (seg_ints hs); replace hg := grew_trans hg hx; clear hx hs)
    | (go_at_call 70; (with_reducible refine (HRH.out _ hg).mono ?_); rintro e w3 ⟨u2, rfl, hs, hx⟩; have HU2 := hid (seg_ints hs); have HU3 := hid (Reads.grew HU.out hx); replace hg := grew_trans hg hx; clear hx hs)
    | (go_at_call 34; (with_reducible refine (sameInts_any _ _ L L _ HU3.out HU2.out).mono ?_); rw [show (L == L) = true by simp]; rintro e w4 ⟨rfl, hx⟩; replace hg := grew_trans hg hx; clear hx))
  have HG := hid hg
  clear hg
  go_loopg [5, 6, 7, 38] 8 (fun k i _ _ _ wr => ∃ q : Nat, q ≤ 8 ∧ i = .int .i64 q ∧ k = 8 - q ∧ Hid (Grew w wr))
  case atStart => exact ⟨0, by omega, rfl, rfl, HG⟩
  case round =>
    obtain ⟨q, hq, rfl, hk, HGQ⟩ := hrel
    have HKq := hid hk; clear hk
    rename World => wr
    by_cases hq8 : q < 8
    · have hs := HS.out (q : Int) wr HGQ.out
      have hso : stateOf Y (q : Int) = (nth Y.st q, 0) := by
        have : isN (q : Int) = true := isN_iff.2 (by omega)
        simp [stateOf, this, stAt]
      rw [hso] at hs
      have hcq := HC.out.cs q hq8
      obtain ⟨x, hx⟩ : ∃ x, nth Y.st q = x := ⟨_, rfl⟩
      rw [hx] at hs hcq
      have HSQ := hid hs
      clear hs hso hx
      go_wp2_with (go_at_call 20; (with_reducible refine HSQ.out.mono ?_); rintro e w5 ⟨rfl, hx⟩; have HX := hid (grew_trans HGQ.out hx); have hcq' := ((HX.out).cell (p := ⟨b, 2 + q, none⟩) hlt).trans hcq; have hltq := Nat.lt_of_lt_of_le hlt HX.out.size; clear hx)
      go_roundg (8 - (q + 1))
      case measure => have := HKq.out; omega
      case rel => exact ⟨q + 1, by omega, by go_num, rfl, HX⟩
    · obtain rfl : q = 8 := by omega
      go_wp2
      go_loopg [8, 9, 10, 11, 12, 13, 64, 88] T (fun k i _ _ _ _ _ _ _ wt => ∃ t : Nat, t ≤ T ∧ i = .int .i64 t ∧ k = T - t ∧ Hid (Grew w wt))
      case atStart => exact ⟨0, by omega, rfl, rfl, HGQ⟩
      case round =>
        obtain ⟨t, ht, rfl, hk, HGT⟩ := hrel
        have HKt := hid hk; clear hk
        rename World => wt
        have hct := (HR.out.grew HGT.out).cell
        have d0 := hct.c0
        rw [HT.out] at d0
        have hltt := hct.lt
        by_cases htt : t < T
        · have hisT : isT Y (t : Int) = true := isT_iff.2 (by rw [HT.out]; omega)
          have d11 := hct.c11
          have d10 := hct.c10
          rw [HT.out] at d11 d10
          obtain ⟨v, hvv, -⟩ := HR.out.list t (by rw [HT.out]; exact htt)
          have hls := (HR.out.grew HGT.out).list_at (i := t) (by rw [HT.out]; exact htt) hvv
          have dl := hct.l t (by rw [HT.out]; exact htt)
          rw [hvv] at dl
          have da := hct.a t (by rw [HT.out]; exact htt)
          have db := hct.b' t (by rw [HT.out]; exact htt)
          have hslt := hct.slt
          have hllt := hct.llt
          have hlist := HL.out (t : Int) wt HGT.out
          have hlo : listOf Y (t : Int) = ((thAt Y (t : Int)).l, 0) := by simp [listOf, hisT]
          rw [hlo] at hlist
          have h8 := HLEN.out (t : Int) hisT
          obtain ⟨l, hl⟩ : ∃ l, (thAt Y (t : Int)).l = l := ⟨_, rfl⟩
          rw [hl] at hlist hls h8
          have HLI := hid hlist
          have HLS := hid (Reads.any hls)
          obtain ⟨ra, rc, hve, -⟩ := hls
          obtain ⟨nl, hnl⟩ : ∃ n, l.length = n := ⟨_, rfl⟩
          rw [hnl] at hve h8
          subst hve
          have hslot := fun s => HSL.out (t : Int) s
          have hse : ∀ s : Int, isS s = true → slot Y (t : Int) s = ((Y.th.getD t noTh).slot s, 0) := by
            intro s hs; simp [slot, hisT, hs, thAt]
          obtain ⟨th, hth⟩ : ∃ th, Y.th.getD t noTh = th := ⟨_, rfl⟩
          rw [hth] at da db hse
          have HSE := hid hse
          have HSLT := hid hslot
          clear hlist hlo hl hnl hslot hse hth hisT hvv hct
          go_wp2_with (first
            | (go_at_call 32; (with_reducible refine HLI.out.mono ?_); go_loud (
                rintro e w6 ⟨u, rfl, hsu, hx⟩
                have HU := hid (seg_ints hsu)
                have HL6 := hid (Reads.grew HLS.out hx)
                have e11 := (hx.cell (p := ⟨b, 11, none⟩) hltt).trans d11
                have el := (hx.cell (p := ⟨lb, t, none⟩) hllt).trans dl
                have hltt6 := Nat.lt_of_lt_of_le hltt hx.size
                have hllt6 := Nat.lt_of_lt_of_le hllt hx.size
                have HX6 := hid hx
                clear hx hsu))
            | (go_at_call 34; (with_reducible refine (sameInts_any _ _ l l _ HU.out HL6.out).mono ?_); rw [show (l == l) = true by simp]; rintro e w7 ⟨rfl, hx⟩; have HX7 := hid (grew_trans HX6.out hx); clear hx))
          have HGW7 := hid (grew_trans HGT.out HX7.out)
          go_loopg [11, 12, 13, 88] 2 (fun k i _ _ _ ws => ∃ s : Nat, s ≤ 2 ∧ i = .int .i64 s ∧ k = 2 - s ∧ Hid (Grew wt ws))
          case atStart => exact ⟨0, by omega, rfl, rfl, HX7⟩
          case round =>
            obtain ⟨s, hs, rfl, hk, HGS⟩ := hrel
            have HKs := hid hk; clear hk
            rename World => ws
            by_cases hss : s < 2
            · have hsl := HSLT.out (s : Int) ws (grew_trans HGT.out HGS.out)
              rw [HSE.out (s : Int) (isS_iff.2 (by omega))] at hsl
              obtain ⟨x, hx⟩ : ∃ x, th.slot (s : Int) = x := ⟨_, rfl⟩
              rw [hx] at hsl
              have HSL2 := hid hsl
              clear hsl
              obtain rfl | rfl : s = 0 ∨ s = 1 := by omega
              · have hx' : th.a = x := by rw [← hx]; rfl
                rw [show ((0 : Nat) : Int) = 0 from rfl] at HSL2
                rw [hx'] at da
                clear hx hx'
                go_wp2_with (go_at_call 22; (with_reducible refine HSL2.out.mono ?_); go_loud (
                  rintro e w8 ⟨rfl, hx⟩
                  have HX8 := hid (grew_trans HGS.out hx)
                  have f10 := ((HX8.out).cell (p := ⟨b, 10, none⟩) hltt).trans d10
                  have fa := ((HX8.out).cell (p := ⟨sb, t * 2, none⟩) hslt).trans da
                  have hl8 := Nat.lt_of_lt_of_le hltt HX8.out.size
                  have hs8 := Nat.lt_of_lt_of_le hslt HX8.out.size
                  clear hx))
                go_roundg (2 - (0 + 1))
                case measure => have := HKs.out; omega
                case rel => exact ⟨0 + 1, by omega, by go_num, rfl, HX8⟩
              · have hx' : th.b = x := by rw [← hx]; rfl
                rw [show ((1 : Nat) : Int) = 1 from rfl] at HSL2
                rw [hx'] at db
                clear hx hx'
                go_wp2_with (go_at_call 22; (with_reducible refine HSL2.out.mono ?_); go_loud (
                  rintro e w8 ⟨rfl, hx⟩
                  have HX8 := hid (grew_trans HGS.out hx)
                  have f10 := ((HX8.out).cell (p := ⟨b, 10, none⟩) hltt).trans d10
                  have fa := ((HX8.out).cell (p := ⟨sb, t * 2 + 1, none⟩) hslt).trans db
                  have hl8 := Nat.lt_of_lt_of_le hltt HX8.out.size
                  have hs8 := Nat.lt_of_lt_of_le hslt HX8.out.size
                  clear hx))
                go_roundg (2 - (1 + 1))
                case measure => have := HKs.out; omega
                case rel => exact ⟨1 + 1, by omega, by go_num, rfl, HX8⟩
            · obtain rfl : s = 2 := by omega
              go_wp2
              go_roundg (T - (t + 1))
              case measure => have := HKt.out; omega
              case rel => exact ⟨t + 1, by omega, by go_num, rfl, hid (grew_trans HGT.out HGS.out)⟩
        · obtain rfl : t = T := by omega
          go_wp2
          go_ret
          exact ⟨rfl, HGT.out⟩

end Go.Proofs.Ytcifpigjcfkhmaa
