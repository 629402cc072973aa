/- The law HazardEnds, walked: it answers true. -/
import Derived.Test.YtcifpigjcfkhmaaHEnds
namespace Go.Proofs.Ytcifpigjcfkhmaa
open Go.RowKit Go.Lin Go.Lin.Hz

theorem count_range {Y : Yd} (hY : Hz.Inv Y) (s : Int) : 0 ≤ count Y s ∧ count Y s ≤ 8 := by
  unfold count
  have := List.length_filter_le (fun x => x == s) Y.st
  rw [hY.st] at this
  omega

set_option maxHeartbeats 16000000 in
set_option maxRecDepth 100000 in
theorem ends_law (m : Int × Int) (l : List Dd) (v0 v : Value) (w : World) (h0 : IsShape v0 m) (hv : IsDeeds w v l) :
    Calls Try.prog 5 #[v0, v] w fun e w' => e = .returned (.bool true) ∧ Grew w w' := by
  obtain ⟨rfl, hm1, hm2⟩ := h0
  have hN := shaped_new hm1.1 hm2.1
  have hI0 : Hz.Inv (shaped m) := new_inv hN
  obtain ⟨W0, hW0, g0, e0, e1, hz0⟩ := box2 w (.int .u8 m.1) (.int .u8 m.2) 36
  have HD := hid (done_any m hm1 hm2 l v W0 (hv.grew g0))
  have hT : (after (shaped m) l).th.length = (1 + m.1 % 4).toNat := by rw [threads_after]; simp [shaped, new]
  have hIb := hI0.after l
  obtain ⟨Yb, hYb⟩ : ∃ Yb, after (shaped m) l = Yb := ⟨_, rfl⟩
  rw [hYb] at hIb hT HD
  obtain ⟨a, b⟩ := m
  simp only at hm1 hm2 HD hT hW0 e0 e1 ⊢
  obtain ⟨a0, a1⟩ := hm1
  obtain ⟨b0, b1⟩ := hm2
  obtain ⟨va, vc, rfl, hm, -⟩ := hv
  obtain ⟨n, hn⟩ : ∃ n, l.length = n := ⟨_, rfl⟩
  rw [hn] at hm HD ⊢
  have hg := g0
  have hT4 : Yb.th.length ≤ 4 := hIb.th.2
  obtain ⟨T, hTT⟩ : ∃ T : Nat, (1 + a % 4).toNat = T := ⟨_, rfl⟩
  have hTa : (1 + a % 4 : Int) = (T : Int) := by have := Int.emod_nonneg a (show (4 : Int) ≠ 0 by decide); omega
  rw [hTT] at hT
  have hTle : T ≤ 4 := by rw [← hT]; exact hT4
  have HTA := hid hTa
  have HT := hid hT
  have HIb := hid hIb
  have I1 := hid (fun k (hk : k ≤ T) => twice_inv hIb k (by rw [hT]; exact hk))
  have L1 := hid (fun k => (twice_len Yb k).trans hT)
  obtain ⟨Y1, hY1⟩ : ∃ Y1, twice Yb T = Y1 := ⟨_, rfl⟩
  have HY1 := hid hY1
  have hIY1 : Hz.Inv Y1 := by rw [← hY1]; exact I1.out T (Nat.le_refl _)
  have hL1 : Y1.th.length = T := by rw [← hY1]; exact L1.out T
  have I2 := hid (fun k (hk : k ≤ T) => emptied_inv hIY1 k (by rw [hL1]; exact hk))
  have L2 := hid (fun k => (emptied_len Y1 k).trans hL1)
  obtain ⟨Y2, hY2⟩ : ∃ Y2, emptied Y1 T = Y2 := ⟨_, rfl⟩
  have HY2 := hid hY2
  have hIY2 : Hz.Inv Y2 := by rw [← hY2]; exact I2.out T (Nat.le_refl _)
  have hL2 : Y2.th.length = T := by rw [← hY2]; exact L2.out T
  have hno : NoSlots Y2 := by rw [← hY2, ← hL1]; exact emptied_noSlots
  have I3 := hid (fun k (hk : k ≤ T) => once_inv hIY2 k (by rw [hL2]; exact hk))
  have L3 := hid (fun k => (once_len Y2 k).trans hL2)
  have FR := hid (fun k (hk : k ≤ T) => freed_range hIY2 k (by rw [hL2]; exact hk))
  have hfin : freed Y2 T = count Y2 2 := by
    have h1 := freed_count hIY2 Y2.th.length (Nat.le_refl _)
    rw [once_by hIY2 hno, hL2] at h1; omega
  have hby0 : count (once Y2 T) 2 = 0 := by have := once_by hIY2 hno; rwa [hL2] at this
  have hhe0 : heldAll (once Y2 T) = [] := by have := once_held hno; rwa [hL2] at this
  obtain ⟨by', hby'⟩ : ∃ c, count Y2 2 = c := ⟨_, rfl⟩
  have hbyr := count_range hIY2 2
  rw [hby'] at hfin hbyr
  have HFIN := hid hfin
  have HBY0 := hid hby0
  have HHE0 := hid hhe0
  have HBY := hid hby'
  clear hn hN hYb hT hTT hTa hY1 hY2 hfin hby0 hhe0 hby' hno hL1 hL2 hIb hT4
  by_cases h100 : 100 < n
  · have hd : decide (100 < (n : Int)) = true := by simp; omega
    clear h100
    go_enter Try.func5, Try.ntmps5
    go_wp2_with (go_at_call 12; with_reducible refine (sane_any _).mono ?_; rintro e w1 ⟨rfl, hx⟩; replace hg := grew_trans hg hx)
    go_ret
    exact ⟨rfl, hg⟩
  · have hd : decide (100 < (n : Int)) = false := by simp; omega
    clear h100
    go_enter Try.func5, Try.ntmps5
    go_wp2_with (go_at_call 17; (with_reducible refine HD.out.mono ?_); rintro e w2 ⟨B, Fp, rfl, hy, hx⟩; have HY0 := hid hy; have HX := hid hx; have e0' := (hx.cell (p := ⟨w.heap.size, 0, none⟩) hz0).trans e0; have hz0' := Nat.lt_of_lt_of_le hz0 hx.size; clear hy hx)
    clear hg e0'
    go_loopg [7, 8, 9, 10, 11, 38, 44] T (fun k i _ _ _ _ _ _ wt => ∃ t : Nat, t ≤ T ∧ i = .int .i64 t ∧ k = T - t ∧ Hid (∃ Fp, YNew W0.heap.size wt B (twice Yb t) Fp) ∧ Hid (Grew W0 wt))
    case atStart => exact ⟨0, by omega, rfl, rfl, hid ⟨_, HY0.out⟩, HX⟩
    case round =>
      obtain ⟨t, ht, rfl, hk, HYT, HGT⟩ := hrel
      have HKt := hid hk; clear hk
      rename World => wt
      have hwt := HGT.out.size
      by_cases htt : t < T
      · have hdt : decide ((t : Int) < 1 + a % 4) = true := by rw [HTA.out]; simp; omega
        have hisT : isT (twice Yb t) (t : Int) = true := isT_iff.2 (by rw [L1.out]; omega)
        obtain ⟨F1, hF1⟩ := HYT.out
        have HS1 := hid (sweepW hF1 hwt hisT)
        have HS2 := hid (fun (y : World) (Fp : List Nat) (h : YNew W0.heap.size y B (sweepY (twice Yb t) t) Fp) (hb : W0.heap.size ≤ y.heap.size) => sweepW h hb (t := (t : Int)) (by rw [isT_sweepY]; exact hisT))
        rw [sweep_twice hisT] at HS2
        clear hF1 hisT
        go_wp2_with (first
          | (go_at_call 24; (with_reducible refine HS1.out.mono ?_); rintro e w7 ⟨rfl, ⟨F7, hF7⟩, hb7⟩; have HF7 := hid hF7; have HB7 := hid (HGT.out.trans hb7); have hs7 := HB7.out.size; clear hF7 hb7)
          | (go_at_call 24; (with_reducible refine (HS2.out _ _ HF7.out hs7).mono ?_); rintro e w8 ⟨rfl, hF8, hb8⟩; have HF8 := hid hF8; have HB8 := hid (HB7.out.trans hb8); clear hF8 hb8))
        go_roundg (T - (t + 1))
        case measure => have := HKt.out; omega
        case rel => exact ⟨t + 1, by omega, by go_num, rfl, HF8, HB8⟩
      · have hdt : decide ((t : Int) < 1 + a % 4) = false := by rw [HTA.out]; simp; omega
        obtain rfl : t = T := by omega
        rw [HY1.out] at HYT
        go_wp2
        go_loopg [12, 13] t (fun k i _ wu => ∃ u : Nat, u ≤ t ∧ i = .int .i64 u ∧ k = t - u ∧ Hid (∃ Fp, YNew W0.heap.size wu B (emptied Y1 u) Fp) ∧ Hid (Grew W0 wu))
        case atStart => exact ⟨0, by omega, rfl, rfl, HYT, HGT⟩
        case round =>
          obtain ⟨u, hu, rfl, hk, HYU, HGU⟩ := hrel
          have HKu := hid hk; clear hk
          rename World => wu
          have hwu := HGU.out.size
          by_cases hut : u < t
          · have hdu : decide ((u : Int) < 1 + a % 4) = true := by rw [HTA.out]; simp; omega
            have hisT : isT (emptied Y1 u) (u : Int) = true := isT_iff.2 (by rw [L2.out]; omega)
            obtain ⟨F1, hF1⟩ := HYU.out
            obtain ⟨Z1, hZ1⟩ : ∃ Z, setT (emptied Y1 u) (u : Int) ((thAt (emptied Y1 u) (u : Int)).put 0 (-1)) = Z := ⟨_, rfl⟩
            have HC1 := hid (clearW hF1 hwu hisT (s := 0) (by decide))
            rw [hZ1] at HC1
            have HC2 := hid (fun (y : World) (Fp : List Nat) (h : YNew W0.heap.size y B Z1 Fp) (hb : W0.heap.size ≤ y.heap.size) => clearW h hb (t := (u : Int)) (s := 1) (by rw [← hZ1, isT_setT]; exact hisT) (by decide))
            have hE : setT Z1 (u : Int) ((thAt Z1 (u : Int)).put 1 (-1)) = emptied Y1 (u + 1) := by rw [← hZ1]; rfl
            rw [hE] at HC2
            clear hF1 hisT hZ1 hE
            go_wp2
            go_loopg [13] 2 (fun k i ws => (k = 2 ∧ i = .int .i64 0 ∧ ws = wu) ∨ (k = 1 ∧ i = .int .i64 1 ∧ Hid (∃ Fp, YNew W0.heap.size ws B Z1 Fp) ∧ Hid (Grew W0 ws)) ∨ (k = 0 ∧ i = .int .i64 2 ∧ Hid (∃ Fp, YNew W0.heap.size ws B (emptied Y1 (u + 1)) Fp) ∧ Hid (Grew W0 ws)))
            case atStart => exact .inl ⟨rfl, rfl, rfl⟩
            case round =>
              rcases hrel with ⟨rfl, rfl, rfl⟩ | ⟨rfl, rfl, HZ, HGZ⟩ | ⟨rfl, rfl, HZ, HGZ⟩
              · go_wp2_with (go_at_call 25; (with_reducible refine HC1.out.mono ?_); rintro e w7 ⟨rfl, hF7, hb7⟩; have HF7 := hid hF7; have HB7 := hid (HGU.out.trans hb7); clear hF7 hb7)
                go_roundg 1
                case measure => omega
                case rel => exact .inr (.inl ⟨rfl, by go_num, HF7, HB7⟩)
              · obtain ⟨F2, hF2⟩ := HZ.out
                have HC3 := hid (HC2.out _ F2 hF2 HGZ.out.size)
                clear hF2
                go_wp2_with (go_at_call 25; (with_reducible refine HC3.out.mono ?_); rintro e w7 ⟨rfl, hF7, hb7⟩; have HF7 := hid hF7; have HB7 := hid (HGZ.out.trans hb7); clear hF7 hb7)
                go_roundg 0
                case measure => omega
                case rel => exact .inr (.inr ⟨rfl, by go_num, HF7, HB7⟩)
              · go_wp2
                go_roundg (t - (u + 1))
                case measure => have := HKu.out; omega
                case rel => exact ⟨u + 1, by omega, by go_num, rfl, HZ, HGZ⟩
          · have hdu : decide ((u : Int) < 1 + a % 4) = false := by rw [HTA.out]; simp; omega
            obtain rfl : u = t := by omega
            rw [HY2.out] at HYU
            obtain ⟨F3, hF3⟩ := HYU.out
            have HB1 := hid (byW hF3)
            rw [HBY.out] at HB1
            have HF3 := hid hF3
            clear hF3
            go_wp2_with (go_at_call 26; (with_reducible refine HB1.out.mono ?_); rintro e w9 ⟨rfl, hx9⟩; have HX9 := hid hx9; clear hx9)
            go_loopg [14, 16, 17, 18, 81] u (fun k fr i _ _ _ wx => ∃ x : Nat, x ≤ u ∧ i = .int .i64 x ∧ k = u - x ∧ fr = .int .i64 (freed Y2 x) ∧ Hid (∃ Fp, YNew W0.heap.size wx B (once Y2 x) Fp) ∧ Hid (Grew W0 wx))
            case atStart => exact ⟨0, by omega, rfl, rfl, rfl, hid ⟨_, HF3.out.grew HX9.out⟩, hid (grew_trans HGU.out HX9.out)⟩
            case round =>
              obtain ⟨x, hx, rfl, hk, rfl, HYX, HGX⟩ := hrel
              have HKx := hid hk; clear hk
              rename World => wx
              have hwx := HGX.out.size
              have hfr := FR.out x hx
              by_cases hxt : x < u
              · have hdx : decide ((x : Int) < 1 + a % 4) = true := by rw [HTA.out]; simp; omega
                have hisT : isT (once Y2 x) (x : Int) = true := isT_iff.2 (by rw [L3.out]; omega)
                obtain ⟨F1, hF1⟩ := HYX.out
                have HS1 := hid (sweepW hF1 hwx hisT)
                have hsr := sweepN_range (I3.out x hx) hisT
                have hnext : freed Y2 (x + 1) = freed Y2 x + sweepN (once Y2 x) x := rfl
                obtain ⟨f, hf⟩ : ∃ f, freed Y2 x = f := ⟨_, rfl⟩
                obtain ⟨s, hs⟩ : ∃ s, sweepN (once Y2 x) (x : Int) = s := ⟨_, rfl⟩
                rw [hf, hs] at hnext
                rw [hf] at hfr ⊢
                rw [hs] at HS1 hsr
                have HNX := hid hnext
                clear hF1 hisT hnext hf hs
                go_wp2_with (go_at_call 24; (with_reducible refine HS1.out.mono ?_); rintro e w7 ⟨rfl, hF7, hb7⟩; have HF7 := hid hF7; have HB7 := hid (HGX.out.trans hb7); clear hF7 hb7)
                go_roundg (u - (x + 1))
                case measure => have := HKx.out; omega
                case rel => exact ⟨x + 1, by omega, by go_num, rfl, by rw [HNX.out], HF7, HB7⟩
              · have hdx : decide ((x : Int) < 1 + a % 4) = false := by rw [HTA.out]; simp; omega
                obtain rfl : x = u := by omega
                rw [HFIN.out]
                obtain ⟨F4, hF4⟩ := HYX.out
                have HB2 := hid (fun (y : World) (hy : Grew wx y) => byW (hF4.grew hy))
                rw [HBY0.out] at HB2
                have HH2 := hid (fun (y : World) (hy : Grew wx y) => heldW (hF4.grew hy))
                rw [HHE0.out] at HH2
                have hg := grew_refl wx
                clear hF4 hfr
                go_wp2_with (first
                  | (go_at_call 26; (with_reducible refine (HB2.out _ hg).mono ?_); rintro e w10 ⟨rfl, hx⟩; replace hg := grew_trans hg hx; clear hx)
                  | (go_at_call 19; (with_reducible refine (HH2.out _ hg).mono ?_); rintro e w11 ⟨ua, uc, rfl, -, hx⟩; replace hg := grew_trans hg hx; clear hx)
                  | (go_at_call 12; with_reducible refine (sane_any _).mono ?_; rintro e wz ⟨rfl, hx⟩; replace hg := grew_trans hg hx; clear hx))
                go_ret
                exact ⟨rfl, grew_trans g0 (grew_trans HGX.out hg)⟩

end Go.Proofs.Ytcifpigjcfkhmaa
