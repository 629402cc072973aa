/- The law TopHazard, walked: it answers true. -/
import Derived.Test.YtcifpigjcfkhmaaHTop
namespace Go.Proofs.Ytcifpigjcfkhmaa
open Go.RowKit Go.Lin Go.Lin.Hz

set_option maxHeartbeats 8000000 in
set_option maxRecDepth 100000 in
theorem top_law (m : Int × Int) (l : List Dd) (v0 v : Value) (w : World) (h0 : IsShape v0 m) (hv : IsDeeds w v l) :
    Calls Try.prog 6 #[v0, v] w fun e w' => e = .returned (.bool true) ∧ Grew w w' := by
  obtain ⟨rfl, hm1, hm2⟩ := h0
  have hN := shaped_new hm1.1 hm2.1
  have hI0 : Hz.Inv (shaped m) := new_inv hN
  obtain ⟨W0, hW0, g0, e0, e1, hz0⟩ := box2 w (.int .u8 m.1) (.int .u8 m.2) 36
  have hT : (shaped m).th.length = (1 + m.1 % 4).toNat := by simp [shaped, new]
  have HNEW := hid (fun y => new_ok (1 + m.1 % 4) (1 + m.2 % 4) y hN)
  obtain ⟨Y0, hY0⟩ : ∃ Y0, shaped m = Y0 := ⟨_, rfl⟩
  rw [show new (1 + m.1 % 4) (1 + m.2 % 4) = Y0 from hY0] at HNEW
  rw [hY0] at hI0 hT
  obtain ⟨a, b⟩ := m
  simp only at hm1 hm2 HNEW hT hW0 e0 e1 ⊢
  obtain ⟨a0, a1⟩ := hm1
  obtain ⟨b0, b1⟩ := hm2
  obtain ⟨va, vc, rfl, hm, hdd⟩ := hv
  obtain ⟨n, hn⟩ : ∃ n, l.length = n := ⟨_, rfl⟩
  have HLN := hid hn
  have HDD := hid hdd
  rw [hn] at hm ⊢
  have hg := g0
  have hT4 : Y0.th.length ≤ 4 := hI0.th.2
  have hT1 : 1 ≤ Y0.th.length := hI0.th.1
  obtain ⟨T, hTT⟩ : ∃ T : Nat, (1 + a % 4).toNat = T := ⟨_, rfl⟩
  have hTa : (1 + a % 4 : Int) = (T : Int) := by have := Int.emod_nonneg a (show (4 : Int) ≠ 0 by decide); omega
  rw [hTT] at hT
  have hTle : T ≤ 4 := by rw [← hT]; exact hT4
  have hTge : 1 ≤ T := by rw [← hT]; exact hT1
  have HTA := hid hTa
  have HT := hid hT
  clear hn hdd hN hY0 hT hTT hTa hT4 hT1
  by_cases h100 : 100 < n
  · have hd : decide (100 < (n : Int)) = true := by simp; omega
    clear h100
    go_enter Try.func6, Try.ntmps6
    go_wp2_with (go_at_call 12; with_reducible refine (sane_any _).mono ?_; rintro e w1 ⟨rfl, hx⟩; replace hg := grew_trans hg hx)
    go_ret
    exact ⟨rfl, hg⟩
  · have hd : decide (100 < (n : Int)) = false := by simp; omega
    clear h100
    go_enter Try.func6, Try.ntmps6
    go_wp2_with (go_at_call 27; (with_reducible refine (HNEW.out _).mono ?_); rintro e w2 ⟨B, Fp, rfl, hy, hlo, hx⟩; have HY2 := hid (show YNew W0.heap.size w2 B Y0 Fp from ⟨hy, hlo, hI0⟩); have HX := hid hx; clear hy hlo hx)
    clear hg
    rw [HTA.out]
    go_loopg [8, 9, 10, 11, 12, 13, 14, 15, 16, 56, 75, 95] n (fun k i _ _ _ _ _ _ _ _ _ _ _ wr => ∃ (j : Nat) (Fp : List Nat), j ≤ n ∧ i = .int .i64 j ∧ k = n - j ∧ Hid (YNew W0.heap.size wr B (after Y0 (l.take j)) Fp) ∧ Hid (Grew W0 wr))
    case atStart => exact ⟨0, Fp, by omega, rfl, rfl, HY2, HX⟩
    case round =>
      obtain ⟨j, Fp, hj, rfl, hk, HYJ, HGR⟩ := hrel
      have HKj := hid hk; clear hk
      have hwr := HGR.out.size
      by_cases hlt : j < n
      · obtain ⟨x, hx⟩ : ∃ x, l[j]? = some x := ⟨_, List.getElem?_eq_getElem (by rw [HLN.out]; exact hlt)⟩
        obtain ⟨b, off, rfl, hda⟩ := HDD.out j x hx
        have hda0 := hda.grew hda.lt g0
        have hda' := hda0.grew hda0.lt HGR.out
        have k0 := hda'.c0
        have k1 := hda'.c1
        have k2 := hda'.c2
        have k3 := hda'.c3
        have k0z := hda0.c0
        have hblt0 := hda0.lt
        have hbw := hda'.lt
        obtain ⟨d, aa, bb, c⟩ := x
        simp only at k0 k1 k2 k3 k0z
        have HTK := hid (take_snoc hx)
        rename World => wr
        have has := after_snoc Y0 (l.take j) ⟨d, aa, bb, c⟩
        have hIs := HYJ.out.inv.doD d aa bb c
        have huse : d = 6 → (doD (after Y0 (l.take j)) d aa bb c).2.2 = 0 → isN (doD (after Y0 (l.take j)) d aa bb c).2.1 = true ∧ stAt (doD (after Y0 (l.take j)) d aa bb c).1 (doD (after Y0 (l.take j)) d aa bb c).2.1 ≠ 0 := by
          rintro rfl h; exact doD_use HYJ.out.inv h
        obtain ⟨Y', n', f', hr⟩ : ∃ Y' n' f', doD (after Y0 (l.take j)) d aa bb c = (Y', n', f') := ⟨_, _, _, rfl⟩
        have HDO := hid (doW HYJ.out hwr hr)
        simp only [hr] at has hIs huse
        have HAS := hid has
        have HIS := hid hIs
        have HUSE := hid huse
        obtain ⟨L, hL⟩ : ∃ L, heldAll Y' = L := ⟨_, rfl⟩
        have HLL := hid hL
        obtain ⟨ln, hln⟩ : ∃ n, L.length = n := ⟨_, rfl⟩
        have hl8 : ln ≤ 8 := by rw [← hln, ← hL]; exact heldAll_le _
        have HLNN := hid hln
        have HHE := hid (fun (y : World) (F : List Nat) (h : YNew W0.heap.size y B Y' F) => heldW h)
        rw [hL, hln] at HHE
        clear has hIs hx hda hda' hda0 hr huse hL hln
        have hcond : (d = 6 ∧ f' = 0) ∨ (d ≠ 6 ∧ f' = 0) ∨ f' ≠ 0 := by omega
        rcases hcond with ⟨rfl, rfl⟩ | ⟨hd6, rfl⟩ | hf0
        case' inl =>
          obtain ⟨hn1, hn2⟩ := HUSE.out rfl rfl
          have HST := hid (fun (y : World) (F : List Nat) (h : YNew W0.heap.size y B Y' F) => stateW h hn1)
          obtain ⟨sv, hsv⟩ : ∃ s, stAt Y' n' = s := ⟨_, rfl⟩
          rw [hsv] at hn2 HST
          have hs0 : (sv == 0) = false := by simpa using hn2
          clear hn1 hn2 hsv
          go_wp2_with (first
            | (go_at_call 18; (with_reducible refine HDO.out.mono ?_); go_loud (
                rintro e w5 ⟨rfl, ⟨F5, hF5⟩, hb5⟩
                have HF5 := hid hF5
                have HB5 := hid (HGR.out.trans hb5)
                have k05 := (HB5.out.cell (p := ⟨b, off + j * 4, none⟩) hblt0).trans k0z
                have hb5 := Nat.lt_of_lt_of_le hblt0 HB5.out.size
                clear hF5))
            | (go_at_call 20; (with_reducible refine (HST.out _ _ HF5.out).mono ?_); rintro e w7 ⟨rfl, hx7⟩; have HX7 := hid hx7; clear hx7)
            | (go_at_call 19; (with_reducible refine (HHE.out _ _ (HF5.out.grew HX7.out)).mono ?_); rintro e w6 ⟨ua, uc, rfl, hu, hg6⟩; have HU := hid hu; have HG6 := hid (grew_trans HX7.out hg6); clear hu hg6))
        case' inr.inl =>
          have hd6' : (d == 6) = false := by simpa using hd6
          clear hd6
          go_wp2_with (first
            | (go_at_call 18; (with_reducible refine HDO.out.mono ?_); go_loud (
                rintro e w5 ⟨rfl, ⟨F5, hF5⟩, hb5⟩
                have HF5 := hid hF5
                have HB5 := hid (HGR.out.trans hb5)
                have k05 := (HB5.out.cell (p := ⟨b, off + j * 4, none⟩) hblt0).trans k0z
                have hb5 := Nat.lt_of_lt_of_le hblt0 HB5.out.size
                clear hF5))
            | (go_at_call 19; (with_reducible refine (HHE.out _ _ HF5.out).mono ?_); rintro e w6 ⟨ua, uc, rfl, hu, hg6⟩; have HU := hid hu; have HG6 := hid hg6; clear hu hg6))
        case' inr.inr =>
          have hf0' : (f' == 0) = false := by simpa using hf0
          clear hf0
          go_wp2_with (first
            | (go_at_call 18; (with_reducible refine HDO.out.mono ?_); go_loud (
                rintro e w5 ⟨rfl, ⟨F5, hF5⟩, hb5⟩
                have HF5 := hid hF5
                have HB5 := hid (HGR.out.trans hb5)
                have k05 := (HB5.out.cell (p := ⟨b, off + j * 4, none⟩) hblt0).trans k0z
                have hb5 := Nat.lt_of_lt_of_le hblt0 HB5.out.size
                clear hF5))
            | (go_at_call 19; (with_reducible refine (HHE.out _ _ HF5.out).mono ?_); rintro e w6 ⟨ua, uc, rfl, hu, hg6⟩; have HU := hid hu; have HG6 := hid hg6; clear hu hg6))
        all_goals
          have HSTA := hid (fun (q : Nat) (hq : q < ln) => show isN (nth L q) = true ∧ stAt Y' (nth L q) ≠ 0 by
            have hm : nth L q ∈ heldAll Y' := by rw [HLL.out, nth_lt (by rw [HLNN.out]; exact hq)]; exact List.getElem_mem _
            have h2 := mem_heldAll.1 hm
            exact ⟨h2.1, held_state HIS.out h2.1 h2.2⟩)
          obtain ⟨_, _, hue, -, huc⟩ := HU.out
          rw [HLNN.out] at hue huc
          simp only [Value.slice.injEq, true_and] at hue
          obtain ⟨rfl, rfl⟩ := hue
          have HUC := hid huc
          have h56 := Nat.le_trans HB5.out.size HG6.out.size
          clear huc
          go_loopg [14, 15, 16, 95] ln (fun k i _ _ _ wq => ∃ q : Nat, q ≤ ln ∧ i = .int .i64 q ∧ k = ln - q ∧ Hid (Grew w6 wq))
          case atStart => exact ⟨0, by omega, rfl, rfl, hid (grew_refl _)⟩
          case round =>
            obtain ⟨q, hq, rfl, hk, HGQ⟩ := hrel
            have HK := hid hk; clear hk
            have hwq := HGQ.out.size
            rename World => wq
            by_cases hqt : q < ln
            · obtain ⟨b2, off2, o2, rfl, hb2, _, hcu⟩ := HUC.out q hqt
              have hb2l := lt_of_obj hb2
              have hcu' := (HGQ.out.cell (p := ⟨b2, off2 + q, none⟩) hb2l).trans hcu
              have hb2q := Nat.lt_of_lt_of_le hb2l hwq
              have hsta := HSTA.out q hqt
              obtain ⟨x, hx⟩ : ∃ x, nth L q = x := ⟨_, rfl⟩
              replace hcu' : _ = some (Value.int .i64 (nth L q)) := hcu'
              rw [hx] at hcu' hsta
              have hst := stateW ((HF5.out.grew HG6.out).grew HGQ.out) hsta.1
              obtain ⟨y, hy⟩ : ∃ y, stAt Y' x = y := ⟨_, rfl⟩
              rw [hy] at hst hsta
              have hy0 : (y == 0) = false := by simpa using hsta.2
              have HST9 := hid hst
              clear hst hsta hx hy hcu
              go_wp2_with (go_at_call 20; (with_reducible refine HST9.out.mono ?_); rintro e w7 ⟨rfl, hx7⟩; have HG7 := hid hx7; clear hx7)
              go_roundg (ln - (q + 1))
              case measure => have := HK.out; omega
              case rel => exact ⟨q + 1, by omega, by go_num, rfl, hid (grew_trans HGQ.out HG7.out)⟩
            · obtain rfl : q = ln := by omega
              go_wp2
              go_roundg (n - (j + 1))
              case measure => have := HKj.out; omega
              case rel => exact ⟨j + 1, _, by omega, by go_num, rfl, hid (by rw [HTK.out, HAS.out]; exact (HF5.out.grew HG6.out).grew HGQ.out), hid (grew_trans HB5.out (grew_trans HG6.out HGQ.out))⟩
      · obtain rfl : j = n := by omega
        have htk : l.take j = l := List.take_of_length_le (by rw [HLN.out]; omega)
        rw [htk] at HYJ
        clear htk
        obtain ⟨Yb, hYb⟩ : ∃ Yb, after Y0 l = Yb := ⟨_, rfl⟩
        have hLb : Yb.th.length = T := by rw [← hYb, threads_after]; exact HT.out
        rw [hYb] at HYJ
        have hIb := HYJ.out.inv
        have HLb := hid hLb
        have hend := top_end hIb (T := T) (by omega) hLb
        have IP := hid (fun k => puts_inv hIb (T : Int) k)
        have LP := hid (fun k => (puts_len Yb (T : Int) k).trans hLb)
        obtain ⟨e8, he8⟩ : ∃ e : Nat, e = 8 := ⟨8, rfl⟩
        rw [← he8] at hend
        have HE8 := hid he8
        obtain ⟨Y1, hY1⟩ : ∃ Y1, puts Yb (T : Int) e8 = Y1 := ⟨_, rfl⟩
        have HY1 := hid hY1
        have hIY1 : Hz.Inv Y1 := by rw [← hY1]; exact IP.out e8
        have hL1 : Y1.th.length = T := by rw [← hY1]; exact LP.out e8
        have I2 := hid (fun k (hk : k ≤ T) => emptied_inv hIY1 k (by rw [hL1]; exact hk))
        have L2 := hid (fun k => (emptied_len Y1 k).trans hL1)
        rw [hY1] at hend
        obtain ⟨Y2, hY2⟩ : ∃ Y2, emptied Y1 T = Y2 := ⟨_, rfl⟩
        have HY2' := hid hY2
        have hIY2 : Hz.Inv Y2 := by rw [← hY2]; exact I2.out T (Nat.le_refl _)
        have hL2 : Y2.th.length = T := by rw [← hY2]; exact L2.out T
        have I3 := hid (fun k (hk : k ≤ T) => once_inv hIY2 k (by rw [hL2]; exact hk))
        have L3 := hid (fun k => (once_len Y2 k).trans hL2)
        rw [hY2] at hend
        have HEND := hid hend
        clear he8 hend hY1 hY2 hL1 hL2 hLb hYb hIb
        go_wp2
        go_loopg [17, 18, 19, 114, 122] 8 (fun k i _ _ _ _ wq => ∃ q : Nat, q ≤ 8 ∧ i = .int .i64 q ∧ k = 8 - q ∧ Hid (∃ Fp, YNew W0.heap.size wq B (puts Yb (T : Int) q) Fp) ∧ Hid (Grew W0 wq))
        case atStart => exact ⟨0, by omega, rfl, rfl, hid ⟨_, HYJ.out⟩, HGR⟩
        case round =>
          obtain ⟨q, hq, rfl, hk, HYQ, HGQ⟩ := hrel
          have HKq := hid hk; clear hk
          rename World => wq
          have hwq := HGQ.out.size
          by_cases hq8 : q < 8
          · obtain ⟨F1, hF1⟩ := HYQ.out
            have hmod : 0 ≤ (q : Int) % (T : Int) ∧ (q : Int) % (T : Int) < (T : Int) := ⟨Int.emod_nonneg _ (by omega), Int.emod_lt_of_pos _ (by omega)⟩
            have hisT : isT (puts Yb (T : Int) q) ((q : Int) % (T : Int)) = true := isT_iff.2 (by rw [LP.out]; omega)
            have hisN : isN (q : Int) = true := isN_iff.2 (by omega)
            have hst := stateW hF1 hisN
            obtain ⟨sv, hsv⟩ : ∃ s, stAt (puts Yb (T : Int) q) (q : Int) = s := ⟨_, rfl⟩
            have hpf := putBy_f hisT hisN
            have hnext : (putBy (puts Yb (T : Int) q) ((q : Int) % (T : Int)) (q : Int)).1 = puts Yb (T : Int) (q + 1) := rfl
            obtain ⟨Y', r', f', hr⟩ : ∃ Y' r' f', putBy (puts Yb (T : Int) q) ((q : Int) % (T : Int)) (q : Int) = (Y', r', f') := ⟨_, _, _, rfl⟩
            rw [hr] at hpf hnext
            rw [hsv] at hst hpf
            simp only at hpf hnext
            have HST := hid hst
            have HPB := hid (fun (r0 : Int) (hr0 : r0 = (q : Int) % (T : Int)) (y : World) (h : YNew W0.heap.size y B (puts Yb (T : Int) q) F1) (hb : W0.heap.size ≤ y.heap.size) => show Calls Try.prog 28 #[.pointer (some ⟨B, 0, none⟩), .int .i64 r0, .int .i64 (q : Int)] y (YPost W0.heap.size y B (.tuple #[.int .i64 r', .int .i64 f']) Y') by rw [hr0]; exact putByW h hb hr)
            have HNX := hid hnext
            have HF1 := hid hF1
            clear hst hsv hnext hr hF1 hisT hisN hmod
            by_cases hs1 : sv = 1
            · have hfe := hpf.1 hs1
              subst hs1 hfe
              clear hpf
              have htm : (q : Int).tmod (T : Int) = (q : Int) % (T : Int) := Int.tmod_eq_emod_of_nonneg (by omega)
              go_wp2_with (first
                | (go_at_call 20; (with_reducible refine HST.out.mono ?_); rintro e w7 ⟨rfl, hx7⟩; have HX7 := hid hx7; clear hx7)
                | (go_at_call 28; (with_reducible refine (HPB.out _ (by first | rfl | simp | omega) _ (HF1.out.grew HX7.out) (by have := HX7.out.size; omega)).mono ?_); rintro e w8 ⟨rfl, hF8, hb8⟩; have HF8 := hid hF8; have HB8 := hid hb8; clear hF8 hb8))
              go_roundg (8 - (q + 1))
              case measure => have := HKq.out; omega
              case rel => exact ⟨q + 1, by omega, by go_num, rfl, hid (by rw [← HNX.out]; exact HF8.out), hid ((HGQ.out.trans (HX7.out.mono hwq)).trans HB8.out)⟩
            · have hfe := hpf.2 hs1
              subst hfe
              clear hpf
              have hs1' : (sv == 1) = false := by simpa using hs1
              clear hs1
              have htm : (q : Int).tmod (T : Int) = (q : Int) % (T : Int) := Int.tmod_eq_emod_of_nonneg (by omega)
              go_wp2_with (first
                | (go_at_call 20; (with_reducible refine HST.out.mono ?_); rintro e w7 ⟨rfl, hx7⟩; have HX7 := hid hx7; clear hx7)
                | (go_at_call 28; (with_reducible refine (HPB.out _ (by first | rfl | simp | omega) _ (HF1.out.grew HX7.out) (by have := HX7.out.size; omega)).mono ?_); rintro e w8 ⟨rfl, hF8, hb8⟩; have HF8 := hid hF8; have HB8 := hid hb8; clear hF8 hb8))
              go_roundg (8 - (q + 1))
              case measure => have := HKq.out; omega
              case rel => exact ⟨q + 1, by omega, by go_num, rfl, hid (by rw [← HNX.out]; exact HF8.out), hid ((HGQ.out.trans (HX7.out.mono hwq)).trans HB8.out)⟩
          · have hqe : q = e8 := by have := HE8.out; omega
            rw [hqe, HY1.out] at HYQ
            clear hqe
            obtain rfl : q = 8 := by omega
            go_wp2
            go_loopg [20, 21] T (fun k i _ wu => ∃ u : Nat, u ≤ T ∧ i = .int .i64 u ∧ k = T - u ∧ Hid (∃ Fp, YNew W0.heap.size wu B (emptied Y1 u) Fp) ∧ Hid (Grew W0 wu))
            case atStart => exact ⟨0, by omega, rfl, rfl, HYQ, HGQ⟩
            case round =>
              obtain ⟨u, hu, rfl, hk, HYU, HGU⟩ := hrel
              have HKu := hid hk; clear hk
              rename World => wu
              have hwu := HGU.out.size
              by_cases hut : u < T
              · skip
                have hisT : isT (emptied Y1 u) (u : Int) = true := isT_iff.2 (by rw [L2.out]; omega)
                obtain ⟨F1, hF1⟩ := HYU.out
                obtain ⟨Z1, hZ1⟩ : ∃ Z, setT (emptied Y1 u) (u : Int) ((thAt (emptied Y1 u) (u : Int)).put 0 (-1)) = Z := ⟨_, rfl⟩
                have HC1 := hid (clearW hF1 hwu hisT (s := 0) (by decide))
                rw [hZ1] at HC1
                have HC2 := hid (fun (y : World) (Fp : List Nat) (h : YNew W0.heap.size y B Z1 Fp) (hb : W0.heap.size ≤ y.heap.size) => clearW h hb (t := (u : Int)) (s := 1) (by rw [← hZ1, isT_setT]; exact hisT) (by decide))
                have hE : setT Z1 (u : Int) ((thAt Z1 (u : Int)).put 1 (-1)) = emptied Y1 (u + 1) := by rw [← hZ1]; rfl
                rw [hE] at HC2
                clear hF1 hisT hZ1 hE
                go_wp2
                go_loopg [21] 2 (fun k i ws => (k = 2 ∧ i = .int .i64 0 ∧ ws = wu) ∨ (k = 1 ∧ i = .int .i64 1 ∧ Hid (∃ Fp, YNew W0.heap.size ws B Z1 Fp) ∧ Hid (Grew W0 ws)) ∨ (k = 0 ∧ i = .int .i64 2 ∧ Hid (∃ Fp, YNew W0.heap.size ws B (emptied Y1 (u + 1)) Fp) ∧ Hid (Grew W0 ws)))
                case atStart => exact .inl ⟨rfl, rfl, rfl⟩
                case round =>
                  rcases hrel with ⟨rfl, rfl, rfl⟩ | ⟨rfl, rfl, HZ, HGZ⟩ | ⟨rfl, rfl, HZ, HGZ⟩
                  · go_wp2_with (go_at_call 25; (with_reducible refine HC1.out.mono ?_); rintro e w7 ⟨rfl, hF7, hb7⟩; have HF7 := hid hF7; have HB7 := hid (HGU.out.trans hb7); clear hF7 hb7)
                    go_roundg 1
                    case measure => omega
                    case rel => exact .inr (.inl ⟨rfl, by go_num, HF7, HB7⟩)
                  · obtain ⟨F2, hF2⟩ := HZ.out
                    have HC3 := hid (HC2.out _ F2 hF2 HGZ.out.size)
                    clear hF2
                    go_wp2_with (go_at_call 25; (with_reducible refine HC3.out.mono ?_); rintro e w7 ⟨rfl, hF7, hb7⟩; have HF7 := hid hF7; have HB7 := hid (HGZ.out.trans hb7); clear hF7 hb7)
                    go_roundg 0
                    case measure => omega
                    case rel => exact .inr (.inr ⟨rfl, by go_num, HF7, HB7⟩)
                  · go_wp2
                    go_roundg (T - (u + 1))
                    case measure => have := HKu.out; omega
                    case rel => exact ⟨u + 1, by omega, by go_num, rfl, HZ, HGZ⟩
              · obtain rfl : u = T := by omega
                rw [HY2'.out] at HYU
                go_wp2
                go_loopg [22, 23, 24, 155] u (fun k i _ _ _ wx => ∃ x : Nat, x ≤ u ∧ i = .int .i64 x ∧ k = u - x ∧ Hid (∃ Fp, YNew W0.heap.size wx B (once Y2 x) Fp) ∧ Hid (Grew W0 wx))
                case atStart => exact ⟨0, by omega, rfl, rfl, HYU, HGU⟩
                case round =>
                  obtain ⟨x, hx, rfl, hk, HYX, HGX⟩ := hrel
                  have HKx := hid hk; clear hk
                  rename World => wx
                  have hwx := HGX.out.size
                  by_cases hxt : x < u
                  · have hisT : isT (once Y2 x) (x : Int) = true := isT_iff.2 (by rw [L3.out]; omega)
                    obtain ⟨F1, hF1⟩ := HYX.out
                    have HS1 := hid (sweepW hF1 hwx hisT)
                    clear hF1 hisT
                    go_wp2_with (go_at_call 24; (with_reducible refine HS1.out.mono ?_); rintro e w7 ⟨rfl, hF7, hb7⟩; have HF7 := hid hF7; have HB7 := hid (HGX.out.trans hb7); clear hF7 hb7)
                    go_roundg (u - (x + 1))
                    case measure => have := HKx.out; omega
                    case rel => exact ⟨x + 1, by omega, by go_num, rfl, HF7, HB7⟩
                  · obtain rfl : x = u := by omega
                    obtain ⟨F4, hF4⟩ := HYX.out
                    have HFR := hid (fun (y : World) (hy : Grew wx y) => freeW (hF4.grew hy))
                    rw [HEND.out.1] at HFR
                    have HB2 := hid (fun (y : World) (hy : Grew wx y) => byW (hF4.grew hy))
                    rw [HEND.out.2.1] at HB2
                    have HH2 := hid (fun (y : World) (hy : Grew wx y) => heldW (hF4.grew hy))
                    rw [HEND.out.2.2] at HH2
                    have hg := grew_refl wx
                    clear hF4
                    go_wp2_with (first
                      | (go_at_call 29; (with_reducible refine (HFR.out _ hg).mono ?_); rintro e w9 ⟨rfl, hx⟩; replace hg := grew_trans hg hx; clear hx)
                      | (go_at_call 26; (with_reducible refine (HB2.out _ hg).mono ?_); rintro e w10 ⟨rfl, hx⟩; replace hg := grew_trans hg hx; clear hx)
                      | (go_at_call 19; (with_reducible refine (HH2.out _ hg).mono ?_); rintro e w11 ⟨ua, uc, rfl, -, hx⟩; replace hg := grew_trans hg hx; clear hx)
                      | (go_at_call 12; with_reducible refine (sane_any _).mono ?_; rintro e wz ⟨rfl, hx⟩; replace hg := grew_trans hg hx; clear hx))
                    go_ret
                    exact ⟨rfl, grew_trans g0 (grew_trans HGX.out hg)⟩

end Go.Proofs.Ytcifpigjcfkhmaa
