/- The law HazardLists, walked: it answers true. -/
import Derived.Test.YtcifpigjcfkhmaaHLists
import Derived.Test.YtcifpigjcfkhmaaHPlays
namespace Go.Proofs.Ytcifpigjcfkhmaa
open Go.RowKit Go.Lin Go.Lin.Hz

theorem reads_re {S S' : Nat → Obj → Prop} {w : World} {v : Value} {n : Nat} {f : Nat → Value} (h : Reads S w v n f) (hS : ∀ k o, w.heap[k]? = some o → S k o → S' k o) : Reads S' w v n f := by
  obtain ⟨a, cap, hv, hm, hc⟩ := h
  exact ⟨a, cap, hv, hm, fun i hi => let ⟨b, off, o, h1, h2, h3, h4⟩ := hc i hi; ⟨b, off, o, h1, h2, hS _ _ h2 h3, h4⟩⟩

/-- List, of a yard in new blocks: the list lies in a block of its own. -/
theorem listW {base : Nat} {w : World} {B : Nat} {Y : Yd} {Fp : List Nat} {t : Nat} (h : YNew base w B Y Fp) (ht : t < Y.th.length) :
    Calls Try.prog 32 #[.pointer (some ⟨B, 0, none⟩), .int .i64 (t : Int)] w fun e w' => ∃ a c, e = .returned (.tuple #[.slice a (thAt Y t).l.length c, .int .i64 0]) ∧ IsInts (fun k _ => w.heap.size ≤ k) w' (.slice a (thAt Y t).l.length c) (thAt Y t).l ∧ Grew w w' := by
  have hisT : isT Y (t : Int) = true := isT_iff.2 (by omega)
  have hlo : listOf Y (t : Int) = ((thAt Y t).l, 0) := by simp [listOf, hisT]
  have := list_any Y h.inv B Fp (t : Int) w h.yard
  rw [hlo] at this
  refine this.mono ?_
  rintro e w' ⟨u, rfl, hs, hg⟩
  obtain ⟨a, c, rfl, -⟩ := hs.shape
  have h2 := Lst.of_seg hs
  exact ⟨a, c, rfl, Reads.mono h2.1.reads (fun k o hk => h2.2 k hk), hg⟩

set_option maxHeartbeats 16000000 in
set_option maxRecDepth 100000 in
theorem lists_law (m : Int × Int) (l : List Dd) (v0 v : Value) (w : World) (h0 : IsShape v0 m) (hv : IsDeeds w v l) :
    Calls Try.prog 8 #[v0, v] w fun e w' => e = .returned (.bool true) ∧ Grew w w' := by
  obtain ⟨rfl, hm1, hm2⟩ := h0
  have hN := shaped_new hm1.1 hm2.1
  have hI0 : Hz.Inv (shaped m) := new_inv hN
  have HD := hid (fun y => done_any m hm1 hm2 [] (.slice none 0 0) y (nil_deeds y))
  have hT : (shaped m).th.length = (1 + m.1 % 4).toNat := by simp [shaped, new]
  have hZ : (shaped m).size = 1 + m.2 % 4 := rfl
  obtain ⟨Y0, hY0⟩ : ∃ Y0, shaped m = Y0 := ⟨_, rfl⟩
  rw [hY0] at hI0 hT hZ
  rw [hY0, show after Y0 [] = Y0 from rfl] at HD
  obtain ⟨a, b⟩ := m
  simp only at hm1 hm2 HD hT hZ ⊢
  obtain ⟨a0, a1⟩ := hm1
  obtain ⟨b0, b1⟩ := hm2
  obtain ⟨va, vc, rfl, hm, hdd⟩ := hv
  obtain ⟨n, hn⟩ : ∃ n, l.length = n := ⟨_, rfl⟩
  have HLN := hid hn
  have HDD := hid hdd
  rw [hn] at hm ⊢
  obtain ⟨W0, hW0, g0, e0, e1, hz0⟩ := box2 w (.int .u8 a) (.int .u8 b) 36
  have hg := g0
  have hT4 : Y0.th.length ≤ 4 := hI0.th.2
  obtain ⟨T, hTT⟩ : ∃ T : Nat, (1 + a % 4).toNat = T := ⟨_, rfl⟩
  have hTa : (1 + a % 4 : Int) = (T : Int) := by have := Int.emod_nonneg a (show (4 : Int) ≠ 0 by decide); omega
  obtain ⟨sz, hsz⟩ : ∃ sz : Int, 1 + b % 4 = sz := ⟨_, rfl⟩
  rw [hTT] at hT
  rw [hsz] at hZ
  have hTle : T ≤ 4 := by rw [← hT]; exact hT4
  have HTA := hid hTa
  have HSZ := hid hsz
  have HT := hid hT
  have HZ := hid hZ
  clear hn hdd hN hY0 hT hTT hTa hsz hZ hT4
  by_cases h100 : 100 < n
  · have hd : decide (100 < (n : Int)) = true := by simp; omega
    clear h100
    go_enter Try.func8, Try.ntmps8
    go_wp2_with (go_at_call 12; with_reducible refine (sane_any _).mono ?_; rintro e w1 ⟨rfl, hx⟩; replace hg := grew_trans hg hx)
    go_ret
    exact ⟨rfl, hg⟩
  · have hd : decide (100 < (n : Int)) = false := by simp; omega
    clear h100
    go_enter Try.func8, Try.ntmps8
    go_wp2_with (go_at_call 17; (with_reducible refine (HD.out _).mono ?_); go_loud (
      rintro e w2 ⟨B, Fp, rfl, hy, hx⟩
      have HY2 := hid hy
      have HX := hid hx
      have f0 := (hx.cell (p := ⟨w.heap.size, 0, none⟩) hz0).trans e0
      have f1 := (hx.cell (p := ⟨w.heap.size, 1, none⟩) hz0).trans e1
      have hz2 := Nat.lt_of_lt_of_le hz0 hx.size
      clear hy hx))
    go_quiet (fail)
    obtain ⟨w3, hw3⟩ : ∃ w3, w2.drewN nq = w3 := ⟨_, rfl⟩
    have hg3 : Grew w2 w3 := by rw [← hw3]; exact grew_drewN (grew_refl _) _
    rw [hw3]
    replace HY2 := hid (HY2.out.grew hg3)
    replace HX := hid (grew_trans HX.out hg3)
    clear hw3 hg3 f0 f1 hz2 hg e0 e1
    go_wp2
    rw [HTA.out, HSZ.out]
    go_loopg [8, 9, 10, 11, 12, 13, 14, 15, 16, 17, 18, 19, 20, 21, 22, 23, 24, 53, 64, 78, 151] n (fun k i _ _ _ _ _ _ _ _ _ _ _ _ _ _ _ _ _ _ _ _ wr => ∃ (j : Nat) (Fp : List Nat), j ≤ n ∧ i = .int .i64 j ∧ k = n - j ∧ Hid (YNew W0.heap.size wr B (after Y0 (l.take j)) Fp) ∧ Hid (Grew W0 wr))
    case atStart => exact ⟨0, Fp, by omega, rfl, rfl, HY2, HX⟩
    case round =>
      obtain ⟨j, Fp, hj, rfl, hk, HYJ, HGR⟩ := hrel
      have HKj := hid hk; clear hk
      have hwr := HGR.out.size
      by_cases hlt : j < n
      · obtain ⟨x, hx⟩ : ∃ x, l[j]? = some x := ⟨_, List.getElem?_eq_getElem (by rw [HLN.out]; exact hlt)⟩
        obtain ⟨b', off, rfl, hda⟩ := HDD.out j x hx
        have hda0 := hda.grew hda.lt g0
        have hda' := hda0.grew hda0.lt HGR.out
        have k0 := hda'.c0
        have k1 := hda'.c1
        have k2 := hda'.c2
        have k3 := hda'.c3
        have hbw := hda'.lt
        obtain ⟨d, aa, bb, c⟩ := x
        simp only at k0 k1 k2 k3
        have HTK := hid (take_snoc hx)
        rename World => wr
        obtain ⟨W4, hW4, g4, q0, q1, q2, q3, hz4⟩ := box4 wr (.int .i64 d) (.int .i64 aa) (.int .i64 bb) (.int .i64 c) 32
        have HY4 := hid (HYJ.out.grew g4)
        have HG4 := hid (grew_trans HGR.out g4)
        have HLTW := hid HYJ.out.lt
        have hw4 := HG4.out.size
        have has := after_snoc Y0 (l.take j) ⟨d, aa, bb, c⟩
        have hIs := HYJ.out.inv.doD d aa bb c
        have hdo := do_any (after Y0 (l.take j)) HYJ.out.inv B Fp d aa bb c W4 HY4.out.yard
        have HTY := hid (show (doD (after Y0 (l.take j)) d aa bb c).1.th.length = T by rw [threads_doD, threads_after]; exact HT.out)
        have HZY := hid (show (doD (after Y0 (l.take j)) d aa bb c).1.size = sz by rw [size_doD, size_after]; exact HZ.out)
        have hheld := fun (h0 : (doD (after Y0 (l.take j)) d aa bb c).2.2 = 0) h => list_held (Y := after Y0 (l.take j)) (d := d) (a := aa) (b := bb) (c := c) h0 h
        obtain ⟨Y', n', f', hr⟩ : ∃ Y' n' f', doD (after Y0 (l.take j)) d aa bb c = (Y', n', f') := ⟨_, _, _, rfl⟩
        unfold DoPost at hdo
        simp only [hr] at has hIs hdo HTY HZY hheld
        have HAS := hid has
        have HIS := hid hIs
        have HDO := hid hdo
        have HHELD := hid hheld
        clear has hIs hx hda hda' hda0 hr hdo hheld g4
        go_wp2_with (go_at_call 18; (with_reducible refine HDO.out.mono ?_); go_loud (
            rintro e w5 ⟨rfl, hdoes⟩
            obtain ⟨F5, hy5, hb5, hk5, -⟩ := HY4.out.does hw4 hdoes HIS.out
            have HY5 := hid hy5
            have HB5 := hid (HG4.out.trans hb5)
            have r0 := (keeps_cell hk5 0 hz4 (fun _ h1 => by have := HLTW.out _ h1; omega)).trans q0
            have r1 := (keeps_cell hk5 1 hz4 (fun _ h1 => by have := HLTW.out _ h1; omega)).trans q1
            have hz5 := Nat.lt_of_lt_of_le hz4 hk5.size
            clear hy5 hb5 hk5 hdoes))
        clear q0 q1 q2 q3 hW4 k0 k1 k2 k3
        go_loopg [12, 13, 14, 15, 16, 17, 18, 19, 20, 64, 78] T (fun k al i _ _ _ _ _ _ _ _ _ wt => ∃ t ct : Nat, t ≤ T ∧ i = .int .i64 t ∧ k = T - t ∧ ct ≤ 8 ∧ Hid (ct = (allTo Y' t).length) ∧ Hid (Seg wt w5.heap.size 3 1 al ct ((allTo Y' t).map (.int .i64))) ∧ Hid (Grew w5 wt))
        case atStart => exact ⟨0, 0, by omega, rfl, rfl, by omega, hid rfl, hid (Seg.nil _ _ _ _), hid (grew_refl _)⟩
        case round =>
          obtain ⟨t, ct, ht, rfl, hk, hcnt, HCN, HSA, HGT⟩ := hrel
          have HKt := hid hk; clear hk
          rename World => wt
          by_cases htt : t < T
          · have htY : t < Y'.th.length := by rw [HTY.out]; exact htt
            have hlw := listW (HY5.out.grew HGT.out) htY
            have hle8 := list_le8 HIS.out htY
            have hnew := fun k (hk : k < (thAt Y' (t : Int)).l.length) => list_new HIS.out htY hk
            have hsucc := allTo_succ (Y := Y') htY
            obtain ⟨lt, hlt'⟩ : ∃ lt, (thAt Y' (t : Int)).l = lt := ⟨_, rfl⟩
            rw [hlt'] at hlw hle8 hnew hsucc
            obtain ⟨ln, hln⟩ : ∃ n, lt.length = n := ⟨_, rfl⟩
            rw [hln] at hlw hle8 hnew
            have HLT := hid hlt'
            have HLNT := hid hln
            have HNEW := hid hnew
            have HSUC := hid hsucc
            have HNN := hid (fun k (hk : k < ln) => (hnew k hk).1)
            have HLW := hid hlw
            have hle : ct + ln ≤ 8 := by rw [HCN.out]; exact hle8
            have hln8 : ln ≤ 8 := by omega
            clear hlw hnew hsucc hln hlt' hle8 htY
            go_wp2_with (go_at_call 32; (with_reducible refine HLW.out.mono ?_); go_loud (
              rintro e w6 ⟨la, lc, rfl, hli, hx⟩
              have HLI := hid (reads_re hli (S' := fun k _ => u12.ownBlock ≠ some k) (fun k _ _ h e => by have := (HSA.out.own k e).2.1; omega))
              have HG6 := hid (grew_trans HGT.out hx)
              have HSA6 := hid (HSA.out.grew hx)
              clear hli hx))
            go_loopg [12, 16, 17, 18, 78] ln (fun k al i _ _ _ wk => ∃ q c2 : Nat, q ≤ ln ∧ i = .int .i64 q ∧ k = ln - q ∧ c2 = ct + q ∧ Hid (c2 = (allTo Y' t ++ lt.take q).length) ∧ Hid (Seg wk w5.heap.size 3 1 al c2 ((allTo Y' t ++ lt.take q).map (.int .i64))) ∧ Hid (IsInts (fun k _ => al.ownBlock ≠ some k) wk (.slice la ln lc) lt) ∧ Hid (Grew w5 wk))
            case atStart => exact ⟨0, ct, by omega, rfl, rfl, rfl, hid (by simpa using HCN.out), hid (by simpa using HSA6.out), HLI, HG6⟩
            case round =>
              obtain ⟨q, c2, hq, rfl, hk, hc2, HC2, HSQ, HLQ, HGQ⟩ := hrel
              have HKq := hid hk; clear hk
              rename World => wk
              by_cases hqt : q < ln
              · obtain ⟨hn1, hn2, hn3⟩ := HNEW.out q hqt
                obtain ⟨a', c', hve, -, hcc⟩ := HLQ.out
                rw [HLNT.out] at hcc
                obtain ⟨lb, loff, lo, hla, hlb, -, hcx⟩ := hcc q hqt
                obtain rfl : la = a' := by simp at hve; exact hve.1
                subst hla
                have hlbl := lt_of_obj hlb
                replace hcx : _ = some (Value.int .i64 (nth lt q)) := hcx
                have hst := stateW (HY5.out.grew HGQ.out) hn1
                rw [hn2] at hst
                have htake := take_succ_nth (xs := lt) (k := q) (by rw [HLNT.out]; exact hqt)
                obtain ⟨x, hx⟩ : ∃ x, nth lt q = x := ⟨_, rfl⟩
                rw [hx] at hst hn3 hcx htake
                have HST := hid hst
                have HTAKE := hid htake
                obtain ⟨vs, hvs⟩ : ∃ vs, (allTo Y' t ++ lt.take q).map (Value.int .i64) = vs := ⟨_, rfl⟩
                have HVS := hid hvs
                have HSV := hid (show Seg wk w5.heap.size 3 1 u12 c2 vs by rw [← hvs]; exact HSQ.out)
                have HHAS := hid (fun (y : World) (hy : Grew wk y) => has_any u12 (allTo Y' t ++ lt.take q) x y (Reads.grew (seg_ints (by rw [← HC2.out]; exact HSQ.out)) hy))
                rw [show decide (x ∈ allTo Y' t ++ lt.take q) = false by simpa using hn3] at HHAS
                have hcn8 : c2 ≤ 8 := by omega
                have hwk := HGQ.out.size
                clear hcc hn1 hn2 hn3 hst htake hx hvs hlb hve
                go_wp2_with (first
                  | (go_at_call 20; (with_reducible refine HST.out.mono ?_); go_loud (
                      rintro e w7 ⟨rfl, hx7⟩
                      have HX7 := hid hx7
                      have hcx7 := (hx7.cell (p := ⟨lb, loff + q, none⟩) hlbl).trans hcx
                      have hlbl7 := Nat.lt_of_lt_of_le hlbl hx7.size
                      have hseg := HSV.out.grew hx7
                      have hwk7 := hx7.size
                      clear hx7))
                  | (go_at_call 23; (with_reducible refine (HHAS.out _ HX7.out).mono ?_); rintro e w8 ⟨rfl, rfl⟩)
                  | (at_builtin; refine wpList_append_one rfl _ _ 24 rfl w5.heap.size 3 Try.underlying24 Try.info3 rfl (by decide) _ c2 _ rfl (hseg.alloc _) _ _ _ rfl (one_new _ _ _) rfl (by omega) ?_ ?_; (simp only [World.size_alloc]; omega); intro v9 w9 hown9 hgrow9 hblk9; have HGR9 := hid hgrow9; have HBL9 := hid hblk9; clear hgrow9 hblk9))
                have hk9 := ((Keeps.refl (fun k _ => u12.ownBlock = some k) w7).alloc (.cells #[.int .i64 x] 3)).trans (keeps_of_grown HGR9.out)
                have hb9 : Below w5.heap.size w7 w9 := hk9.below (by omega) (fun k o e => (hseg.own k e).1)
                have HG9 := hid (show Grew w5 w9 from (grew_trans HGQ.out HX7.out).trans hb9)
                have HL9 := hid (show IsInts (fun k _ => v9.ownBlock ≠ some k) w9 (.slice (some ⟨lb, loff, none⟩) ln lc) lt from
                  Reads.keeps (reads_re (Reads.grew HLQ.out HX7.out) (S' := fun k _ => v9.ownBlock ≠ some k ∧ u12.ownBlock ≠ some k) (fun k o ho h => ⟨fun e => by
                    rcases HBL9.out with h9 | h9
                    · exact h (h9 ▸ e)
                    · rw [h9] at e; simp at e; have := lt_of_obj ho; omega, h⟩)) hk9 (fun k o h e => h.2 e) |>.mono (fun k o h => h.1))
                clear hk9 hb9 hseg
                go_roundg (ln - (q + 1))
                case measure => have := HKq.out; omega
                case rel => exact ⟨q + 1, c2 + 1, by omega, by go_num, rfl, by omega, hid (by rw [HTAKE.out, HC2.out]; simp; omega), hid (by rw [HTAKE.out, ← List.append_assoc, List.map_append, HVS.out]; exact hown9), HL9, HG9⟩
              · obtain rfl : ln = q := by omega
                have htk : lt.take ln = lt := List.take_of_length_le (by rw [HLNT.out]; omega)
                rw [htk, ← HSUC.out] at HC2 HSQ
                have HLA := hid (Reads.any HLQ.out)
                have hzk := Nat.lt_of_lt_of_le hz5 HGQ.out.size
                have p0 := (HGQ.out.cell (p := ⟨wr.heap.size, 0, none⟩) hz5).trans r0
                have p1 := (HGQ.out.cell (p := ⟨wr.heap.size, 1, none⟩) hz5).trans r1
                clear htk HNEW
                by_cases hc : f' = 0 ∧ aa = (t : Int) ∧ (d = 5 ∨ (d = 4 ∧ sz ≤ (ln : Int)))
                · obtain ⟨h0, h1, h2⟩ := hc
                  have b0 : (f' == 0) = true := by simp [h0]
                  have b1 : (aa == (t : Int)) = true := by simp [h1]
                  have hh := HHELD.out h0 (by rw [h1, HLT.out, HLNT.out, HZY.out]; exact h2)
                  rw [h1, HLT.out] at hh
                  have HH := hid hh
                  clear hh
                  have hb : (d == 5) = true ∨ ((d == 5) = false ∧ (d == 4) = true ∧ decide (sz ≤ (ln : Int)) = true) := by
                    rcases h2 with rfl | ⟨rfl, h⟩
                    · exact Or.inl rfl
                    · exact Or.inr ⟨rfl, rfl, by simpa using h⟩
                  clear h0 h1 h2
                  have HHW := hid (heldW (HY5.out.grew HGQ.out))
                  rcases hb with b2 | ⟨b2, b3, b4⟩
                  all_goals (
                    go_wp2_with (go_at_call 19; (with_reducible refine HHW.out.mono ?_); go_loud (
                      rintro e w8 ⟨ha, hc8, rfl, hhl, hx⟩
                      have HHL := hid hhl
                      have HX8 := hid hx
                      clear hhl hx))
                    go_loopg [20] ln (fun k i wl => ∃ q : Nat, q ≤ ln ∧ i = .int .i64 q ∧ k = ln - q ∧ Hid (Grew w8 wl))
                    case atStart => exact ⟨0, by omega, rfl, rfl, hid (grew_refl _)⟩
                    case round =>
                      obtain ⟨q, hq2, rfl, hk2, HG8⟩ := hrel
                      have HKq2 := hid hk2; clear hk2
                      rename World => wl
                      by_cases hqt2 : q < ln
                      · obtain ⟨a', c', hve, -, hcc⟩ := HLA.out
                        rw [HLNT.out] at hcc
                        obtain ⟨lb, loff, lo, hla, hlb, -, hcx⟩ := hcc q hqt2
                        obtain rfl : la = a' := by simp at hve; exact hve.1
                        subst hla
                        have hlbl := lt_of_obj hlb
                        replace hcx : _ = some (Value.int .i64 (nth lt q)) := hcx
                        have hmem : nth lt q ∈ lt := by rw [nth_lt (by rw [HLNT.out]; exact hqt2)]; exact List.getElem_mem _
                        have hin := HH.out _ hmem
                        have hnn := (HNN.out q hqt2)
                        obtain ⟨x, hx⟩ : ∃ x, nth lt q = x := ⟨_, rfl⟩
                        rw [hx] at hin hnn hcx
                        have hg8 := grew_trans HX8.out HG8.out
                        have hcx8 := (hg8.cell (p := ⟨lb, loff + q, none⟩) hlbl).trans hcx
                        have hlbl8 := Nat.lt_of_lt_of_le hlbl hg8.size
                        have hhas := has_any _ (heldAll Y') x wl (Reads.grew HHL.out HG8.out)
                        rw [show decide (x ∈ heldAll Y') = true by simpa using mem_heldAll.2 ⟨hnn, hin⟩] at hhas
                        have HHAS := hid hhas
                        clear hcc hve hlb hmem hin hnn hx hcx hlbl hg8 hhas
                        go_wp2_with (go_at_call 23; (with_reducible refine HHAS.out.mono ?_); rintro e w9 ⟨rfl, rfl⟩)
                        go_roundg (ln - (q + 1))
                        case measure => have := HKq2.out; omega
                        case rel => exact ⟨q + 1, by omega, by go_num, rfl, HG8⟩
                      · obtain rfl : ln = q := by omega
                        go_wp2
                        go_roundg (T - (t + 1))
                        case measure => have := HKt.out; omega
                        case rel => exact ⟨t + 1, c2, by omega, by go_num, rfl, by omega, HC2, hid (HSQ.out.grew (grew_trans HX8.out HG8.out)), hid (grew_trans HGQ.out (grew_trans HX8.out HG8.out))⟩)
                · have hb : (f' == 0) = false ∨ ((f' == 0) = true ∧ (aa == (t : Int)) = false) ∨ ((f' == 0) = true ∧ (aa == (t : Int)) = true ∧ (d == 5) = false ∧ (d == 4) = false) ∨ ((f' == 0) = true ∧ (aa == (t : Int)) = true ∧ (d == 5) = false ∧ (d == 4) = true ∧ decide (sz ≤ (ln : Int)) = false) := by
                    simp only [beq_iff_eq, beq_eq_false_iff_ne, ne_eq, decide_eq_false_iff_not]
                    omega
                  clear hc
                  rcases hb with b0 | ⟨b0, b1⟩ | ⟨b0, b1, b2, b3⟩ | ⟨b0, b1, b2, b3, b4⟩
                  all_goals (
                    go_wp2
                    go_roundg (T - (t + 1))
                    case measure => have := HKt.out; omega
                    case rel => exact ⟨t + 1, c2, by omega, by go_num, rfl, by omega, HC2, HSQ, HGQ⟩)
          · obtain rfl : T = t := by omega
            have hall : allTo Y' T = all Y' := by rw [← HTY.out]; exact allTo_all _
            rw [hall] at HCN HSA
            obtain ⟨av, hav⟩ : ∃ av, u12 = av := ⟨_, rfl⟩
            have HAL := hid (fun (y : World) (hy : Grew wt y) (x : Int) => has_any u12 (all Y') x y (Reads.grew (seg_ints (by rw [← HCN.out]; exact HSA.out)) hy))
            have HYT := hid (HY5.out.grew HGT.out)
            obtain ⟨al, ac, hseq, -⟩ := HSA.out.shape
            rw [hseq] at HAL ⊢
            clear hall hav hseq
            have hl5 := HIS.out.st
            go_wp2
            go_loopg [21, 22, 23, 24, 151] 8 (fun k ci i _ _ _ wi => ∃ q r : Nat, q ≤ 8 ∧ ci = .int .i64 r ∧ i = .int .i64 q ∧ k = 8 - q ∧ r ≤ q ∧ Hid (r = cnt Y'.st 1 q) ∧ Hid (Grew wt wi))
            case atStart => exact ⟨0, 0, by omega, rfl, rfl, rfl, by omega, hid (by simp [cnt]), hid (grew_refl _)⟩
            case round =>
              obtain ⟨q, r, hq, rfl, rfl, hk, hrq, HR, HGI⟩ := hrel
              have HKi := hid hk; clear hk
              rename World => wi
              by_cases hq8 : q < 8
              · have hn : isN (q : Int) = true := isN_iff.2 (by omega)
                have hst := stateW (HYT.out.grew HGI.out) hn
                have hal := HAL.out
                have hcs := cnt_succ (l := Y'.st) (s := 1) (j := q) (by rw [hl5]; exact hq8)
                have hsts := HIS.out.sts' hn
                rw [show nth Y'.st q = stAt Y' (q : Int) from rfl, ← HR.out] at hcs
                have hhas := fun (y : World) (hy : Grew wt y) => HAL.out y hy (q : Int)
                simp only [has_all HIS.out hq8] at hhas
                clear hal hn
                obtain ⟨x, hx⟩ : ∃ x, stAt Y' (q : Int) = x := ⟨_, rfl⟩
                rw [hx] at hst hcs hsts
                simp only [hx] at hhas
                clear hx
                rcases hsts with rfl | rfl | rfl
                all_goals (
                  obtain ⟨r2, hr2, hr3⟩ : ∃ r2 : Nat, cnt Y'.st 1 (q + 1) = r2 ∧ (r2 = r ∨ r2 = r + 1) := by first | exact ⟨r, hcs, Or.inl rfl⟩ | exact ⟨r + 1, hcs, Or.inr rfl⟩
                  have HCS := hid hcs
                  have HR2 := hid hr2
                  clear hr2
                  have HST := hid hst
                  have HHAS := hid hhas
                  clear hcs hst hhas
                  go_wp2_with (first
                    | (go_at_call 20; (with_reducible refine HST.out.mono ?_); go_loud (
                        rintro e w7 ⟨rfl, hx7⟩
                        have HX7 := hid (grew_trans HGI.out hx7)
                        clear hx7))
                    | (go_at_call 23; (with_reducible refine (HHAS.out _ HX7.out).mono ?_); rintro e w8 ⟨rfl, rfl⟩))
                  go_roundg (8 - (q + 1))
                  case measure => have := HKi.out; omega
                  case rel => exact ⟨q + 1, r2, by omega, by first | (rw [← HR2.out, HCS.out]; rfl) | (rw [← HR2.out, HCS.out]; go_num), by go_num, rfl, by omega, hid HR2.out.symm, HX7⟩)
              · obtain rfl : q = 8 := by omega
                have hcy := counts_yard HIS.out
                have hcb := count_by HIS.out
                have hc1 : count Y' 1 = (r : Int) := by rw [HR.out]; unfold count cnt; rw [List.take_of_length_le (by omega)]
                have hc0 : 0 ≤ count Y' 0 := by unfold count; omega
                have hby := fun (y : World) (hy : Grew wi y) => byW ((HYT.out.grew HGI.out).grew hy)
                have hfr := fun (y : World) (hy : Grew wi y) => freeW ((HYT.out.grew HGI.out).grew hy)
                rw [← HCN.out] at hcb
                rw [hcb] at hby hcy
                rw [hc1] at hcy
                obtain ⟨z, hz⟩ : ∃ z, count Y' 0 = z := ⟨_, rfl⟩
                rw [hz] at hfr hc0 hcy
                have HBY := hid hby
                have HFR := hid hfr
                have hgw := grew_refl wi
                clear hby hfr hcb hc1 hz
                go_wp2_with (first
                  | (go_at_call 26; (with_reducible refine (HBY.out _ hgw).mono ?_); rintro e w7 ⟨rfl, hx7⟩; replace hgw := grew_trans hgw hx7; clear hx7)
                  | (go_at_call 29; (with_reducible refine (HFR.out _ hgw).mono ?_); rintro e w7 ⟨rfl, hx7⟩; replace hgw := grew_trans hgw hx7; clear hx7))
                go_roundg (n - (j + 1))
                case measure => have := HKj.out; omega
                case rel =>
                  have hgg := grew_trans HGT.out (grew_trans HGI.out hgw)
                  refine ⟨j + 1, F5, by omega, by go_num, rfl, ?_, hid (grew_trans HB5.out hgg)⟩
                  rw [HTK.out, HAS.out]
                  exact hid (HY5.out.grew hgg)
      · obtain rfl : j = n := by omega
        go_wp2_with (go_at_call 12; with_reducible refine (sane_any _).mono ?_; rintro e wz ⟨rfl, hx⟩; have HZ := hid hx; clear hx)
        go_ret
        exact ⟨rfl, grew_trans g0 (grew_trans HGR.out HZ.out)⟩

end Go.Proofs.Ytcifpigjcfkhmaa
