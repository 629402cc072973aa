/- Walk of the reference: Joined. Walk: Long. Walk: Long. Walk: valid, of the statements. What functions of letters and words answer, whatever holds these words. Plain law: a word begins another one exactly if there is a rest; and so of a word that is joined. -/
import Derived.Test.YtddnpooffcjhnaaWvG
namespace Go.Proofs.Ytddnpooffcjhnaa
open Go.RowKit Go.Lin Go.Lin.Wv

set_option maxHeartbeats 8000000 in
set_option maxRecDepth 20000 in
theorem rJoined27_any (v : Value) (L : Lt) (uv wv : Value) (x y : List Int) (w : World) (hv : IsLt w v L) (hx : IsWd w uv x) (hy : IsWd w wv y) :
    Calls Try.prog 27 #[v, uv, wv] w fun e w' => Gives e w w' (joinedM L x y) := by
  have HV := hid hv
  obtain ⟨s, hveq, -⟩ := id hv
  subst hveq
  obtain ⟨ua, uc, rfl⟩ := isWd_slice hx
  obtain ⟨xa, xc, rfl⟩ := isWd_slice hy
  obtain ⟨W0, hW0, g0, k0, k1, hz⟩ := box2 w (.int .i64 L.n) s 24
  have hask := asked_any _ L _ _ x y W0 (hv.grew g0) (hx.grew g0).ints (hy.grew g0).ints
  obtain ⟨m, hm⟩ : ∃ m, x.length = m := ⟨_, rfl⟩
  have HM := hid hm
  obtain ⟨n, hnn⟩ : ∃ n, y.length = n := ⟨_, rfl⟩
  have HNN := hid hnn
  have HXM := hid (show IsWd w (.slice ua m uc) x by rw [← hm]; exact hx)
  have HYM := hid (show IsWd w (.slice xa n xc) y by rw [← hnn]; exact hy)
  obtain ⟨r, hr⟩ : ∃ r, wrong L [x, y] = r := ⟨_, rfl⟩
  rw [hr] at hask
  have HR := hid hr
  rw [hm, hnn] at hask
  have HASK := hid hask
  rw [hm, hnn]
  have hg := grew_refl W0
  obtain ⟨i0, hi0, hi1, hi2, hi3⟩ := info_parts Try.info3
  clear hask hr hx hy hm hnn hv
  by_cases hr0 : r = 0
  · subst hr0
    obtain ⟨hv1, hw1, hw2⟩ := wrong_two HR.out
    obtain ⟨⟨h1, h6⟩, -⟩ := valid_iff hv1
    obtain ⟨N, hN⟩ : ∃ N : Nat, L.n = N := ⟨L.n.toNat, by omega⟩
    have hN6 : N ≤ 6 := by omega
    obtain ⟨hl1, hlw1⟩ := isW_iff hN hw1; obtain ⟨hl2, hlw2⟩ := isW_iff hN hw2
    have HN := hid hN
    have HVN := hid (show IsLt w (.agg #[.int .i64 (N : Int), s]) L by rw [← hN]; exact HV.out)
    rw [hN] at hW0 k0 HASK ⊢
    rw [HM.out] at hl1; rw [HNN.out] at hl2
    clear hN hv1 hw1 hw2 h1 h6
    go_enter Try.func27, Try.ntmps27
    go_wp2_with (first
      | (go_at_call 64; (with_reducible refine HASK.out.mono ?_); rintro e w1 ⟨rfl, hx⟩; replace hg := grew_trans hg hx; have hc := (bcell hg).1; have HG1 := hid (grew_trans g0 hg); clear hx))
    have hseg0 : Seg (w1.drew.alloc (.cells #[] 3)) w1.heap.size 3 1 (.slice (some ⟨w1.heap.size, 0, none⟩) 0 0) 0 [] :=
      ⟨by simp, .inr ⟨w1.heap.size, 0, 0, #[], rfl, Nat.le_refl _, heap_alloc_new w1.drew _, Nat.le_refl _, by unfold maxLen; omega, by simp, by simp⟩⟩
    have HSEG0 := hid hseg0
    have HSRC1 := hid (fun (W : World) (hW : Grew w1 W) => src_ints ((HXM.out.grew HG1.out).grew hW).ints)
    have HSRC2 := hid (fun (W : World) (hW : Grew w1 W) => src_ints ((HYM.out.grew HG1.out).grew hW).ints)
    rw [HM.out] at HSRC1
    rw [HNN.out] at HSRC2
    have q0 := (hg.cell (p := ⟨w.heap.size, 0, none⟩) hz).trans k0
    have q1 := (hg.cell (p := ⟨w.heap.size, 1, none⟩) hz).trans k1
    have qz := Nat.lt_of_lt_of_le hz hg.size
    clear hseg0 hc hg
    go_region_law (first
      | (refine step_append_seg (by rfl) _ _ 25 25 (by rfl) w1.heap.size 3 i0 (.int .i64 0) 1 8 Try.underlying25 hi0 hi1 hi2 hi3 rfl _ 0 [] (by rfl) HSEG0.out _ (by rfl) m _ (HSRC1.out _ (grew_alloc (grew_drew (grew_refl w1)) _)) (by unfold maxLen; omega) (by omega) (by simp) ?_; intro v7 w7 hown7 hgrow7 hblk7; rw [Nat.zero_add, List.nil_append] at hown7; have hg7 : Grew w1 w7 := ((grew_drew (grew_refl w1)).alloc (Nat.le_refl _) _).grown hgrow7 (by simp) (fun k e => by simp [Value.ownBlock] at e; omega); obtain ⟨a7, c7, rfl, _⟩ := hown7.shape; have HOWN7 := hid hown7; have HG7 := hid hg7; have r0 := (hg7.cell (p := ⟨w.heap.size, 0, none⟩) qz).trans q0; have r1 := (hg7.cell (p := ⟨w.heap.size, 1, none⟩) qz).trans q1; have rz := Nat.lt_of_lt_of_le qz hg7.size; clear hown7 hgrow7 hblk7 hg7)
      | (refine step_append_seg (by rfl) _ _ 25 25 (by rfl) w1.heap.size 3 i0 (.int .i64 0) 1 8 Try.underlying25 hi0 hi1 hi2 hi3 rfl _ m _ (by rfl) HOWN7.out _ (by rfl) n _ (HSRC2.out _ HG7.out) (by unfold maxLen; omega) (by omega) HG7.out.size ?_; intro v8 w8 hown8 hgrow8 hblk8; have hg8 : Grew w1 w8 := HG7.out.grown hgrow8 HG7.out.size (fun k e => (HOWN7.out.own k e).1); obtain ⟨a8, c8, rfl, _⟩ := hown8.shape; rw [← List.map_append] at hown8; have HOWN8 := hid hown8; have HG8 := hid hg8; have s0 := (hg8.cell (p := ⟨w.heap.size, 0, none⟩) qz).trans q0; have s1 := (hg8.cell (p := ⟨w.heap.size, 1, none⟩) qz).trans q1; have sz := Nat.lt_of_lt_of_le qz hg8.size; clear hown8 hgrow8 hblk8 hg8)
      | (go_simp; go_at_call 75; refine (show Calls _ _ _ _ _ from limited_any _ L N _ (x ++ y) w8 HN.out hN6 (letters_append hlw1 hlw2) (HVN.out.grew (grew_trans HG1.out HG8.out)) (by have h := HOWN8.out; rw [show m + n = (x ++ y).length by rw [List.length_append, HM.out, HNN.out]] at h ⊢; exact IsWd.of_seg h)).mono ?_; rintro e w9 ⟨u, rfl, hu, hg9⟩; have HU := hid hu; have HG9 := hid hg9; obtain ⟨_, _, rfl⟩ := isWd_slice hu; clear hu hg9))
    all_goals (
      go_wp2
      go_ret2
      have hj : joinedM L x y = formedM (dep L) N (x ++ y) := by unfold joinedM; rw [HR.out, if_pos rfl, HN.out, Int.toNat_natCast]
      refine ⟨_, ?_, by rw [hj]; exact HU.out, grew_trans HG1.out (grew_trans HG8.out HG9.out)⟩
      rw [hj]; rfl)
  · have hne : (r != 0) = true := by simpa using hr0
    have HR0 := hid hr0
    clear hr0
    go_enter Try.func27, Try.ntmps27
    go_wp2_with (go_at_call 64; (with_reducible refine HASK.out.mono ?_); rintro e w1 ⟨rfl, hx⟩; have HG1 := hid (grew_trans g0 hx); clear hx)
    go_ret2
    exact ⟨_, by rw [show (joinedM L x y).2 = r by unfold joinedM; rw [HR.out, if_neg HR0.out]]; rfl, by rw [show (joinedM L x y).1 = [] by unfold joinedM; rw [HR.out, if_neg HR0.out]]; exact wd_nil _, HG1.out⟩

end Go.Proofs.Ytddnpooffcjhnaa
namespace Go.Lin.Wv

/-- There is too much for a statement. -/
def longM (L : Lt) (ws : List (List Int)) : Bool := ws.any (fun x => decide (60 < x.length)) || decide (60 < L.ps.length)

end Go.Lin.Wv
namespace Go.Proofs.Ytddnpooffcjhnaa
open Go.RowKit Go.Lin Go.Lin.Wv

set_option maxHeartbeats 2000000 in
theorem long_any (v : Value) (L : Lt) (wv : Value) (ws : List (List Int)) (w : World) (hv : IsLt w v L) (hw : IsRows Any w wv ws) :
    Calls Try.prog 16 #[v, wv] w fun e w' => e = .returned (.bool (longM L ws)) ∧ Grew w w' := by
  obtain ⟨s, rfl, pa, pc, rfl, hpm, -⟩ := hv
  obtain ⟨V, ⟨wa, wc, rfl, hwm, hwc⟩, hrows⟩ := hw
  obtain ⟨m, hm⟩ : ∃ m, L.ps.length = m := ⟨_, rfl⟩
  obtain ⟨q, hq⟩ : ∃ q, ws.length = q := ⟨_, rfl⟩
  obtain ⟨R, hR⟩ : ∃ R, longM L ws = R := ⟨_, rfl⟩
  have HR := hid (show R = (ws.any (fun x => decide (60 < x.length)) || decide (60 < m)) from by rw [← hR, ← hm]; rfl)
  rw [hR]
  rw [hm] at hpm ⊢
  rw [hq] at hwm hwc ⊢
  obtain ⟨W0, hW0, g0, k0, k1, hz⟩ := box2 w (.int .i64 L.n) (.slice pa m pc) 24
  have HWC := hid hwc; have HROWS := hid hrows; have HQ := hid hq
  have hg := g0
  clear hm hq hR hwc hrows
  go_enter Try.func16, Try.ntmps16
  go_wp2
  go_loopg [6, 9] q (fun k _ i wr => ∃ j : Nat, j ≤ q ∧ i = .int .i64 j ∧ k = q - j ∧ Hid ((ws.take j).any (fun x => decide (60 < x.length)) = false) ∧ wr = W0)
  case atStart => exact ⟨0, by omega, rfl, rfl, hid rfl, rfl⟩
  case round =>
    obtain ⟨j, hj, rfl, hk, HA, rfl⟩ := hrel
    have HK := hid hk; clear hk
    by_cases hlt : j < q
    · obtain ⟨wb, wof, wo, hwa, hwob, -, hwcc⟩ := HWC.out j hlt
      subst hwa
      have hjw : j < ws.length := by rw [HQ.out]; exact hlt
      have hin := HROWS.out j hjw
      obtain ⟨va, vc, hVj, hxl⟩ : ∃ va vc, V j = .slice va (nthL ws j).length vc ∧ (nthL ws j).length ≤ 9223372036854775807 := by obtain ⟨va, vc, h, h2, _⟩ := hin; exact ⟨va, vc, h, h2⟩
      have htk := take_succ_nthL hjw
      have hmem : nthL ws j ∈ ws := by rw [nthL_lt hjw]; exact List.getElem_mem _
      obtain ⟨x, hx⟩ : ∃ x, nthL ws j = x := ⟨_, rfl⟩
      rw [hx] at hVj htk hmem hxl
      rw [hVj] at hwcc
      have hwl := lt_of_obj hwob
      have hcw := (g0.cell (p := ⟨wb, wof + j, none⟩) hwl).trans hwcc
      have hwl2 := Nat.lt_of_lt_of_le hwl g0.size
      obtain ⟨n, hn⟩ : ∃ n, x.length = n := ⟨_, rfl⟩
      rw [hn] at hcw hxl
      have HN := hid hn; have HTK := hid htk; have HMEM := hid hmem
      clear hin hVj htk hmem hx hwcc hwob hjw hn
      by_cases h60 : 60 < n
      · have h60' : (60 : Int) < (n : Int) := by omega
        have hrn : R = true := by
          rw [HR.out, show ws.any (fun x => decide (60 < x.length)) = true from List.any_eq_true.2 ⟨x, HMEM.out, by rw [HN.out]; simpa using h60⟩]; rfl
        have HRN := hid hrn
        clear hrn
        go_wp2
        go_ret
        exact ⟨by rw [HRN.out]; rfl, g0⟩
      · have h60' : ¬ (60 : Int) < (n : Int) := by omega
        go_wp2
        go_roundg (q - (j + 1))
        case measure => have := HK.out; omega
        case rel => exact ⟨j + 1, by omega, by go_num, rfl, hid (by rw [HTK.out, List.any_append, HA.out]; simp [HN.out]; omega), rfl⟩
    · obtain rfl : q = j := by omega
      have hrn : R = decide (60 < m) := by
        have h := HA.out
        rw [List.take_of_length_le (by rw [HQ.out]; exact Nat.le_refl _)] at h
        rw [HR.out, h]; rfl
      have HRN := hid hrn
      clear hrn
      have hd : decide ((60 : Int) < (m : Int)) = decide (60 < m) := by rw [decide_eq_decide]; omega
      go_wp2
      go_ret
      exact ⟨by rw [HRN.out]; first | rfl | simp, g0⟩

end Go.Proofs.Ytddnpooffcjhnaa
namespace Go.Lin.Wv

/-- Letters and words are valid, and not too long for a statement. -/
def validM (L : Lt) (ws : List (List Int)) : Bool := !longM L ws && valid L && ws.all (isW L)

theorem validM_wrong {L : Lt} {ws : List (List Int)} (h : validM L ws = true) {l : List (List Int)} (hl : ∀ x ∈ l, isW L x = true) : wrong L l = 0 := by
  unfold validM at h
  simp only [Bool.and_eq_true] at h
  unfold wrong
  rw [if_pos h.1.2, if_pos (List.all_eq_true.2 hl)]

theorem validM_spec {L : Lt} {ws : List (List Int)} (h : validM L ws = true) : ∃ N : Nat, L.n = N ∧ 1 ≤ N ∧ N ≤ 6 ∧ ∀ x ∈ ws, isW L x = true ∧ x.length ≤ 10 ∧ ∀ z ∈ x, 0 ≤ z ∧ z < (N : Int) := by
  unfold validM at h
  simp only [Bool.and_eq_true] at h
  obtain ⟨⟨h1, h6⟩, -⟩ := valid_iff h.1.2
  refine ⟨L.n.toNat, by omega, by omega, by omega, fun x hx => ?_⟩
  have hw := List.all_eq_true.1 h.2 x hx
  have := Go.Proofs.Ytddnpooffcjhnaa.isW_iff (N := L.n.toNat) (by omega) hw
  exact ⟨hw, this⟩

theorem isW_mk {L : Lt} {N : Nat} (hN : L.n = N) {x : List Int} (h1 : x.length ≤ 10) (h2 : ∀ z ∈ x, 0 ≤ z ∧ z < (N : Int)) : isW L x = true := by
  unfold isW
  simp only [Bool.and_eq_true, decide_eq_true_eq, List.all_eq_true]
  refine ⟨h1, fun z hz => ?_⟩
  have := h2 z hz
  unfold isL
  simp only [Bool.and_eq_true, decide_eq_true_eq]
  omega

end Go.Lin.Wv
namespace Go.Proofs.Ytddnpooffcjhnaa
open Go.RowKit Go.Lin Go.Lin.Wv

set_option maxHeartbeats 4000000 in
set_option maxRecDepth 20000 in
theorem validP_any (v : Value) (L : Lt) (wv : Value) (ws : List (List Int)) (w : World) (hv : IsLt w v L) (hw : IsRows Any w wv ws) :
    Calls Try.prog 32 #[v, wv] w fun e w' => e = .returned (.bool (validM L ws)) ∧ Grew w w' := by
  have HLG := hid (fun (W : World) (hW : Grew w W) => long_any v L wv ws W (hv.grew hW) (let ⟨V, h1, h2⟩ := hw; ⟨V, Reads.grew h1 hW, fun i hi => Reads.grew (h2 i hi) hW⟩))
  have HVA := hid (fun (W : World) (hW : Grew w W) => rValid_any v L W (hv.grew hW))
  have HIW := hid (fun (W : World) (hW : Grew w W) (xv : Value) (x : List Int) (hx : IsInts Any W xv x) => isW_any v L xv x W (hv.grew hW) hx)
  obtain ⟨s, rfl, -⟩ := hv
  obtain ⟨V, ⟨wa, wc, rfl, hwm, hwc⟩, hrows⟩ := hw
  obtain ⟨q, hq⟩ : ∃ q, ws.length = q := ⟨_, rfl⟩
  obtain ⟨R, hR⟩ : ∃ R, validM L ws = R := ⟨_, rfl⟩
  have HR := hid (show R = (!longM L ws && valid L && ws.all (isW L)) from by rw [← hR]; rfl)
  rw [hR]
  rw [hq] at HLG hwm hwc ⊢
  obtain ⟨p1, hp1⟩ : ∃ p, longM L ws = p := ⟨_, rfl⟩
  obtain ⟨p2, hp2⟩ : ∃ p, valid L = p := ⟨_, rfl⟩
  rw [hp1] at HLG HR; rw [hp2] at HVA HR
  obtain ⟨W0, hW0, g0, k0, k1, hz⟩ := box2 w (.int .i64 L.n) s 24
  have HWC := hid hwc; have HROWS := hid hrows; have HQ := hid hq
  have hg := grew_refl W0
  clear hq hR hwc hrows hp1 hp2
  by_cases hgo : p1 = false ∧ p2 = true
  · obtain ⟨rfl, rfl⟩ := hgo
    go_enter Try.func32, Try.ntmps32
    go_wp2_with (first
      | (go_at_call 16; (with_reducible refine (HLG.out _ (grew_trans g0 hg)).mono ?_); rintro e w1 ⟨rfl, hx⟩; replace hg := grew_trans hg hx; have hc := (bcell hg).1; clear hx)
      | (go_at_call 38; (with_reducible refine (HVA.out _ (grew_trans g0 hg)).mono ?_); rintro e w2 ⟨rfl, hx⟩; replace hg := grew_trans hg hx; have hc := (bcell hg).1; clear hx))
    have HG2 := hid hg
    clear hg hc
    go_loopg [6, 17] q (fun k _ i wr => ∃ j : Nat, j ≤ q ∧ i = .int .i64 j ∧ k = q - j ∧ Hid ((ws.take j).all (isW L) = true) ∧ Hid (Grew W0 wr))
    case atStart => exact ⟨0, by omega, rfl, rfl, hid rfl, HG2⟩
    case round =>
      obtain ⟨j, hj, rfl, hk, HA, HG⟩ := hrel
      have HK := hid hk; clear hk
      rename World => wr
      have kw0 := (HG.out.cell (p := ⟨w.heap.size, 0, none⟩) hz).trans k0
      have kw1 := (HG.out.cell (p := ⟨w.heap.size, 1, none⟩) hz).trans k1
      have hzw := Nat.lt_of_lt_of_le hz HG.out.size
      by_cases hlt : j < q
      · obtain ⟨wb, wof, wo, hwa, hwob, -, hwcc⟩ := HWC.out j hlt
        subst hwa
        have hjw : j < ws.length := by rw [HQ.out]; exact hlt
        have hin := HROWS.out j hjw
        have htk := take_succ_nthL hjw
        have hmem : nthL ws j ∈ ws := by rw [nthL_lt hjw]; exact List.getElem_mem _
        obtain ⟨x, hx⟩ : ∃ x, nthL ws j = x := ⟨_, rfl⟩
        rw [hx] at hin htk hmem
        have hwl := lt_of_obj hwob
        have hgg := grew_trans g0 HG.out
        have hcw := (hgg.cell (p := ⟨wb, wof + j, none⟩) hwl).trans hwcc
        have hwl2 := Nat.lt_of_lt_of_le hwl hgg.size
        have hisw := HIW.out wr hgg (V j) x (Reads.grew hin hgg)
        obtain ⟨va, vc, hVj⟩ : ∃ va vc, V j = .slice va x.length vc := by obtain ⟨va, vc, h, _⟩ := hin; exact ⟨va, vc, h⟩
        rw [hVj] at hcw hisw
        have HTK := hid htk; have HMEM := hid hmem
        clear hin htk hmem hx hwcc hwob hjw
        cases hb : isW L x with
        | true =>
          rw [hb] at hisw
          have HIS := hid hisw
          have HB := hid hb
          clear hisw hb
          go_wp2_with (go_at_call 53; (with_reducible refine HIS.out.mono ?_); rintro e w3 ⟨rfl, hx⟩; have HX := hid hx; clear hx)
          go_roundg (q - (j + 1))
          case measure => have := HK.out; omega
          case rel => exact ⟨j + 1, by omega, by go_num, rfl, hid (by rw [HTK.out, List.all_append, HA.out]; simp [HB.out]), hid (grew_trans HG.out HX.out)⟩
        | false =>
          rw [hb] at hisw
          have HIS := hid hisw
          have hrn : R = false := by
            rw [HR.out, show ws.all (isW L) = false from List.all_eq_false.2 ⟨x, HMEM.out, by rw [hb]; simp⟩, Bool.and_false]
          have HRN := hid hrn
          clear hisw hb hrn
          go_wp2_with (go_at_call 53; (with_reducible refine HIS.out.mono ?_); rintro e w3 ⟨rfl, hx⟩; have HX := hid hx; clear hx)
          go_ret
          exact ⟨by rw [HRN.out]; rfl, grew_trans g0 (grew_trans HG.out HX.out)⟩
      · obtain rfl : q = j := by omega
        have hrn : R = true := by
          have h := HA.out
          rw [List.take_of_length_le (by rw [HQ.out]; exact Nat.le_refl _)] at h
          rw [HR.out, h]; rfl
        have HRN := hid hrn
        clear hrn
        go_wp2
        go_ret
        exact ⟨by rw [HRN.out]; rfl, grew_trans g0 HG.out⟩
  · have hrn : R = false := by
      rw [HR.out]
      cases p1 <;> cases p2 <;> simp_all
    have HRN := hid hrn
    clear hrn
    cases p1 <;> cases p2 <;> first | exact absurd ⟨rfl, rfl⟩ hgo | skip
    all_goals (
      clear hgo
      go_enter Try.func32, Try.ntmps32
      go_wp2_with (first
        | (go_at_call 16; (with_reducible refine (HLG.out _ (grew_trans g0 hg)).mono ?_); rintro e w1 ⟨rfl, hx⟩; replace hg := grew_trans hg hx; have hc := (bcell hg).1; clear hx)
        | (go_at_call 38; (with_reducible refine (HVA.out _ (grew_trans g0 hg)).mono ?_); rintro e w2 ⟨rfl, hx⟩; replace hg := grew_trans hg hx; have hc := (bcell hg).1; clear hx))
      go_ret
      exact ⟨by rw [HRN.out]; rfl, grew_trans g0 hg⟩)

end Go.Proofs.Ytddnpooffcjhnaa
namespace Go.Proofs.Ytddnpooffcjhnaa
open Go.RowKit Go.Lin Go.Lin.Wv

/-- f answers the words la, lb with a list and an error. -/
abbrev Ans2 (f : Nat) (v : Value) (w : World) (la lb : List Int) (r : List Int × Int) : Prop :=
  ∀ W, Grew w W → ∀ a b, IsWd W a la → IsWd W b lb → Calls Try.prog f #[v, a, b] W fun e w' => ∃ u, e = .returned (.tuple #[u, .int .i64 r.2]) ∧ IsWd w' u r.1 ∧ Grew W w'
abbrev Ans1 (f : Nat) (v : Value) (w : World) (la : List Int) (r : List Int × Int) : Prop :=
  ∀ W, Grew w W → ∀ a, IsWd W a la → Calls Try.prog f #[v, a] W fun e w' => ∃ u, e = .returned (.tuple #[u, .int .i64 r.2]) ∧ IsWd w' u r.1 ∧ Grew W w'
/-- .. with a Bool and an error. -/
abbrev AnsB (f : Nat) (v : Value) (w : World) (la lb : List Int) (r : Bool × Int) : Prop :=
  ∀ W, Grew w W → ∀ a b, IsWd W a la → IsWd W b lb → Calls Try.prog f #[v, a, b] W fun e w' => e = .returned (.tuple #[.bool r.1, .int .i64 r.2]) ∧ Grew W w'

section
variable {v : Value} {L : Lt} {w : World} (hn : L.n ≤ 9223372036854775807) (hv : IsLt w v L) {la lb : List Int} {r : List Int × Int} {b : Bool × Int}
include hn hv
theorem ans26 (h : joinedM L la lb = r) : Ans2 26 v w la lb r := fun W hW a b ha hb => by subst h; exact joined26_any v L a b la lb W hn (hv.grew hW) ha hb
theorem ans30 (h : restM L la lb = r) : Ans2 30 v w la lb r := fun W hW a b ha hb => by subst h; exact rest30_any v L a b la lb W hn (hv.grew hW) ha hb
theorem ans33 (h : firstM L la = r) : Ans1 33 v w la r := fun W hW a ha => by subst h; exact first33_any v L a la W hn (hv.grew hW) ha
theorem ansb28 (h : beginsM L la lb = b) : AnsB 28 v w la lb b := fun W hW a b ha hb => by subst h; exact begins28_any v L a b la lb W hn (hv.grew hW) ha hb
end

theorem same_true (a b : Value) (l : List Int) (W : World) (ha : IsInts Any W a l) (hb : IsInts Any W b l) : Calls Try.prog 23 #[a, b] W fun e w' => e = .returned (.bool true) ∧ Grew W w' :=
  (sameInts_any a b l l W ha hb).mono fun e w' ⟨h1, h2⟩ => ⟨by rw [h1, beq_self_eq_true], h2⟩

theorem rows_three {w : World} {v u t : Value} {xs ys zs : List Int} (h : IsInts Any w v xs) (h2 : IsInts Any w u ys) (h3 : IsInts Any w t zs) (ty : TypeId) : IsRows Any (w.alloc (.cells #[v, u, t] ty)) (.slice (some ⟨w.heap.size, 0, none⟩) 3 3) [xs, ys, zs] := by
  refine ⟨fun i => if i = 0 then v else if i = 1 then u else t, ⟨_, _, rfl, by simp, fun i hi => ?_⟩, fun i hi => ?_⟩
  · have hi' : i = 0 ∨ i = 1 ∨ i = 2 := by simp at hi; omega
    rcases hi' with rfl | rfl | rfl <;> exact ⟨_, _, _, rfl, heap_alloc_new w _, trivial, by simp⟩
  · have hi' : i = 0 ∨ i = 1 ∨ i = 2 := by simp at hi; omega
    have hg := grew_alloc (grew_refl w) (.cells #[v, u, t] ty)
    rcases hi' with rfl | rfl | rfl
    · simpa [nthL] using Reads.grew h hg
    · simpa [nthL] using Reads.grew h2 hg
    · simpa [nthL] using Reads.grew h3 hg

end Go.Proofs.Ytddnpooffcjhnaa
namespace Go.Lin.Wv

section
variable {L : Lt} {N : Nat} (hN : L.n = N)

theorem first_len {x : List Int} (h : ∀ z ∈ x, 0 ≤ z ∧ z < (N : Int)) : (first (dep L) N x).length = x.length := ((alike_first (dep_comm L) h).length (dep_refl L)).symm
theorem first_letters {x : List Int} (h : ∀ z ∈ x, 0 ≤ z ∧ z < (N : Int)) : ∀ z ∈ first (dep L) N x, 0 ≤ z ∧ z < (N : Int) := fun z hz => h z (((alike_first (dep_comm L) h).perm (dep_refl L)).mem_iff.2 hz)

/-- What is well formed. -/
structure GoodW (N : Nat) (x : List Int) : Prop where
  len : x.length ≤ 10
  ok : ∀ z ∈ x, 0 ≤ z ∧ z < (N : Int)

theorem GoodW.first {x : List Int} (h : GoodW N x) : GoodW N (first (dep L) N x) := ⟨by rw [first_len h.ok]; exact h.len, first_letters h.ok⟩
theorem GoodW.rest {u x l : List Int} (h : GoodW N x) (hr : rest (dep L) u x = some l) : GoodW N l := ⟨Nat.le_trans (rest_length hr) h.len, fun z hz => h.ok z (rest_sub hr z hz)⟩

theorem good_wrong (hv : valid L = true) (hN : L.n = N) {l : List (List Int)} (h : ∀ x ∈ l, GoodW N x) : wrong L l = 0 := by
  unfold wrong
  rw [if_pos hv, if_pos (List.all_eq_true.2 fun x hx => isW_mk hN (h x hx).len (h x hx).ok)]

variable (hv : valid L = true)
include hN hv

theorem joinedM_good {x y : List Int} (hx : GoodW N x) (hy : GoodW N y) : joinedM L x y = if (x ++ y).length ≤ 10 then (first (dep L) N (x ++ y), 0) else ([], 4) := by
  unfold joinedM
  rw [if_pos (good_wrong hv hN (by simp; exact ⟨hx, hy⟩)), hN]
  rfl

theorem restM_good {x y : List Int} (hx : GoodW N x) (hy : GoodW N y) : restM L x y = match rest (dep L) x y with | some l => (first (dep L) N l, 0) | none => ([], 5) := by
  unfold restM
  rw [if_pos (good_wrong hv hN (by simp; exact ⟨hx, hy⟩))]
  cases rest (dep L) x y with
  | none => rfl
  | some l => simp only [restO, hN, Int.toNat_natCast]

theorem beginsM_good {x y : List Int} (hx : GoodW N x) (hy : GoodW N y) : beginsM L x y = ((rest (dep L) x y).isSome, 0) := by
  unfold beginsM
  rw [if_pos (good_wrong hv hN (by simp; exact ⟨hx, hy⟩))]

theorem firstM_good {x : List Int} (hx : GoodW N x) : firstM L x = (first (dep L) N x, 0) := by
  unfold firstM
  rw [if_pos (good_wrong hv hN (by simp; exact hx)), hN, Int.toNat_natCast]

/-- The rest joined again is the first form. -/
theorem again_first {u w l : List Int} (hu : GoodW N u) (hw : GoodW N w) (h : rest (dep L) u w = some l) : joinedM L u (first (dep L) N l) = (first (dep L) N w, 0) := by
  have hl := hw.rest h
  have ha := rest_alike (dep_comm L) h
  have hlen := ha.length (dep_refl L)
  rw [List.length_append] at hlen
  have hal := alike_first (dep_comm L) hl.ok
  rw [joinedM_good hN hv hu hl.first, if_pos (by rw [List.length_append, first_len hl.ok]; have := hw.len; omega)]
  rw [first_alike (dep_refl L) (dep_comm L) N ((Alike.append (Alike.refl u) hal.symm).trans ha.symm)]

/-- A word that is joined is begun by the first one, and the rest is the second one's first form. -/
theorem joined_rest {u w : List Int} (hu : GoodW N u) (hw : GoodW N w) (h : (u ++ w).length ≤ 10) : GoodW N (first (dep L) N (u ++ w)) ∧ beginsM L u (first (dep L) N (u ++ w)) = (true, 0) ∧ restM L u (first (dep L) N (u ++ w)) = (first (dep L) N w, 0) := by
  have hok : ∀ z ∈ u ++ w, 0 ≤ z ∧ z < (N : Int) := fun z hz => (List.mem_append.1 hz).elim (hu.ok z) (hw.ok z)
  have hb : GoodW N (first (dep L) N (u ++ w)) := GoodW.first ⟨h, hok⟩
  obtain ⟨x, hx, hxa⟩ := rest_of_alike (dep_refl L) (dep_comm L) (u := u) (w := first (dep L) N (u ++ w)) (v := w) (alike_first (dep_comm L) hok).symm
  refine ⟨hb, ?_, ?_⟩
  · rw [beginsM_good hN hv hu hb, hx]; rfl
  · rw [restM_good hN hv hu hb, hx]
    simp only
    rw [first_alike (dep_refl L) (dep_comm L) N hxa]

theorem joined_assoc {u w v : List Int} (hu : GoodW N u) (hw : GoodW N w) (hv' : GoodW N v) (h1 : (u ++ w).length ≤ 10) (h2 : (w ++ v).length ≤ 10) (h3 : (first (dep L) N (u ++ w) ++ v).length ≤ 10) :
    joinedM L (first (dep L) N (u ++ w)) v = (first (dep L) N (u ++ w ++ v), 0) ∧ joinedM L u (first (dep L) N (w ++ v)) = (first (dep L) N (u ++ w ++ v), 0) := by
  have ok1 : ∀ z ∈ u ++ w, 0 ≤ z ∧ z < (N : Int) := fun z hz => (List.mem_append.1 hz).elim (hu.ok z) (hw.ok z)
  have ok2 : ∀ z ∈ w ++ v, 0 ≤ z ∧ z < (N : Int) := fun z hz => (List.mem_append.1 hz).elim (hw.ok z) (hv'.ok z)
  have a1 := alike_first (dep_comm L) ok1
  have a2 := alike_first (dep_comm L) ok2
  rw [List.length_append, first_len ok1, List.length_append] at h3
  refine ⟨?_, ?_⟩
  · rw [joinedM_good hN hv (GoodW.first ⟨h1, ok1⟩) hv', if_pos (by rw [List.length_append, first_len ok1, List.length_append]; omega)]
    rw [first_alike (dep_refl L) (dep_comm L) N (Alike.append a1.symm (Alike.refl v))]
  · rw [joinedM_good hN hv hu (GoodW.first ⟨h2, ok2⟩), if_pos (by rw [List.length_append, first_len ok2, List.length_append]; omega)]
    rw [first_alike (dep_refl L) (dep_comm L) N (Alike.append (Alike.refl u) a2.symm), List.append_assoc]

end
end Go.Lin.Wv
