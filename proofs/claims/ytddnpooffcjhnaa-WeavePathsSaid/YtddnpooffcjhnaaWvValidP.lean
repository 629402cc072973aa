/- Walk: valid, of the statements. -/
import Derived.Test.YtddnpooffcjhnaaWvLong
namespace Go.Lin.Wv

/-- Letters and words are valid, and not too long for a statement. -/
def validM (L : Lt) (ws : List (List Int)) : Bool := !longM L ws && valid L && ws.all (isW L)

theorem validM_wrong {L : Lt} {ws : List (List Int)} (h : validM L ws = true) {l : List (List Int)} (hl : ∀ x ∈ l, isW L x = true) : wrong L l = 0 := by
  unfold validM at h
  simp only [Bool.and_eq_true] at h
  unfold wrong
  rw [if_pos h.1.2, if_pos (List.all_eq_true.2 hl)]

theorem validM_spec {L : Lt} {ws : List (List Int)} (h : validM L ws = true) : ∃ N : Nat, L.n = N ∧ 1 ≤ N ∧ N ≤ 6 ∧ ∀ x ∈ ws, isW L x = true ∧ x.length ≤ 10 ∧ ∀ z ∈ x, 0 ≤ z ∧ z < (N : Int) := by
  unfold validM at h
  simp only [Bool.and_eq_true] at h
  obtain ⟨⟨h1, h6⟩, -⟩ := valid_iff h.1.2
  refine ⟨L.n.toNat, by omega, by omega, by omega, fun x hx => ?_⟩
  have hw := List.all_eq_true.1 h.2 x hx
  have := Go.Proofs.Ytddnpooffcjhnaa.isW_iff (N := L.n.toNat) (by omega) hw
  exact ⟨hw, this⟩

theorem isW_mk {L : Lt} {N : Nat} (hN : L.n = N) {x : List Int} (h1 : x.length ≤ 10) (h2 : ∀ z ∈ x, 0 ≤ z ∧ z < (N : Int)) : isW L x = true := by
  unfold isW
  simp only [Bool.and_eq_true, decide_eq_true_eq, List.all_eq_true]
  refine ⟨h1, fun z hz => ?_⟩
  have := h2 z hz
  unfold isL
  simp only [Bool.and_eq_true, decide_eq_true_eq]
  omega

end Go.Lin.Wv
namespace Go.Proofs.Ytddnpooffcjhnaa
open Go.RowKit Go.Lin Go.Lin.Wv

set_option maxHeartbeats 4000000 in
set_option maxRecDepth 20000 in
theorem validP_any (v : Value) (L : Lt) (wv : Value) (ws : List (List Int)) (w : World) (hv : IsLt w v L) (hw : IsRows Any w wv ws) :
    Calls Try.prog 32 #[v, wv] w fun e w' => e = .returned (.bool (validM L ws)) ∧ Grew w w' := by
  have HLG := hid (fun (W : World) (hW : Grew w W) => long_any v L wv ws W (hv.grew hW) (let ⟨V, h1, h2⟩ := hw; ⟨V, Reads.grew h1 hW, fun i hi => Reads.grew (h2 i hi) hW⟩))
  have HVA := hid (fun (W : World) (hW : Grew w W) => rValid_any v L W (hv.grew hW))
  have HIW := hid (fun (W : World) (hW : Grew w W) (xv : Value) (x : List Int) (hx : IsInts Any W xv x) => isW_any v L xv x W (hv.grew hW) hx)
  obtain ⟨s, rfl, -⟩ := hv
  obtain ⟨V, ⟨wa, wc, rfl, hwm, hwc⟩, hrows⟩ := hw
  obtain ⟨q, hq⟩ : ∃ q, ws.length = q := ⟨_, rfl⟩
  obtain ⟨R, hR⟩ : ∃ R, validM L ws = R := ⟨_, rfl⟩
  have HR := hid (show R = (!longM L ws && valid L && ws.all (isW L)) from by rw [← hR]; rfl)
  rw [hR]
  rw [hq] at HLG hwm hwc ⊢
  obtain ⟨p1, hp1⟩ : ∃ p, longM L ws = p := ⟨_, rfl⟩
  obtain ⟨p2, hp2⟩ : ∃ p, valid L = p := ⟨_, rfl⟩
  rw [hp1] at HLG HR; rw [hp2] at HVA HR
  obtain ⟨W0, hW0, g0, k0, k1, hz⟩ := box2 w (.int .i64 L.n) s 24
  have HWC := hid hwc; have HROWS := hid hrows; have HQ := hid hq
  have hg := grew_refl W0
  clear hq hR hwc hrows hp1 hp2
  by_cases hgo : p1 = false ∧ p2 = true
  · obtain ⟨rfl, rfl⟩ := hgo
    go_enter Try.func32, Try.ntmps32
    go_wp2_with (first
      | (go_at_call 16; (with_reducible refine (HLG.out _ (grew_trans g0 hg)).mono ?_); rintro e w1 ⟨rfl, hx⟩; replace hg := grew_trans hg hx; have hc := (bcell hg).1; clear hx)
      | (go_at_call 38; (with_reducible refine (HVA.out _ (grew_trans g0 hg)).mono ?_); rintro e w2 ⟨rfl, hx⟩; replace hg := grew_trans hg hx; have hc := (bcell hg).1; clear hx))
    have HG2 := hid hg
    clear hg hc
    go_loopg [6, 17] q (fun k _ i wr => ∃ j : Nat, j ≤ q ∧ i = .int .i64 j ∧ k = q - j ∧ Hid ((ws.take j).all (isW L) = true) ∧ Hid (Grew W0 wr))
    case atStart => exact ⟨0, by omega, rfl, rfl, hid rfl, HG2⟩
    case round =>
      obtain ⟨j, hj, rfl, hk, HA, HG⟩ := hrel
      have HK := hid hk; clear hk
      rename World => wr
      have kw0 := (HG.out.cell (p := ⟨w.heap.size, 0, none⟩) hz).trans k0
      have kw1 := (HG.out.cell (p := ⟨w.heap.size, 1, none⟩) hz).trans k1
      have hzw := Nat.lt_of_lt_of_le hz HG.out.size
      by_cases hlt : j < q
      · obtain ⟨wb, wof, wo, hwa, hwob, -, hwcc⟩ := HWC.out j hlt
        subst hwa
        have hjw : j < ws.length := by rw [HQ.out]; exact hlt
        have hin := HROWS.out j hjw
        have htk := take_succ_nthL hjw
        have hmem : nthL ws j ∈ ws := by rw [nthL_lt hjw]; exact List.getElem_mem _
        obtain ⟨x, hx⟩ : ∃ x, nthL ws j = x := ⟨_, rfl⟩
        rw [hx] at hin htk hmem
        have hwl := lt_of_obj hwob
        have hgg := grew_trans g0 HG.out
        have hcw := (hgg.cell (p := ⟨wb, wof + j, none⟩) hwl).trans hwcc
        have hwl2 := Nat.lt_of_lt_of_le hwl hgg.size
        have hisw := HIW.out wr hgg (V j) x (Reads.grew hin hgg)
        obtain ⟨va, vc, hVj⟩ : ∃ va vc, V j = .slice va x.length vc := by obtain ⟨va, vc, h, _⟩ := hin; exact ⟨va, vc, h⟩
        rw [hVj] at hcw hisw
        have HTK := hid htk; have HMEM := hid hmem
        clear hin htk hmem hx hwcc hwob hjw
        cases hb : isW L x with
        | true =>
          rw [hb] at hisw
          have HIS := hid hisw
          have HB := hid hb
          clear hisw hb
          go_wp2_with (go_at_call 53; (with_reducible refine HIS.out.mono ?_); rintro e w3 ⟨rfl, hx⟩; have HX := hid hx; clear hx)
          go_roundg (q - (j + 1))
          case measure => have := HK.out; omega
          case rel => exact ⟨j + 1, by omega, by go_num, rfl, hid (by rw [HTK.out, List.all_append, HA.out]; simp [HB.out]), hid (grew_trans HG.out HX.out)⟩
        | false =>
          rw [hb] at hisw
          have HIS := hid hisw
          have hrn : R = false := by
            rw [HR.out, show ws.all (isW L) = false from List.all_eq_false.2 ⟨x, HMEM.out, by rw [hb]; simp⟩, Bool.and_false]
          have HRN := hid hrn
          clear hisw hb hrn
          go_wp2_with (go_at_call 53; (with_reducible refine HIS.out.mono ?_); rintro e w3 ⟨rfl, hx⟩; have HX := hid hx; clear hx)
          go_ret
          exact ⟨by rw [HRN.out]; rfl, grew_trans g0 (grew_trans HG.out HX.out)⟩
      · obtain rfl : q = j := by omega
        have hrn : R = true := by
          have h := HA.out
          rw [List.take_of_length_le (by rw [HQ.out]; exact Nat.le_refl _)] at h
          rw [HR.out, h]; rfl
        have HRN := hid hrn
        clear hrn
        go_wp2
        go_ret
        exact ⟨by rw [HRN.out]; rfl, grew_trans g0 HG.out⟩
  · have hrn : R = false := by
      rw [HR.out]
      cases p1 <;> cases p2 <;> simp_all
    have HRN := hid hrn
    clear hrn
    cases p1 <;> cases p2 <;> first | exact absurd ⟨rfl, rfl⟩ hgo | skip
    all_goals (
      clear hgo
      go_enter Try.func32, Try.ntmps32
      go_wp2_with (first
        | (go_at_call 16; (with_reducible refine (HLG.out _ (grew_trans g0 hg)).mono ?_); rintro e w1 ⟨rfl, hx⟩; replace hg := grew_trans hg hx; have hc := (bcell hg).1; clear hx)
        | (go_at_call 38; (with_reducible refine (HVA.out _ (grew_trans g0 hg)).mono ?_); rintro e w2 ⟨rfl, hx⟩; replace hg := grew_trans hg hx; have hc := (bcell hg).1; clear hx))
      go_ret
      exact ⟨by rw [HRN.out]; rfl, grew_trans g0 hg⟩)

end Go.Proofs.Ytddnpooffcjhnaa
