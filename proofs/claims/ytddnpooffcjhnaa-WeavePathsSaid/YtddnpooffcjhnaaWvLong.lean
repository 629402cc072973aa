/- Walk: Long. -/
import Derived.Test.YtddnpooffcjhnaaWvJoined
namespace Go.Lin.Wv

/-- There is too much for a statement. -/
def longM (L : Lt) (ws : List (List Int)) : Bool := ws.any (fun x => decide (60 < x.length)) || decide (60 < L.ps.length)

end Go.Lin.Wv
namespace Go.Proofs.Ytddnpooffcjhnaa
open Go.RowKit Go.Lin Go.Lin.Wv

set_option maxHeartbeats 2000000 in
theorem long_any (v : Value) (L : Lt) (wv : Value) (ws : List (List Int)) (w : World) (hv : IsLt w v L) (hw : IsRows Any w wv ws) :
    Calls Try.prog 16 #[v, wv] w fun e w' => e = .returned (.bool (longM L ws)) ∧ Grew w w' := by
  obtain ⟨s, rfl, pa, pc, rfl, hpm, -⟩ := hv
  obtain ⟨V, ⟨wa, wc, rfl, hwm, hwc⟩, hrows⟩ := hw
  obtain ⟨m, hm⟩ : ∃ m, L.ps.length = m := ⟨_, rfl⟩
  obtain ⟨q, hq⟩ : ∃ q, ws.length = q := ⟨_, rfl⟩
  obtain ⟨R, hR⟩ : ∃ R, longM L ws = R := ⟨_, rfl⟩
  have HR := hid (show R = (ws.any (fun x => decide (60 < x.length)) || decide (60 < m)) from by rw [← hR, ← hm]; rfl)
  rw [hR]
  rw [hm] at hpm ⊢
  rw [hq] at hwm hwc ⊢
  obtain ⟨W0, hW0, g0, k0, k1, hz⟩ := box2 w (.int .i64 L.n) (.slice pa m pc) 24
  have HWC := hid hwc; have HROWS := hid hrows; have HQ := hid hq
  have hg := g0
  clear hm hq hR hwc hrows
  go_enter Try.func16, Try.ntmps16
  go_wp2
  go_loopg [6, 9] q (fun k _ i wr => ∃ j : Nat, j ≤ q ∧ i = .int .i64 j ∧ k = q - j ∧ Hid ((ws.take j).any (fun x => decide (60 < x.length)) = false) ∧ wr = W0)
  case atStart => exact ⟨0, by omega, rfl, rfl, hid rfl, rfl⟩
  case round =>
    obtain ⟨j, hj, rfl, hk, HA, rfl⟩ := hrel
    have HK := hid hk; clear hk
    by_cases hlt : j < q
    · obtain ⟨wb, wof, wo, hwa, hwob, -, hwcc⟩ := HWC.out j hlt
      subst hwa
      have hjw : j < ws.length := by rw [HQ.out]; exact hlt
      have hin := HROWS.out j hjw
      obtain ⟨va, vc, hVj, hxl⟩ : ∃ va vc, V j = .slice va (nthL ws j).length vc ∧ (nthL ws j).length ≤ 9223372036854775807 := by obtain ⟨va, vc, h, h2, _⟩ := hin; exact ⟨va, vc, h, h2⟩
      have htk := take_succ_nthL hjw
      have hmem : nthL ws j ∈ ws := by rw [nthL_lt hjw]; exact List.getElem_mem _
      obtain ⟨x, hx⟩ : ∃ x, nthL ws j = x := ⟨_, rfl⟩
      rw [hx] at hVj htk hmem hxl
      rw [hVj] at hwcc
      have hwl := lt_of_obj hwob
      have hcw := (g0.cell (p := ⟨wb, wof + j, none⟩) hwl).trans hwcc
      have hwl2 := Nat.lt_of_lt_of_le hwl g0.size
      obtain ⟨n, hn⟩ : ∃ n, x.length = n := ⟨_, rfl⟩
      rw [hn] at hcw hxl
      have HN := hid hn; have HTK := hid htk; have HMEM := hid hmem
      clear hin hVj htk hmem hx hwcc hwob hjw hn
      by_cases h60 : 60 < n
      · have h60' : (60 : Int) < (n : Int) := by omega
        have hrn : R = true := by
          rw [HR.out, show ws.any (fun x => decide (60 < x.length)) = true from List.any_eq_true.2 ⟨x, HMEM.out, by rw [HN.out]; simpa using h60⟩]; rfl
        have HRN := hid hrn
        clear hrn
        go_wp2
        go_ret
        exact ⟨by rw [HRN.out]; rfl, g0⟩
      · have h60' : ¬ (60 : Int) < (n : Int) := by omega
        go_wp2
        go_roundg (q - (j + 1))
        case measure => have := HK.out; omega
        case rel => exact ⟨j + 1, by omega, by go_num, rfl, hid (by rw [HTK.out, List.any_append, HA.out]; simp [HN.out]; omega), rfl⟩
    · obtain rfl : q = j := by omega
      have hrn : R = decide (60 < m) := by
        have h := HA.out
        rw [List.take_of_length_le (by rw [HQ.out]; exact Nat.le_refl _)] at h
        rw [HR.out, h]; rfl
      have HRN := hid hrn
      clear hrn
      have hd : decide ((60 : Int) < (m : Int)) = decide (60 < m) := by rw [decide_eq_decide]; omega
      go_wp2
      go_ret
      exact ⟨by rw [HRN.out]; first | rfl | simp, g0⟩

end Go.Proofs.Ytddnpooffcjhnaa
