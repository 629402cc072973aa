/- The law SpecLed: it answers true of every input. -/
import Derived.Test.YtnebpcpihldllaaLeastCall
import Derived.Test.YtnebpcpihldllaaLTurns
namespace Go.Proofs.Ytnebpcpihldllaa
open Go.RowKit Go.Lin

theorem nats_shape {S : Nat → Obj → Prop} {w : World} {u : Value} {xs : List Nat} (h : IsNats S w u xs) : ∃ a c, u = .slice a xs.length c := by
  obtain ⟨a, c, rfl, _, _⟩ := h
  exact ⟨a, c, rfl⟩

theorem way_run {s : RSpec} (hv : validM s = true) {a : Nat} {vs : List Nat} (h : IsWay (machOf s) a vs) (sv v : Value) (w : World) (hs : IsSpec w sv s) (hx : IsInts Any w v (ofN vs)) :
    Calls Try.prog 28 #[sv, .int .i64 0, v] w fun e w' => ∃ u, e = .returned (.tuple #[u, .int .i64 (a : Int), .int .i64 0]) ∧ Grew w w' := by
  obtain ⟨h1, h2, _⟩ := way_runs hv h
  have := runOf_any s 0 (ofN vs) sv v w hs hx
  rw [h1, h2] at this
  exact this.mono (fun e w' ⟨u, he, _, hg⟩ => ⟨u, he, hg⟩)

theorem word_run {s : RSpec} (hv : validM s = true) {ws : List Int} (hw : isWordM s.ops ws = true) (sv v : Value) (w : World) (hs : IsSpec w sv s) (hx : IsInts Any w v ws) :
    Calls Try.prog 28 #[sv, .int .i64 0, v] w fun e w' => ∃ u, e = .returned (.tuple #[u, .int .i64 ((stM (machOf s) 0 (toN ws) : Nat) : Int), .int .i64 0]) ∧ Grew w w' := by
  obtain ⟨⟨s1, s8, o1, o4⟩, _⟩ := valid_parts hv
  have hE : runE s 0 ws = 0 := by
    unfold runE
    rw [hv, hw, show inM s.st 0 = true by unfold inM; simp; omega]
    rfl
  have := runOf_any s 0 ws sv v w hs hx
  rw [hE, show runTo s 0 ws = ((stM (machOf s) 0 (toN ws) : Nat) : Int) by unfold runTo; rw [if_pos hE]; rfl] at this
  exact this.mono (fun e w' ⟨u, he, _, hg⟩ => ⟨u, he, hg⟩)

set_option maxHeartbeats 4000000 in
theorem specLed_law (s : RSpec) (x8 : Int) (ws : List Int) (sv v : Value) (w : World) (h8 : 0 ≤ x8 ∧ x8 ≤ 255) (hs : IsSpec w sv s) (hx : IsInts Any w v ws) :
    Calls Try.prog 11 #[sv, .int .u8 x8, v] w fun e w' => e = .returned (.bool true) ∧ Grew w w' := by
  have HS := hs
  have HX := hx
  obtain ⟨va, vc, rfl⟩ := ints_shape hx
  obtain ⟨na, nc, ya, yc, rfl⟩ := isSpec_open' hs
  obtain ⟨W0, hW0, g0, k0, k1, k2, k3, hz⟩ := box4 w (.int .i64 s.st) (.int .i64 s.ops) (.slice na s.next.length nc) (.slice ya s.says.length yc) 24
  have hg := grew_refl W0
  have HRV := hid (fun (y : World) (hy : Grew w y) => refValid_any s _ y (HS.grew hy))
  have HWD := hid (fun (y : World) (hy : Grew w y) => isWord_any s _ _ ws y (HS.grew hy) (HX.grew hy))
  have HLO := hid (fun (y : World) (hy : Grew w y) => long_any s _ y (HS.grew hy))
  cases hv : validM s with
  | false =>
    rw [hv] at HRV
    clear hs hx HX
    go_enter Try.func11, Try.ntmps11
    go_wp2_with (first
      | (go_at_call 16; with_reducible refine (HLO.out _ (grew_trans g0 hg)).mono ?_; rintro e w1 ⟨x1, rfl, hx1, hx⟩; replace hg := grew_trans hg hx; have hc := (bcell hg).1; clear hx; rcases hx1 with rfl | rfl)
      | (go_at_call 33; with_reducible refine (HRV.out _ (grew_trans g0 hg)).mono ?_; rintro e w2 ⟨rfl, hx⟩; replace hg := grew_trans hg hx; have hc := (bcell hg).1; clear hx)
      | (go_at_call 17; with_reducible refine (awake_any _).mono ?_; rintro e w6 ⟨rfl, hx6⟩))
    all_goals
      go_ret
      exact ⟨rfl, grew_trans (grew_trans g0 hg) hx6⟩
  | true =>
  cases hw : isWordM s.ops ws with
  | false =>
    rw [hv] at HRV
    rw [hw] at HWD
    clear hs hx HX
    go_enter Try.func11, Try.ntmps11
    go_wp2_with (first
      | (go_at_call 16; with_reducible refine (HLO.out _ (grew_trans g0 hg)).mono ?_; rintro e w1 ⟨x1, rfl, hx1, hx⟩; replace hg := grew_trans hg hx; have hc := (bcell hg).1; clear hx; rcases hx1 with rfl | rfl)
      | (go_at_call 33; with_reducible refine (HRV.out _ (grew_trans g0 hg)).mono ?_; rintro e w2 ⟨rfl, hx⟩; replace hg := grew_trans hg hx; have hc := (bcell hg).1; clear hx)
      | (go_at_call 34; with_reducible refine (HWD.out _ (grew_trans g0 hg)).mono ?_; rintro e w2 ⟨rfl, hx⟩; replace hg := grew_trans hg hx; have hc := (bcell hg).1; clear hx)
      | (go_at_call 17; with_reducible refine (awake_any _).mono ?_; rintro e w6 ⟨rfl, hx6⟩))
    all_goals
      go_ret
      exact ⟨rfl, grew_trans (grew_trans g0 hg) hx6⟩
  | true =>
    obtain ⟨⟨s1, s8, o1, o4⟩, _⟩ := valid_parts hv
    have hM := wf_machOf hv
    obtain ⟨a, hc8, han⟩ : ∃ a : Nat, x8.tmod s.st = (a : Int) ∧ a < (machOf s).n := by
      refine ⟨(x8.tmod s.st).toNat, ?_, ?_⟩ <;> rw [Int.tmod_eq_emod_of_nonneg h8.1]
      · have := Int.emod_nonneg x8 (show s.st ≠ 0 by omega); omega
      · have := Int.emod_nonneg x8 (show s.st ≠ 0 by omega); have := Int.emod_lt_of_pos x8 (show 0 < s.st by omega); simp only [machOf]; omega
    have HWAY := hid (fun (y : World) (hy : Grew w y) => way_ok s _ a y (HS.grew hy) hv han)
    have HRE := hid (fun (y : World) (hy : Grew w y) => reached_ok s _ y (HS.grew hy) hv)
    have HR1 := hid (fun (y : World) (hy : Grew w y) => word_run hv hw _ _ y (HS.grew hy) (HX.grew hy))
    have HR2 := hid (fun (u : Value) (vs : List Nat) (h : IsWay (machOf s) a vs) (y : World) (hy : Grew w y) (hu : IsInts Any y u (ofN vs)) => way_run hv h _ u y (HS.grew hy) hu)
    have HLEN := hid (fun (vs : List Nat) (h : IsWay (machOf s) a vs) => (way_runs hv h).2.2)
    have HOK := hid (okW_toN hw)
    have hlw : (toN ws).length = ws.length := by simp [toN]
    obtain ⟨to, hto⟩ : ∃ to, stM (machOf s) 0 (toN ws) = to := ⟨_, rfl⟩
    have HTO := hid hto
    rw [hto] at HR1
    obtain ⟨M, hMe⟩ : ∃ M, machOf s = M := ⟨_, rfl⟩
    rw [hMe] at hM han HWAY HRE HR2 HLEN HOK HTO
    have HIN := hid (inL_all hM a)
    obtain ⟨xs, hxs⟩ : ∃ xs, reachL M = xs := ⟨_, rfl⟩
    rw [hxs] at HRE HIN
    have HLW := hid hlw
    rw [hv] at HRV
    rw [hw] at HWD
    clear hs hx hv hw hto hMe hlw hxs
    go_enter Try.func11, Try.ntmps11
    go_wp2_with (first
      | (go_at_call 16; with_reducible refine (HLO.out _ (grew_trans g0 hg)).mono ?_; rintro e w1 ⟨x1, rfl, hx1, hx⟩; replace hg := grew_trans hg hx; have hc := (bcell hg).1; clear hx; rcases hx1 with rfl | rfl)
      | (go_at_call 33; with_reducible refine (HRV.out _ (grew_trans g0 hg)).mono ?_; rintro e w2 ⟨rfl, hx⟩; replace hg := grew_trans hg hx; have hc := (bcell hg).1; clear hx)
      | (go_at_call 34; with_reducible refine (HWD.out _ (grew_trans g0 hg)).mono ?_; rintro e w2 ⟨rfl, hx⟩; replace hg := grew_trans hg hx; have hc := (bcell hg).1; clear hx)
      | (go_at_call 17; with_reducible refine (awake_any _).mono ?_; rintro e w6 ⟨rfl, hx6⟩)
      | (go_at_call 43; (with_reducible refine (HWAY.out _ (grew_trans g0 hg)).mono ?_); rintro e w3 ⟨u3, r3, rfl, hx, hres⟩; replace hg := grew_trans hg hx; have hc := (bcell hg).1; clear hx; have hg3 := grew_refl w3; rcases hres with ⟨rfl, vs, hway, hnat⟩ | ⟨rfl, rfl, hno⟩
         all_goals first
           | (obtain ⟨a3, c3, rfl⟩ := nats_shape hnat; have HNAT := hid hnat; have HW := hid hway; clear hnat hway)
           | (have HNO := hid hno; clear hno))
      | (go_at_call 44; with_reducible refine (HRE.out _ (grew_trans g0 hg)).mono ?_; rintro e w4 ⟨u4, rfl, hnat4, hx⟩; replace hg := grew_trans hg hx; have hc := (bcell hg).1; replace hg3 := grew_trans hg3 hx; clear hx; obtain ⟨a4, c4, rfl⟩ := nats_shape hnat4; have HNAT4 := hid hnat4; clear hnat4; have hg4 := grew_refl w4)
      | (go_at_call 28; with_reducible refine (HR1.out _ (grew_trans g0 hg)).mono ?_; rintro e w5 ⟨u5, rfl, hx⟩; replace hg := grew_trans hg hx; have hc := (bcell hg).1; replace hg3 := grew_trans hg3 hx; replace hg4 := grew_trans hg4 hx; clear hx))
    · go_ret
      exact ⟨rfl, grew_trans (grew_trans g0 hg) hx6⟩
    · have hin : inL xs a xs.length = true := HIN.out.2 ⟨vs, HW.out.ok, HW.out.leads⟩
      have hle : (to = a) → vs.length ≤ ws.length := fun e => by
        have := sle_len (HW.out.least _ HOK.out (HTO.out.trans e))
        rw [HLW.out] at this; exact this
      have hsh := HLEN.out vs HW.out
      have HINT := hid hin; have HLE := hid hle; clear hin hle
      go_loopg [15, 74] xs.length (fun g f i wr => ∃ k : Nat, k ≤ xs.length ∧ i = .int .i64 k ∧ f = .bool (inL xs a k) ∧ Hid (g = xs.length - k) ∧ wr = w5)
      case atStart => exact ⟨0, Nat.zero_le _, rfl, rfl, hid rfl, rfl⟩
      case round =>
        obtain ⟨k, hk, rfl, rfl, HG, rfl⟩ := hrel
        by_cases hlt : k < xs.length
        · have hnx := inL_succ (a := a) hlt
          obtain ⟨_, _, hve, _, hcx⟩ := HNAT4.out
          simp only [Value.slice.injEq, true_and] at hve
          obtain ⟨rfl, rfl⟩ := hve
          obtain ⟨b, off, o, rfl, hb, _, hcx⟩ := hcx k hlt
          replace hcx := (hg4.cell (p := ⟨b, off + k, none⟩) (lt_of_obj hb)).trans hcx
          have HNX := hid hnx; clear hnx hb
          cases hb : inL xs a k
          all_goals
            rw [hb] at HNX
            go_wp2
            go_roundg (xs.length - (k + 1))
            case measure => have := HG.out; omega
            case rel => exact ⟨k + 1, by omega, by go_num, by rw [HNX.out]; rfl, hid rfl, rfl⟩
        · obtain rfl : k = xs.length := by omega
          rw [HINT.out]
          by_cases hta : to = a
          · subst hta
            have := HLE.out rfl
            go_wp2_with (first
              | (go_at_call 28; with_reducible refine (HR2.out _ vs HW.out _ (grew_trans g0 hg) (HNAT.out.ints.any.grew hg3)).mono ?_; rintro e w7 ⟨u7, rfl, hx⟩; replace hg := grew_trans hg hx; have hc := (bcell hg).1; clear hx)
              | (go_at_call 17; with_reducible refine (awake_any _).mono ?_; rintro e w6 ⟨rfl, hx6⟩))
            go_ret
            exact ⟨rfl, grew_trans (grew_trans g0 hg) hx6⟩
          · have htb : ((to : Int) == (a : Int)) = false := by simp; omega
            go_wp2_with (first
              | (go_at_call 28; with_reducible refine (HR2.out _ vs HW.out _ (grew_trans g0 hg) (HNAT.out.ints.any.grew hg3)).mono ?_; rintro e w7 ⟨u7, rfl, hx⟩; replace hg := grew_trans hg hx; have hc := (bcell hg).1; clear hx)
              | (go_at_call 17; with_reducible refine (awake_any _).mono ?_; rintro e w6 ⟨rfl, hx6⟩))
            go_ret
            exact ⟨rfl, grew_trans (grew_trans g0 hg) hx6⟩
    · have hin : inL xs a xs.length = false := by
        cases h : inL xs a xs.length with
        | false => rfl
        | true =>
          obtain ⟨v, hv, he⟩ := HIN.out.1 h
          exact absurd he (HNO.out v hv)
      have htb : ((to : Int) == (a : Int)) = false := by
        have := HNO.out _ HOK.out
        rw [HTO.out] at this
        simp; omega
      have HINT := hid hin; clear hin
      go_loopg [15, 74] xs.length (fun g f i wr => ∃ k : Nat, k ≤ xs.length ∧ i = .int .i64 k ∧ f = .bool (inL xs a k) ∧ Hid (g = xs.length - k) ∧ wr = w5)
      case atStart => exact ⟨0, Nat.zero_le _, rfl, rfl, hid rfl, rfl⟩
      case round =>
        obtain ⟨k, hk, rfl, rfl, HG, rfl⟩ := hrel
        by_cases hlt : k < xs.length
        · have hnx := inL_succ (a := a) hlt
          obtain ⟨_, _, hve, _, hcx⟩ := HNAT4.out
          simp only [Value.slice.injEq, true_and] at hve
          obtain ⟨rfl, rfl⟩ := hve
          obtain ⟨b, off, o, rfl, hb, _, hcx⟩ := hcx k hlt
          replace hcx := (hg4.cell (p := ⟨b, off + k, none⟩) (lt_of_obj hb)).trans hcx
          have HNX := hid hnx; clear hnx hb
          cases hb : inL xs a k
          all_goals
            rw [hb] at HNX
            go_wp2
            go_roundg (xs.length - (k + 1))
            case measure => have := HG.out; omega
            case rel => exact ⟨k + 1, by omega, by go_num, by rw [HNX.out]; rfl, hid rfl, rfl⟩
        · obtain rfl : k = xs.length := by omega
          rw [HINT.out]
          go_wp2_with (go_at_call 17; with_reducible refine (awake_any _).mono ?_; rintro e w6 ⟨rfl, hx6⟩)
          go_ret
          exact ⟨rfl, grew_trans (grew_trans g0 hg) hx6⟩
end Go.Proofs.Ytnebpcpihldllaa
