/- The law SpecWords: it answers true of every input. -/
import Derived.Test.YtnebpcpihldllaaWWords
import Derived.Test.YtnebpcpihldllaaLRuns
namespace Go.Proofs.Ytnebpcpihldllaa
open Go.RowKit Go.Lin

set_option maxHeartbeats 2000000 in
theorem refClasses72_any (M : Mach) (hM : M.WF) (sB : Nat → Nat → Bool) (cl : Nat → Nat) (hS : Sames M sB cl) (mv : Value) (w : World) (hm : IsMach w mv M) :
    Calls Try.prog 72 #[mv] w fun e w' => ∃ u, e = .returned u ∧ IsInts Any w' u (ofN ((List.range M.n).map cl)) ∧ Grew w w' := by
  have HF := hid (fun (y : World) (hy : Grew w y) => far_any M M hM hM rfl mv mv y (hm.grew hy) (hm.grew hy))
  have hd : ∀ a b, a < M.n → b < M.n → (((dist M M a b : Nat) : Int) == 0) = sB a b := fun a b ha hb => by
    rw [Bool.eq_iff_iff, hS.same, ← dist_zero hM hM rfl ha hb, beq_iff_eq]
    omega
  have n8 := hM.n8
  obtain ⟨b1, off1, c1, b2, off2, c2, rfl, _, _⟩ := hm
  obtain ⟨W0, hW0, g0, k0, k1, k2, k3, hz⟩ := box4 w (.int .i64 (M.n : Int)) (.int .i64 (M.k : Int)) (.slice (some ⟨b1, off1, none⟩) M.n c1) (.slice (some ⟨b2, off2, none⟩) M.n c2) 24
  have HD := hid hd; have HCL := hid hS; clear hd hS
  go_enter Try.func72, Try.ntmps72
  go_wp2_with (go_at_call 84; ((with_reducible refine (HF.out _ g0).mono ?_); rintro e w1 ⟨fb, fo, fc, rfl, hft, hx⟩; have HFT := hid hft; have hc := (bcell hx).1; clear hft))
  clear hW0 hc
  go_loopg [4, 13] M.n (fun g u i wr => ∃ k : Nat, k ≤ M.n ∧ i = .int .i64 (k : Int) ∧ Hid (g = M.n - k) ∧ Grew w1 wr ∧ Seg wr w1.heap.size 3 1 u k ((List.range k).map (fun a => Value.int .i64 (cl a : Int))))
  case atStart => exact ⟨0, Nat.zero_le _, rfl, hid rfl, grew_refl _, Seg.nil _ _ _ _⟩
  case round =>
    obtain ⟨k, hk, rfl, HG, hgr, hseg⟩ := hrel
    obtain ⟨ua, uc, rfl, _⟩ := hseg.shape
    obtain ⟨wo, rfl⟩ : ∃ wo : World, wo = wr := ⟨_, rfl⟩
    by_cases hlt : k < M.n
    · go_wp2
      go_loopg [6, 7] (k + 1) (fun g2 v6 v7 wi => ∃ (q x : Nat) (z : Int), v7 = .int .i64 z ∧ v6 = .int .i64 (x : Int) ∧ Hid (z = (q : Int) - 1) ∧ -1 ≤ z ∧ z < 10 ∧ q ≤ k + 1 ∧ x ≤ k ∧ Hid (sB k x = true ∧ ∀ b, q ≤ b → b < x → sB k b = false) ∧ Hid (g2 = q) ∧ wi = wo)
      case atStart => exact ⟨k + 1, k, (k : Int), rfl, rfl, hid (by omega), by omega, by omega, by omega, by omega, hid ⟨(HCL.out.same k k).2 (fun _ _ => rfl), fun b h1 h2 => absurd h1 (by omega)⟩, hid rfl, rfl⟩
      case round =>
        obtain ⟨q, x, z, rfl, rfl, HZ, hz0, hz1, hq, hxk, HX, HG2, rfl⟩ := hrel
        by_cases hq0 : 0 < q
        · obtain ⟨p, rfl⟩ : ∃ p, q = p + 1 := ⟨q - 1, by omega⟩
          obtain rfl : (p : Int) = z := by have := HZ.out; omega
          have hpn : p < M.n := by omega
          have hge : decide ((0 : Int) ≤ (p : Int)) = true := decide_eq_true (by omega)
          obtain ⟨q1, q2, q3, f1, f2, f3⟩ := (HFT.out.grew hgr).at hlt hpn
          have hft0 := (HFT.out.grew hgr).1
          have hdd := HD.out k p hlt hpn
          cases hsb : sB k p with
          | true =>
            rw [hsb] at hdd
            have HSB := hid hsb; clear hsb
            go_wp2
            go_roundg p
            case measure => have := HG2.out; omega
            case rel => exact ⟨p, p, (p : Int) - 1, by go_num, rfl, hid rfl, by omega, by omega, by omega, by omega, hid ⟨HSB.out, fun b h1 h2 => absurd h1 (by omega)⟩, hid rfl, rfl⟩
          | false =>
            rw [hsb] at hdd
            have HSB := hid hsb; clear hsb
            go_wp2
            go_roundg p
            case measure => have := HG2.out; omega
            case rel => exact ⟨p, x, (p : Int) - 1, by go_num, rfl, hid rfl, by omega, by omega, by omega, by omega, hid ⟨HX.out.1, fun b h1 h2 => by
              by_cases he : b = p
              · rw [he]; exact HSB.out
              · exact HX.out.2 b (by omega) h2⟩, hid rfl, rfl⟩
        · obtain rfl : q = 0 := by omega
          have hge : decide ((0 : Int) ≤ z) = false := decide_eq_false (by have := HZ.out; omega)
          have hxe : x = cl k := by
            rcases Nat.lt_trichotomy x (cl k) with h | h | h
            · have := HCL.out.least k x h
              rw [HX.out.1] at this; cases this
            · exact h
            · have := HX.out.2 (cl k) (Nat.zero_le _) h
              rw [HCL.out.cls k] at this; cases this
          have HXE := hid hxe; clear hxe
          have hsz := hgr.size
          have hlen3 : k < 1000000000 := by omega
          go_wp2_with (at_builtin; refine wpList_append_one rfl _ _ 34 rfl w1.heap.size 3 Try.underlying34 Try.info3 rfl (by decide) _ (k) _ rfl (hseg.alloc _) _ _ _ rfl (one_new _ _ _) rfl (by omega) ?_ ?_; (simp only [World.size_alloc]; omega); intro v9 w9 hown9 hgrow9 hblk9; have hg9 := (hgr.alloc hgr.size _).grown hgrow9 (hgr.alloc hgr.size _).size (fun k e => (hseg.own k e).1); have hc9 := (bcell hg9).1; clear hgrow9)
          go_roundg (M.n - (k + 1))
          case measure => have := HG.out; omega
          case rel =>
            refine ⟨k + 1, by omega, by go_num, hid rfl, hg9, ?_⟩
            rw [List.range_succ, List.map_append, List.map_cons, List.map_nil, ← HXE.out]
            exact hown9
    · obtain rfl : M.n = k := by omega
      go_wp2
      go_ret
      refine ⟨_, rfl, ?_, grew_trans g0 (grew_trans hx hgr)⟩
      have h := hseg
      have hl : (ofN ((List.range M.n).map cl)).length = M.n := by simp [ofN]
      unfold IsInts
      rw [hl]
      refine (h.reads _ (fun i hi => ?_)).any
      rw [nth_ofN]
      simp [List.getElem?_map, List.getElem?_range hi, nthN, List.getD]

set_option maxHeartbeats 1000000 in
theorem refClassesOf_any (s : RSpec) (sB : Nat → Nat → Bool) (cl : Nat → Nat) (hS : Sames (machOf s) sB cl) (sv : Value) (w : World) (hs : IsSpec w sv s) :
    Calls Try.prog 27 #[sv] w fun e w' => ∃ u, e = .returned (.tuple #[u, .int .i64 (classOfE s)]) ∧ IsInts Any w' u (classOfL s cl) ∧ Grew w w' := by
  unfold classOfE classOfL
  have HV := hid (fun (y : World) (hy : Grew w y) => refValid_any s _ y (hs.grew hy))
  cases hv : validM s with
  | true =>
    have HM := hid (fun (z : World) (hz : Grew w z) => refClasses72_any (machOf s) (wf_machOf hv) sB cl hS _ z ((hs.isMach hv).grew hz))
    rw [if_pos rfl, if_pos rfl]
    rw [hv] at HV
    obtain ⟨na, nc, ya, yc, rfl⟩ := isSpec_open' hs
    clear hs hv hS
    obtain ⟨W0, hW0, g0, k0, k1, k2, k3, hz⟩ := box4 w (.int .i64 s.st) (.int .i64 s.ops) (.slice na s.next.length nc) (.slice ya s.says.length yc) 24
    go_enter Try.func27, Try.ntmps27
    go_wp2_with (first
      | (go_at_call 33; with_reducible refine (HV.out _ g0).mono ?_; rintro e w1 ⟨rfl, hx⟩; have hc := (bcell hx).1)
      | (go_at_call 72; with_reducible refine (HM.out _ (grew_trans g0 hx)).mono ?_; rintro e w2 ⟨u, rfl, hu, hx2⟩))
    go_ret2
    exact ⟨_, rfl, hu, grew_trans (grew_trans g0 hx) hx2⟩
  | false =>
    rw [hv] at HV
    obtain ⟨na, nc, ya, yc, rfl⟩ := isSpec_open' hs
    clear hs hv hS
    obtain ⟨W0, hW0, g0, k0, k1, k2, k3, hz⟩ := box4 w (.int .i64 s.st) (.int .i64 s.ops) (.slice na s.next.length nc) (.slice ya s.says.length yc) 24
    go_enter Try.func27, Try.ntmps27
    go_wp2_with (go_at_call 33; with_reducible refine (HV.out _ g0).mono ?_; rintro e w1 ⟨rfl, hx⟩; have hc := (bcell hx).1)
    go_ret2
    exact ⟨_, rfl, Reads.nil _ _ _ _ _, grew_trans g0 hx⟩

set_option maxHeartbeats 4000000 in
set_option maxRecDepth 100000 in
theorem specWords_law (s : RSpec) (a b : Int) (sv : Value) (w : World) (hs : IsSpec w sv s) :
    Calls Try.prog 4 #[sv, .int .i64 a, .int .i64 b] w fun e w' => e = .returned (.bool true) ∧ Grew w w' := by
  obtain ⟨sB, cl, hS⟩ := sames_exist (machOf s)
  obtain ⟨L, ev, hL⟩ := wordOf_exists s a b
  have HS := hs
  have HLO := hid (fun (y : World) (hy : Grew w y) => long_any s _ y (HS.grew hy))
  have HA1 := hid (fun (y : World) (hy : Grew w y) => sameOf_any s a b sB hS.same _ y (HS.grew hy))
  have HA2 := hid (fun (y : World) (hy : Grew w y) => refSameOf_any s a b sB hS.same _ y (HS.grew hy))
  have HB1 := hid (fun (y : World) (hy : Grew w y) => wordOf_any s a b L ev hL _ y (HS.grew hy))
  have HB2 := hid (fun (y : World) (hy : Grew w y) => refWordOf_any s a b L ev hL _ y (HS.grew hy))
  have HC1 := hid (fun (y : World) (hy : Grew w y) => classesOf_any s sB cl hS _ y (HS.grew hy))
  have HC2 := hid (fun (y : World) (hy : Grew w y) => refClassesOf_any s sB cl hS _ y (HS.grew hy))
  obtain ⟨C, hC⟩ : ∃ C, classOfL s cl = C := ⟨_, rfl⟩
  obtain ⟨ce, hce⟩ : ∃ ce, classOfE s = ce := ⟨_, rfl⟩
  obtain ⟨is, his⟩ : ∃ is, sameOfB s sB a b = is := ⟨_, rfl⟩
  obtain ⟨ae, hae⟩ : ∃ ae, askedM s a b = ae := ⟨_, rfl⟩
  rw [his, hae] at HA1 HA2
  rw [hC, hce] at HC1 HC2
  obtain ⟨na, nc, ya, yc, rfl⟩ := isSpec_open' hs
  obtain ⟨W0, hW0, g0, k0, k1, k2, k3, hz⟩ := box4 w (.int .i64 s.st) (.int .i64 s.ops) (.slice na s.next.length nc) (.slice ya s.says.length yc) 24
  have hg := grew_refl W0
  clear hC hce his hae hs HS hS hL
  go_enter Try.func4, Try.ntmps4
  go_wp2_with (first
    | (go_at_call 16; with_reducible refine (HLO.out _ (grew_trans g0 hg)).mono ?_; rintro e w1 ⟨x1, rfl, hx1, hx⟩; replace hg := grew_trans hg hx; have hc := (bcell hg).1; clear hx; rcases hx1 with rfl | rfl)
    | (go_at_call 21; with_reducible refine (HA1.out _ (grew_trans g0 hg)).mono ?_; rintro e w2 ⟨rfl, hx⟩; replace hg := grew_trans hg hx; have hc := (bcell hg).1; clear hx)
    | (go_at_call 22; with_reducible refine (HA2.out _ (grew_trans g0 hg)).mono ?_; rintro e w3 ⟨rfl, hx⟩; replace hg := grew_trans hg hx; have hc := (bcell hg).1; clear hx)
    | (go_at_call 23; with_reducible refine (HB1.out _ (grew_trans g0 hg)).mono ?_; rintro e w4 ⟨u1, rfl, hu1, hx⟩; have HU1 := hid hu1; obtain ⟨ua, uc, rfl⟩ := ints_shape hu1; clear hu1; replace hg := grew_trans hg hx; have hc := (bcell hg).1; clear hx; have hg2 := grew_refl w4)
    | (go_at_call 24; with_reducible refine (HB2.out _ (grew_trans g0 hg)).mono ?_; rintro e w5 ⟨u2, rfl, hu2, hx⟩; have HU2 := hid hu2; obtain ⟨ub, ud, rfl⟩ := ints_shape hu2; clear hu2; replace hg := grew_trans hg hx; replace hg2 := grew_trans hg2 hx; have hc := (bcell hg).1; clear hx; have hg3 := grew_refl w5)
    | (go_at_call 26; with_reducible refine (HC1.out _ (grew_trans g0 hg)).mono ?_; rintro e w7 ⟨u3, rfl, hu3, hx⟩; have HU3 := hid hu3; obtain ⟨ue, uf, rfl⟩ := ints_shape hu3; clear hu3; replace hg := grew_trans hg hx; have hc := (bcell hg).1; clear hx; have hg4 := grew_refl w7)
    | (go_at_call 27; with_reducible refine (HC2.out _ (grew_trans g0 hg)).mono ?_; rintro e w8 ⟨u4, rfl, hu4, hx⟩; have HU4 := hid hu4; obtain ⟨ug, uh, rfl⟩ := ints_shape hu4; clear hu4; replace hg := grew_trans hg hx; replace hg4 := grew_trans hg4 hx; have hc := (bcell hg).1; clear hx)
    | (go_at_call 25; with_reducible refine (sameInts_same _ _ C _ (HU3.out.grew hg4) HU4.out).mono ?_; rintro e w9 ⟨rfl, hx⟩; replace hg := grew_trans hg hx; clear hx)
    | (go_at_call 25; with_reducible refine (sameInts_same _ _ L _ (HU1.out.grew hg2) HU2.out).mono ?_; rintro e w6 ⟨rfl, hx⟩; replace hg := grew_trans hg hx; have hc := (bcell hg).1; have hzz := Nat.lt_of_lt_of_le hz hg.size; clear hx)
    | (go_at_call 17; with_reducible refine (awake_any _).mono ?_; rintro e wa ⟨rfl, hxa⟩))
  · go_ret
    exact ⟨rfl, grew_trans (grew_trans g0 hg) hxa⟩
  · go_ret
    exact ⟨rfl, grew_trans (grew_trans g0 hg) hxa⟩
end Go.Proofs.Ytnebpcpihldllaa
