/- The law WeavePaths: Equal, Path and IsPath, of the program and of the reference. -/
import Derived.Test.YtddnpooffcjhnaaWvPath
import Derived.Test.YtddnpooffcjhnaaWvLong
import Derived.Test.YtddnpooffcjhnaaWvAns
namespace Go.Proofs.Ytddnpooffcjhnaa
open Go.RowKit Go.Lin Go.Lin.Wv

set_option maxHeartbeats 8000000 in
set_option maxRecDepth 20000 in
theorem weavePaths_law (L : Lt) (x y p : List Int) (v uv wv pv : Value) (w : World) (hn : L.n ≤ 9223372036854775807) (hv : IsLt w v L) (hx : IsWd w uv x) (hy : IsWd w wv y) (hp : IsWd w pv p) :
    Calls Try.prog 9 #[v, uv, wv, pv] w fun e w' => e = .returned (.bool true) ∧ Grew w w' := by
  obtain ⟨ua, uc, rfl⟩ := isWd_slice hx
  obtain ⟨xa, xc, rfl⟩ := isWd_slice hy
  obtain ⟨pa, pc, rfl⟩ := isWd_slice hp
  have HA := hid (fun (W : World) => awake_any W)
  have H43 := hid (fun (W : World) (hW : Grew w W) => equal43_any v L _ _ x y W hn (hv.grew hW) (hx.grew hW) (hy.grew hW))
  have H44 := hid (fun (W : World) (hW : Grew w W) => rEqual44_any v L _ _ x y W (hv.grew hW) (hx.grew hW) (hy.grew hW))
  have H45 := hid (fun (W : World) (hW : Grew w W) => path45_any v L _ _ x y W hn (hv.grew hW) (hx.grew hW) (hy.grew hW))
  have H46 := hid (fun (W : World) (hW : Grew w W) (p' : List Int) (u : Value) (hu : IsWd W u p') => rIsPath46_any v L _ _ u x y p' W (hv.grew hW) (hx.grew hW) (hy.grew hW) hu)
  have H47 := hid (fun (W : World) (hW : Grew w W) => isPath47_any v L _ _ _ x y p W hn (hv.grew hW) (hx.grew hW) (hy.grew hW) (hp.grew hW))
  have H46p := hid (fun (W : World) (hW : Grew w W) => rIsPath46_any v L _ _ _ x y p W (hv.grew hW) (hx.grew hW) (hy.grew hW) (hp.grew hW))
  obtain ⟨⟨Pb, Pe⟩, hP⟩ : ∃ J, isPathM L x y p = J := ⟨_, rfl⟩
  obtain ⟨⟨Q, R⟩, hQ⟩ : ∃ J, eqM L x y = J := ⟨_, rfl⟩
  rw [hP] at H47 H46p; rw [hQ] at H43 H44
  have HQ := hid hQ
  clear hP hQ
  have HV := hid hv
  obtain ⟨s, rfl, -⟩ := hv
  obtain ⟨W0, hW0, g0, k0, k1, hz⟩ := box2 w (.int .i64 L.n) s 24
  have hl := long_any _ L _ [x, y] (W0.alloc (.cells #[.slice ua x.length uc, .slice xa y.length xc] 25)) ((HV.out.grew g0).grew (grew_alloc (grew_refl _) _)) (rows_two (hx.grew g0).ints (hy.grew g0).ints 25)
  obtain ⟨q, hq⟩ : ∃ q, longM L [x, y] = q := ⟨_, rfl⟩
  rw [hq] at hl
  have HL := hid hl
  have hg := grew_refl W0
  obtain ⟨m, hm⟩ : ∃ m, x.length = m := ⟨_, rfl⟩
  obtain ⟨n, hnn⟩ : ∃ n, y.length = n := ⟨_, rfl⟩
  obtain ⟨k, hkk⟩ : ∃ n, p.length = n := ⟨_, rfl⟩
  rw [hm, hnn] at HL H43 H44 H45 H46 H47 H46p ⊢
  rw [hkk] at H47 H46p ⊢
  clear hq hl hx hy hp hm hnn hkk
  cases q with
  | true =>
    go_enter Try.func9, Try.ntmps9
    go_wp2_with (first
      | (go_at_call 16; (with_reducible refine HL.out.mono ?_); rintro e w1 ⟨rfl, hx⟩; replace hg := grew_trans (grew_alloc (grew_refl W0) _) hx; have hc := (bcell hg).1; clear hx)
      | (go_at_call 17; (with_reducible refine (HA.out _).mono ?_); rintro e w9 ⟨rfl, hx⟩; replace hg := grew_trans hg hx; replace hc := (bcell hg).1; clear hx))
    go_ret
    exact ⟨rfl, grew_trans g0 hg⟩
  | false =>
    by_cases hbig : 1100 < k
    · have hbz : (1100 : Int) < (k : Int) := by omega
      go_enter Try.func9, Try.ntmps9
      go_wp2_with (first
        | (go_at_call 16; (with_reducible refine HL.out.mono ?_); rintro e w1 ⟨rfl, hx⟩; replace hg := grew_trans (grew_alloc (grew_refl W0) _) hx; have hc := (bcell hg).1; clear hx)
        | (go_at_call 17; (with_reducible refine (HA.out _).mono ?_); rintro e w9 ⟨rfl, hx⟩; replace hg := grew_trans hg hx; replace hc := (bcell hg).1; clear hx))
      go_ret
      exact ⟨rfl, grew_trans g0 hg⟩
    · have hbz : decide ((1100 : Int) < (k : Int)) = false := by simp; omega
      by_cases hr0 : wrong L [x, y] = 0
      · have hR : R = 0 := by have h := HQ.out; unfold eqM at h; rw [if_pos hr0] at h; simp at h; exact h.2.symm
        subst hR
        have hiP : ∀ p' : List Int, p'.length ≤ 45 → isPathM L x y p' = (endsAt y (runP (dep L) x p'), 0) := fun p' hp' => by unfold isPathM; rw [if_pos hr0, if_neg (by omega)]
        have hQ : (first (dep L) L.n.toNat x == first (dep L) L.n.toNat y) = Q := by have h := HQ.out; unfold eqM at h; rw [if_pos hr0] at h; exact (Prod.mk.inj h).1
        cases Q with
        | true =>
          have H45b := hid (fun (W : World) (hW : Grew w W) => (H45.out W hW).mono (fun e w' ⟨u, path, E, h1, h2, h3, h4⟩ => show ∃ (k : Nat) (a : Option Addr) (c : Nat) (path : List Int), e = Ending.returned (.tuple #[.slice a k c, .int .i64 0]) ∧ Hid (k ≤ 45 ∧ isPathM L x y path = (true, 0) ∧ IsWd w' (.slice a k c) path) ∧ Grew W w' by
            rcases h2 with ⟨h, _⟩ | ⟨_, h, _⟩ | ⟨_, _, rfl, h5, h6⟩
            · exact absurd hr0 h
            · exact absurd (beq_iff_eq.1 hQ) h
            · obtain ⟨a, c, rfl⟩ := isWd_slice h3
              exact ⟨_, a, c, path, h1, ⟨h5, by rw [hiP path h5, h6]; simp [endsAt], h3⟩, h4⟩))
          clear H45 hiP hQ hr0 hbig HQ
          cases Pb
          all_goals
            go_enter Try.func9, Try.ntmps9
            go_wp2_with (first
              | (go_at_call 16; (with_reducible refine HL.out.mono ?_); rintro e w1 ⟨rfl, hx⟩; replace hg := grew_trans (grew_alloc (grew_refl W0) _) hx; have hc := (bcell hg).1; clear hx)
              | (go_at_call 17; (with_reducible refine (HA.out _).mono ?_); rintro e w9 ⟨rfl, hx⟩; replace hg := grew_trans hg hx; replace hc := (bcell hg).1; clear hx)
              | (go_at_call 43; (with_reducible refine (H43.out _ (grew_trans g0 hg)).mono ?_); rintro e w2 ⟨rfl, hx⟩; replace hg := grew_trans hg hx; replace hc := (bcell hg).1; clear hx)
              | (go_at_call 44; (with_reducible refine (H44.out _ (grew_trans g0 hg)).mono ?_); rintro e w3 ⟨rfl, hx⟩; replace hg := grew_trans hg hx; replace hc := (bcell hg).1; clear hx)
              | (go_at_call 45; (with_reducible refine (H45b.out _ (grew_trans g0 hg)).mono ?_); rintro e w4 ⟨k4, a4, c4, path, rfl, HK4, hx⟩; replace hg := grew_trans hg hx; replace hc := (bcell hg).1; clear hx; have h46 := H46.out w4 (grew_trans g0 hg) path _ HK4.out.2.2; rw [HK4.out.2.1] at h46; have HW := hid h46; clear h46; have hk45 : decide ((45 : Int) < (k4 : Int)) = false := by have := HK4.out.1; simp; omega)
              | (go_at_call 46; (with_reducible refine HW.out.mono ?_); rintro e w5 ⟨rfl, hx⟩; replace hg := grew_trans hg hx; replace hc := (bcell hg).1; clear hx HW)
              | (go_at_call 47; (with_reducible refine (H47.out _ (grew_trans g0 hg)).mono ?_); rintro e w6 ⟨rfl, hx⟩; replace hg := grew_trans hg hx; replace hc := (bcell hg).1; clear hx)
              | (go_at_call 46; (with_reducible refine (H46p.out _ (grew_trans g0 hg)).mono ?_); rintro e w7 ⟨rfl, hx⟩; replace hg := grew_trans hg hx; replace hc := (bcell hg).1; clear hx))
            go_ret
            exact ⟨rfl, grew_trans g0 hg⟩
        | false =>
          have H45b := hid (fun (W : World) (hW : Grew w W) => (H45.out W hW).mono (fun e w' ⟨u, path, E, h1, h2, h3, h4⟩ => show ∃ (a : Option Addr) (c : Nat), e = Ending.returned (.tuple #[.slice a 0 c, .int .i64 5]) ∧ Hid (IsWd w' (.slice a 0 c) []) ∧ Grew W w' by
            rcases h2 with ⟨h, _⟩ | ⟨_, _, rfl, rfl⟩ | ⟨_, h, _⟩
            · exact absurd hr0 h
            · obtain ⟨a, c, rfl⟩ := isWd_slice h3
              exact ⟨a, c, h1, h3, h4⟩
            · rw [h, beq_self_eq_true] at hQ; cases hQ))
          obtain ⟨b0, hb0⟩ : ∃ b, endsAt y (runP (dep L) x []) = b := ⟨_, rfl⟩
          have HB0 := hid (show isPathM L x y [] = (b0, 0) by rw [hiP [] (by simp), hb0])
          clear H45 hiP hQ hr0 hbig HQ hb0
          cases Pb
          all_goals
            go_enter Try.func9, Try.ntmps9
            go_wp2_with (first
              | (go_at_call 16; (with_reducible refine HL.out.mono ?_); rintro e w1 ⟨rfl, hx⟩; replace hg := grew_trans (grew_alloc (grew_refl W0) _) hx; have hc := (bcell hg).1; clear hx)
              | (go_at_call 17; (with_reducible refine (HA.out _).mono ?_); rintro e w9 ⟨rfl, hx⟩; replace hg := grew_trans hg hx; replace hc := (bcell hg).1; clear hx)
              | (go_at_call 43; (with_reducible refine (H43.out _ (grew_trans g0 hg)).mono ?_); rintro e w2 ⟨rfl, hx⟩; replace hg := grew_trans hg hx; replace hc := (bcell hg).1; clear hx)
              | (go_at_call 44; (with_reducible refine (H44.out _ (grew_trans g0 hg)).mono ?_); rintro e w3 ⟨rfl, hx⟩; replace hg := grew_trans hg hx; replace hc := (bcell hg).1; clear hx)
              | (go_at_call 45; (with_reducible refine (H45b.out _ (grew_trans g0 hg)).mono ?_); rintro e w4 ⟨a4, c4, rfl, HK4, hx⟩; replace hg := grew_trans hg hx; replace hc := (bcell hg).1; clear hx; have h46 := H46.out w4 (grew_trans g0 hg) [] _ HK4.out; rw [HB0.out] at h46; have HW := hid h46; clear h46)
              | (go_at_call 46; (with_reducible refine HW.out.mono ?_); rintro e w5 ⟨rfl, hx⟩; replace hg := grew_trans hg hx; replace hc := (bcell hg).1; clear hx HW)
              | (go_at_call 47; (with_reducible refine (H47.out _ (grew_trans g0 hg)).mono ?_); rintro e w6 ⟨rfl, hx⟩; replace hg := grew_trans hg hx; replace hc := (bcell hg).1; clear hx)
              | (go_at_call 46; (with_reducible refine (H46p.out _ (grew_trans g0 hg)).mono ?_); rintro e w7 ⟨rfl, hx⟩; replace hg := grew_trans hg hx; replace hc := (bcell hg).1; clear hx))
            go_ret
            exact ⟨rfl, grew_trans g0 hg⟩
      · obtain ⟨hQf, hR⟩ : Q = false ∧ R = wrong L [x, y] := by have h := HQ.out; unfold eqM at h; rw [if_neg hr0] at h; simp at h; exact ⟨h.1, h.2.symm⟩
        subst hQf
        rw [← hR] at hr0
        have H45b := hid (fun (W : World) (hW : Grew w W) => (H45.out W hW).mono (fun e w' ⟨u, path, E, h1, h2, h3, h4⟩ => show ∃ (a : Option Addr) (c : Nat), e = Ending.returned (.tuple #[.slice a 0 c, .int .i64 R]) ∧ Hid (IsWd w' (.slice a 0 c) []) ∧ Grew W w' by
          rcases h2 with ⟨_, rfl, rfl⟩ | ⟨h, _⟩ | ⟨h, _⟩
          · obtain ⟨a, c, rfl⟩ := isWd_slice h3
            exact ⟨a, c, by rw [hR]; exact h1, h3, h4⟩
          · rw [← hR] at h; exact absurd h hr0
          · rw [← hR] at h; exact absurd h hr0))
        have HB0 := hid (show isPathM L x y [] = (false, R) by unfold isPathM; rw [← hR, if_neg hr0])
        have hne : (R != 0) = true := by simpa using hr0
        clear H45 hr0 hbig HQ hR
        go_enter Try.func9, Try.ntmps9
        go_wp2_with (first
          | (go_at_call 16; (with_reducible refine HL.out.mono ?_); rintro e w1 ⟨rfl, hx⟩; replace hg := grew_trans (grew_alloc (grew_refl W0) _) hx; have hc := (bcell hg).1; clear hx)
          | (go_at_call 17; (with_reducible refine (HA.out _).mono ?_); rintro e w9 ⟨rfl, hx⟩; replace hg := grew_trans hg hx; replace hc := (bcell hg).1; clear hx)
          | (go_at_call 43; (with_reducible refine (H43.out _ (grew_trans g0 hg)).mono ?_); rintro e w2 ⟨rfl, hx⟩; replace hg := grew_trans hg hx; replace hc := (bcell hg).1; clear hx)
          | (go_at_call 44; (with_reducible refine (H44.out _ (grew_trans g0 hg)).mono ?_); rintro e w3 ⟨rfl, hx⟩; replace hg := grew_trans hg hx; replace hc := (bcell hg).1; clear hx)
          | (go_at_call 45; (with_reducible refine (H45b.out _ (grew_trans g0 hg)).mono ?_); rintro e w4 ⟨a4, c4, rfl, HK4, hx⟩; replace hg := grew_trans hg hx; replace hc := (bcell hg).1; clear hx; have h46 := H46.out w4 (grew_trans g0 hg) [] _ HK4.out; rw [HB0.out] at h46; have HW := hid h46; clear h46)
          | (go_at_call 46; (with_reducible refine HW.out.mono ?_); rintro e w5 ⟨rfl, hx⟩; replace hg := grew_trans hg hx; replace hc := (bcell hg).1; clear hx HW))
        go_ret
        exact ⟨rfl, grew_trans g0 hg⟩

end Go.Proofs.Ytddnpooffcjhnaa
