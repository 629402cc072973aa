/- The law SpecTold, its other branch . -/
import Derived.Test.YtnebpcpihldllaaLTold
namespace Go.Proofs.Ytnebpcpihldllaa
open Go.RowKit Go.Lin

set_option maxHeartbeats 4000000 in
set_option maxRecDepth 100000 in
theorem specTold_apart (s : RSpec) (x8 y8 z8 : Int) (a b c : Nat) (ws : List Int) (sv v : Value) (w : World) (hs : IsSpec w sv s) (hx : IsInts Any w v ws) (hv : validM s = true) (hw : isWordM s.ops ws = true)
    (hxa : x8.tmod ((machOf s).n : Int) = (a : Int)) (hyb : y8.tmod ((machOf s).n : Int) = (b : Int)) (hzc : z8.tmod ((machOf s).k : Int) = (c : Int)) (ha : a < (machOf s).n) (hb : b < (machOf s).n) (_hc0 : c < (machOf s).k)
    (h8 : 0 ≤ x8 ∧ x8 ≤ 255) (h9 : 0 ≤ y8 ∧ y8 ≤ 255) (h10 : 0 ≤ z8 ∧ z8 ≤ 255)
    (sB : Nat → Nat → Bool) (cl : Nat → Nat) (hS : Sames (machOf s) sB cl) (hsame : sB a b = false) :
    Calls Try.prog 7 #[sv, .int .u8 x8, .int .u8 y8, .int .u8 z8, v] w fun e w' => e = .returned (.bool true) ∧ Grew w w' := by
  have hwf := wf_machOf hv
  obtain ⟨te0, _⟩ := tells_ok hv ha hb hw
  have hok : askedM s a b = 0 := by
    have h1 : inM s.st (a : Int) = true := by unfold inM; simp; simp only [machOf] at ha; omega
    have h2 : inM s.st (b : Int) = true := by unfold inM; simp; simp only [machOf] at hb; omega
    unfold askedM; rw [hv, h1, h2]; rfl
  have hcf := hS.facts a b
  have hcle := hS.le a
  have hsa := fun (y : World) (hy : Grew w y) => sameOf_ok s a b sB hS.same _ y (hs.grew hy) hv ha hb
  rw [hsame] at hsa hcf
  have hwo : ∀ (y : World) (hy : Grew w y), Calls Try.prog 23 #[sv, .int .i64 (a : Int), .int .i64 (b : Int)] y fun e w' => ∃ ad cc ws2, e = .returned (.tuple #[.slice ad (List.length (α := Nat) ws2) cc, .int .i64 0]) ∧ Grew y w' ∧ IsFirst (machOf s) (machOf s) a b ws2 ∧ IsNats Any w' (.slice ad ws2.length cc) ws2 ∧ ws2.length ≤ cc := fun y hy => by
    refine (word_cap s a b sv y (hs.grew hy) hok).mono ?_
    rintro e w' ⟨u, ev, rfl, hg, h⟩
    rcases h with ⟨rfl, wz, h1, h2, ad, cc, rfl, h4⟩ | ⟨_, _, h⟩
    · exact ⟨ad, cc, wz, rfl, hg, h1, h2, h4⟩
    · have := (hS.same a b).2 h
      rw [hsame] at this; cases this
  have hfacts := fun (wz : List Nat) (h : IsFirst (machOf s) (machOf s) a b wz) => told_facts hv ha hb hw h
  have htl := fun (y : World) (hy : Grew w y) => tells_any s a b ws _ _ y (hs.grew hy) (hx.grew hy)
  have htg := fun (xs : List Int) (u : Value) (y : World) (hy : Grew w y) (hu : IsInts Any y u xs) => tells_any s a b xs _ u y (hs.grew hy) hu
  rw [te0] at htl
  obtain ⟨tb, htb⟩ : ∃ tb, tellsB s a b ws = tb := ⟨_, rfl⟩
  rw [htb] at htl
  simp only [htb] at hfacts
  have hcl := fun (y : World) (hy : Grew w y) => classesOf_ok s sB cl hS _ y (hs.grew hy) hv
  have HS := hs
  have HX := hx
  have hmach := hs.isMach hv
  have HRV := hid (fun (y : World) (hy : Grew w y) => refValid_any s _ y (HS.grew hy))
  have HWD := hid (fun (y : World) (hy : Grew w y) => isWord_any s _ _ ws y (HS.grew hy) (HX.grew hy))
  have HLO := hid (fun (y : World) (hy : Grew w y) => long_any s _ y (HS.grew hy))
  rw [hv] at HRV
  rw [hw] at HWD
  have n1 := hwf.n1; have n8 := hwf.n8; have k1' := hwf.k1; have k4 := hwf.k4
  obtain ⟨b1, off1, c1, b2, off2, c2, rfl, t1, t2⟩ := hmach
  obtain ⟨va, vc, rfl⟩ := ints_shape hx
  obtain ⟨W0, hW0, g0, k0, k1, k2, k3, hz⟩ := box4 w (.int .i64 ((machOf s).n : Int)) (.int .i64 ((machOf s).k : Int)) (.slice (some ⟨b1, off1, none⟩) (machOf s).n c1) (.slice (some ⟨b2, off2, none⟩) (machOf s).n c2) 24
  have T1 := hid (t1.grew g0); have T2 := hid (t2.grew g0)
  have HSA := hid hsa; have HFA := hid hfacts; have HTG := hid htg; have HWO := hid hwo; have HTL := hid htl; have HCL := hid hcl
  have HCF := hid hcf
  clear hsa hwo htl hfacts htg hcl hcf hs hx hv hw hok te0 htb HS HX t1 t2 hwf hsame
  have hg := grew_refl W0
  go_enter Try.func7, Try.ntmps7
  go_wp2_with (first
    | (go_at_call 16; with_reducible refine (HLO.out _ (grew_trans g0 hg)).mono ?_; rintro e w1 ⟨x1, rfl, hx1, hx⟩; replace hg := grew_trans hg hx; have hc := (bcell hg).1; clear hx; rcases hx1 with rfl | rfl)
    | (go_at_call 33; with_reducible refine (HRV.out _ (grew_trans g0 hg)).mono ?_; rintro e w2 ⟨rfl, hx⟩; replace hg := grew_trans hg hx; have hc := (bcell hg).1; clear hx)
    | (go_at_call 34; with_reducible refine (HWD.out _ (grew_trans g0 hg)).mono ?_; rintro e w2 ⟨rfl, hx⟩; replace hg := grew_trans hg hx; have hc := (bcell hg).1; have hzz := Nat.lt_of_lt_of_le hz hg.size; clear hx)
    | (go_at_call 17; with_reducible refine (awake_any _).mono ?_; rintro e w6 ⟨rfl, hx6⟩))
  · go_ret
    exact ⟨rfl, grew_trans (grew_trans g0 hg) hx6⟩
  · go_quiet (fail)
    obtain ⟨wq, hwq, hgq⟩ : ∃ wq, w2.drewN nq = wq ∧ Grew w2 wq := ⟨_, rfl, grew_drewN (grew_refl _) _⟩
    rw [hwq]
    clear hwq hc
    replace hg := grew_trans hg hgq
    have hc := (bcell hg).1
    have hcn : cl a < (machOf s).n := by omega
    have hpq : ((cl a : Int) == (cl b : Int)) = false := by
      have h0 : ¬ cl a = cl b := by simpa using HCF.out.1
      exact beq_false_of_ne (fun h => h0 (by omega))
    have hpp : cl (cl a) = cl a := HCF.out.2
    have HPP := hid hpp; clear hpp
    clear hgq
    go_wp2_with (first
      | (go_at_call 21; with_reducible refine (HSA.out _ (grew_trans g0 hg)).mono ?_; rintro e w3 ⟨rfl, hx⟩; replace hg := grew_trans hg hx; have hc := (bcell hg).1; clear hx)
      | (go_at_call 23; with_reducible refine (HWO.out _ (grew_trans g0 hg)).mono ?_; rintro e w4 ⟨ad, cc, ws2, rfl, hx, hfi, hna, hcap⟩; have HFI := hid (HFA.out ws2 hfi); have HNA := hid hna; clear hna hfi; replace hg := grew_trans hg hx; have hc := (bcell hg).1; clear hx; have hg4 := grew_refl w4)
      | (go_at_call 30; with_reducible refine (HTL.out _ (grew_trans g0 hg)).mono ?_; rintro e w5 ⟨rfl, hx⟩; replace hg := grew_trans hg hx; replace hg4 := grew_trans hg4 hx; have hc := (bcell hg).1; clear hx)
      | (go_at_call 26; with_reducible refine (HCL.out _ (grew_trans g0 hg)).mono ?_; rintro e wc ⟨u, rfl, hu, hx⟩; replace hg := grew_trans hg hx; replace hg4 := grew_trans hg4 hx; have hc := (bcell hg).1; clear hx; obtain ⟨cb, coff, ccap, rfl, y1, y2, y3, hcb⟩ := classes_at hu ha hb hcn; clear hu; rw [HPP.out] at y3))
    go_quiet (fail)
    obtain ⟨wz, hwz, hgz⟩ : ∃ wz, wc.drewN nq = wz ∧ Grew wc wz := ⟨_, rfl, grew_drewN (grew_refl _) _⟩
    rw [hwz]
    clear hwz hc y1 y2 y3
    replace hg := grew_trans hg hgz
    have hc := (bcell hg).1
    replace hg4 := grew_trans hg4 hgz
    obtain ⟨l1, l2, e1, e2, e3, e4, e5⟩ := HFI.out
    have hi1 : IsInts Any wz (.slice ad ws2.length cc) (ofN ws2) := (HNA.out.ints).grew hg4
    have ht1 := HTG.out (ofN ws2) _ wz (grew_trans g0 hg) hi1
    rw [e1, e2] at ht1
    have HT1 := hid ht1
    clear ht1
    have b1' : ((ws2.length : Int) == 0) = false := beq_false_of_ne (by omega)
    have b2' : decide (((machOf s).n : Int) - 1 < (ws2.length : Int)) = false := decide_eq_false (by omega)
    have z0 := Nat.lt_of_lt_of_le hz hg.size
    clear hgz hcb
    have hl : (ofN ws2).length = ws2.length := length_ofN _
    have htk : IsInts Any wz (.slice ad (ws2.length - 1) cc) ((ofN ws2).take (ws2.length - 1)) := ints_take hi1 (by rw [hl]; omega)
    have b4' : (0 : Int) ≤ (ws2.length : Int) - 1 := by omega
    have b5' : (ws2.length : Int) - 1 ≤ (cc : Int) := by omega
    have b6' : ((ws2.length : Int) - 1).toNat = ws2.length - 1 := by omega
    have hlm : ws2.length ≤ 9 := by omega
    have HTK := hid htk; have HG4 := hid hg4
    clear hl hi1 htk l1 l2
    have b3' : tb = true → decide (ws.length < ws2.length) = false := fun h => by have := e5 h; exact decide_eq_false (by omega)
    clear e5
    cases tb
    · clear b3'
      go_wp2_with (go_at_call 30; with_reducible refine HT1.out.mono ?_; rintro e w6 ⟨rfl, hx6⟩; replace hg := grew_trans hg hx6; have hc := (bcell hg).1; have z6 := Nat.lt_of_lt_of_le z0 hx6.size)
      have ht2 := fun (y : World) (hy : Grew w6 y) => HTG.out _ _ y (grew_trans (grew_trans g0 hg) hy) (HTK.out.grew (grew_trans hx6 hy))
      rw [e3, e4] at ht2
      have HT2 := hid ht2
      clear ht2
      refine wp_region_later (by kernel_rfl) (by kernel_rfl) (fun hL => ?_)
      repeat (go_big_quiet_step ((go_at_call 30; exact calls_later (HT2.out _ (Subtype.property _)))))
      refine wpQuiet_nil ?_
      rintro w9 ⟨y, hy⟩
      have hw9 : Grew W0 w9 := by rw [hy]; exact grew_trans hg y.2
      clear hL hy y
      go_wp2_with (go_at_call 17; with_reducible refine (awake_any _).mono ?_; rintro e wa ⟨rfl, hxa⟩)
      go_ret
      exact ⟨rfl, grew_trans (grew_trans g0 hw9) hxa⟩
    · replace b3' := b3' rfl
      go_wp2_with (go_at_call 30; with_reducible refine HT1.out.mono ?_; rintro e w6 ⟨rfl, hx6⟩; replace hg := grew_trans hg hx6; have hc := (bcell hg).1; have z6 := Nat.lt_of_lt_of_le z0 hx6.size)
      have ht2 := fun (y : World) (hy : Grew w6 y) => HTG.out _ _ y (grew_trans (grew_trans g0 hg) hy) (HTK.out.grew (grew_trans hx6 hy))
      rw [e3, e4] at ht2
      have HT2 := hid ht2
      clear ht2
      refine wp_region_later (by kernel_rfl) (by kernel_rfl) (fun hL => ?_)
      repeat (go_big_quiet_step ((go_at_call 30; exact calls_later (HT2.out _ (Subtype.property _)))))
      refine wpQuiet_nil ?_
      rintro w9 ⟨y, hy⟩
      have hw9 : Grew W0 w9 := by rw [hy]; exact grew_trans hg y.2
      clear hL hy y
      go_wp2_with (go_at_call 17; with_reducible refine (awake_any _).mono ?_; rintro e wa ⟨rfl, hxa⟩)
      go_ret
      exact ⟨rfl, grew_trans (grew_trans g0 hw9) hxa⟩
end Go.Proofs.Ytnebpcpihldllaa
