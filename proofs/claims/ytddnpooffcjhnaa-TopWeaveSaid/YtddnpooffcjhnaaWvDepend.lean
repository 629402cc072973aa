/- Depend, of the program (35) and of the reference (36). -/
import Derived.Test.YtddnpooffcjhnaaWvS
import Derived.Test.YtddnpooffcjhnaaWvG
namespace Go.Lin.Wv

def dependM (L : Lt) (a b : Int) : Bool × Int := if wrong L [] = 0 then (if isL L a && isL L b then (dep L a b, 0) else (false, 2)) else (false, wrong L [])

theorem wrong_none (L : Lt) : wrong L [] = if valid L then 0 else 30 := by unfold wrong; simp

end Go.Lin.Wv
namespace Go.Proofs.Ytddnpooffcjhnaa
open Go.RowKit Go.Lin Go.Lin.Wv

theorem letter_isL {L : Lt} {N : Nat} (hN : L.n = N) (hN6 : N ≤ 6) (z : Int) (r : Bool) (hr : isL L z = r) (B : Nat) (W : World) (h : Loom W B (dep L) N) : Calls Try.prog 78 #[.pointer (some ⟨B, 0, none⟩), .int .i64 z] W fun e w' => e = .returned (.bool r) ∧ Grew W w' := by
  have := letter_any B N z W hN6 h
  rw [← hN] at this
  subst hr
  exact this

set_option maxHeartbeats 4000000 in
set_option maxRecDepth 20000 in
theorem depend35_any (v : Value) (L : Lt) (a b : Int) (w : World) (hn : L.n ≤ 9223372036854775807) (hv : IsLt w v L) :
    Calls Try.prog 35 #[v, .int .i64 a, .int .i64 b] w fun e w' => e = .returned (.tuple #[.bool (dependM L a b).1, .int .i64 (dependM L a b).2]) ∧ Grew w w' := by
  have HV := hid hv
  obtain ⟨s, rfl, -⟩ := hv
  obtain ⟨W0, hW0, g0, k0, k1, hz⟩ := box2 w (.int .i64 L.n) s 24
  obtain ⟨r, hr⟩ : ∃ r, wrong L [] = r := ⟨_, rfl⟩
  have hg := grew_refl W0
  by_cases hr0 : r = 0
  · subst hr0
    have hvl : valid L = true := by rw [wrong_none] at hr; split at hr <;> simp_all
    obtain ⟨⟨h1, h6⟩, -⟩ := valid_iff hvl
    obtain ⟨N, hN⟩ : ∃ N : Nat, L.n = N := ⟨L.n.toNat, by omega⟩
    have hN6 : N ≤ 6 := by omega
    have hok := newLoom_ok _ L (.slice none 0 0) [] W0 hn (HV.out.grew g0) (rows_none _) hr
    have HOK := hid hok
    have HN := hid hN
    obtain ⟨la, hla⟩ : ∃ r, isL L a = r := ⟨_, rfl⟩
    obtain ⟨lb, hlb⟩ : ∃ r, isL L b = r := ⟨_, rfl⟩
    have HA := hid (letter_isL hN hN6 a la hla)
    have HB := hid (letter_isL hN hN6 b lb hlb)
    have HM := hid (show dependM L a b = if la && lb then (dep L a b, 0) else (false, 2) by unfold dependM; rw [hr, if_pos rfl, hla, hlb])
    by_cases hab : la = true ∧ lb = true
    · obtain ⟨rfl, rfl⟩ := hab
      obtain ⟨a', ha', ra⟩ : ∃ a' : Nat, a' < N ∧ a = a' := by unfold isL at hla; simp at hla; exact ⟨a.toNat, by omega, by omega⟩
      obtain ⟨b', hb', rb⟩ : ∃ b' : Nat, b' < N ∧ b = b' := by unfold isL at hlb; simp at hlb; exact ⟨b.toNat, by omega, by omega⟩
      subst ra rb
      have ha6 : a' < 6 := by omega
      have hb6 : b' < 6 := by omega
      have HAN := hid ha'; have HBN := hid hb'
      obtain ⟨d, hd⟩ : ∃ d, dep L (a' : Int) (b' : Int) = d := ⟨_, rfl⟩
      have HD := hid hd
      clear hok hN hr hla hlb hvl h1 h6 hN6 hd ha' hb'
      go_enter Try.func35, Try.ntmps35
      go_wp2_with (first
        | (go_at_call 60; (with_reducible refine HOK.out.mono ?_); rintro e w1 ⟨B, N', hN', hN1, hN6', rfl, hB, hL, hx⟩; obtain rfl : N' = N := (by have := HN.out; omega); have HL := hid hL; replace hg := grew_trans hg hx; clear hL hx hB hN1 hN6' hN')
        | (go_at_call 78; (with_reducible refine (HA.out _ _ HL.out).mono ?_); rintro e w2 ⟨rfl, hx⟩; replace HL := hid (HL.out.grew hx); have hdc := HL.out.cs _ _ HAN.out HBN.out; have hBl := HL.out.lt; rw [HD.out] at hdc; replace hg := grew_trans hg hx; clear hx)
        | (go_at_call 78; (with_reducible refine (HB.out _ _ HL.out).mono ?_); rintro e w2 ⟨rfl, hx⟩; replace HL := hid (HL.out.grew hx); replace hdc := HL.out.cs _ _ HAN.out HBN.out; replace hBl := HL.out.lt; rw [HD.out] at hdc; replace hg := grew_trans hg hx; clear hx))
      go_ret2
      exact ⟨by rw [HM.out, HD.out]; rfl, grew_trans g0 hg⟩
    · have hm : dependM L a b = (false, 2) := by rw [HM.out]; cases la <;> cases lb <;> simp_all
      replace HM := hid hm
      clear hok hN hr hvl h1 h6 hN6 hm hla hlb
      cases la <;> cases lb <;> first | exact absurd ⟨rfl, rfl⟩ hab | skip
      all_goals
        clear hab
        go_enter Try.func35, Try.ntmps35
        go_wp2_with (first
          | (go_at_call 60; (with_reducible refine HOK.out.mono ?_); rintro e w1 ⟨B, N', hN', hN1, hN6', rfl, hB, hL, hx⟩; obtain rfl : N' = N := (by have := HN.out; omega); have HL := hid hL; replace hg := grew_trans hg hx; clear hL hx hB hN1 hN6' hN')
          | (go_at_call 78; (with_reducible refine (HA.out _ _ HL.out).mono ?_); rintro e w2 ⟨rfl, hx⟩; replace HL := hid (HL.out.grew hx); replace hg := grew_trans hg hx; clear hx)
          | (go_at_call 78; (with_reducible refine (HB.out _ _ HL.out).mono ?_); rintro e w2 ⟨rfl, hx⟩; replace HL := hid (HL.out.grew hx); replace hg := grew_trans hg hx; clear hx))
        go_ret2
        exact ⟨by rw [HM.out]; rfl, grew_trans g0 hg⟩
  · have hbad := newLoom_bad _ L (.slice none 0 0) [] W0 hn (HV.out.grew g0) (rows_none _) (by rw [hr]; exact hr0)
    rw [hr] at hbad
    have hne : (r != 0) = true := by simpa using hr0
    have HBD := hid hbad
    have HM := hid (show dependM L a b = (false, r) by unfold dependM; rw [hr, if_neg hr0])
    clear hr hbad hr0
    go_enter Try.func35, Try.ntmps35
    go_wp2_with (go_at_call 60; (with_reducible refine HBD.out.mono ?_); rintro e w1 ⟨rfl, hx⟩; replace hg := grew_trans hg hx; clear hx)
    go_ret2
    exact ⟨by rw [HM.out]; rfl, grew_trans g0 hg⟩

set_option maxHeartbeats 4000000 in
set_option maxRecDepth 20000 in
theorem rDepend36_any (v : Value) (L : Lt) (a b : Int) (w : World) (hv : IsLt w v L) :
    Calls Try.prog 36 #[v, .int .i64 a, .int .i64 b] w fun e w' => e = .returned (.tuple #[.bool (dependM L a b).1, .int .i64 (dependM L a b).2]) ∧ Grew w w' := by
  have HVA := hid (fun (W : World) (hW : Grew w W) => rValid_any v L W (hv.grew hW))
  have HLA := hid (fun (W : World) (hW : Grew w W) => isL_any v L a W (hv.grew hW))
  have HLB := hid (fun (W : World) (hW : Grew w W) => isL_any v L b W (hv.grew hW))
  have HDD := hid (fun (W : World) (hW : Grew w W) => depend_any v L a b W (hv.grew hW))
  obtain ⟨s, rfl, -⟩ := hv
  obtain ⟨W0, hW0, g0, k0, k1, hz⟩ := box2 w (.int .i64 L.n) s 24
  have hm : dependM L a b = if valid L then (if isL L a && isL L b then (dep L a b, 0) else (false, 2)) else (false, 30) := by
    unfold dependM; rw [wrong_none]; cases valid L <;> simp
  obtain ⟨p, hp⟩ : ∃ p, valid L = p := ⟨_, rfl⟩
  obtain ⟨q1, hq1⟩ : ∃ p, isL L a = p := ⟨_, rfl⟩
  obtain ⟨q2, hq2⟩ : ∃ p, isL L b = p := ⟨_, rfl⟩
  obtain ⟨d, hd⟩ : ∃ p, dep L a b = p := ⟨_, rfl⟩
  rw [hp] at HVA; rw [hq1] at HLA; rw [hq2] at HLB; rw [hd] at HDD
  rw [hp, hq1, hq2, hd] at hm
  have HM := hid hm
  have hg := grew_refl W0
  clear hm hp hq1 hq2 hd
  cases p <;> cases q1 <;> cases q2
  all_goals
    go_enter Try.func36, Try.ntmps36
    go_wp2_with (first
      | (go_at_call 38; (with_reducible refine (HVA.out _ (grew_trans g0 hg)).mono ?_); rintro e w1 ⟨rfl, hx⟩; replace hg := grew_trans hg hx; have hc := (bcell hg).1; clear hx)
      | (go_at_call 79; (with_reducible refine (HLA.out _ (grew_trans g0 hg)).mono ?_); rintro e w1 ⟨rfl, hx⟩; replace hg := grew_trans hg hx; replace hc := (bcell hg).1; clear hx)
      | (go_at_call 79; (with_reducible refine (HLB.out _ (grew_trans g0 hg)).mono ?_); rintro e w1 ⟨rfl, hx⟩; replace hg := grew_trans hg hx; replace hc := (bcell hg).1; clear hx)
      | (go_at_call 74; (with_reducible refine (HDD.out _ (grew_trans g0 hg)).mono ?_); rintro e w1 ⟨rfl, hx⟩; replace hg := grew_trans hg hx; clear hx))
    go_ret2
    exact ⟨by rw [HM.out]; rfl, grew_trans g0 hg⟩

end Go.Proofs.Ytddnpooffcjhnaa
