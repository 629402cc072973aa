/- The law SpecCalls: it answers true of every input. -/
import Derived.Test.YtnebpcpihldllaaRCalls
import Derived.Test.YtnebpcpihldllaaWAwake
namespace Go.Lin
/-- What Meddles answers of a specification. -/
def MedOf (s : RSpec) (sB : Nat → Nat → Bool) (q a b ev : Int) : Prop := (validM s = true ∧ MedIs (machOf s) sB q a b ev) ∨ (validM s = false ∧ q = 0 ∧ a = 0 ∧ b = 0 ∧ ev = 10)

theorem MedOf.unique {s : RSpec} {sB : Nat → Nat → Bool} {q a b ev q' a' b' ev' : Int} (h : MedOf s sB q a b ev) (h' : MedOf s sB q' a' b' ev') : q = q' ∧ a = a' ∧ b = b' ∧ ev = ev' := by
  rcases h with ⟨v, h⟩ | ⟨v, rfl, rfl, rfl, rfl⟩ <;> rcases h' with ⟨v', h'⟩ | ⟨v', rfl, rfl, rfl, rfl⟩
  · exact h.unique h'
  · rw [v] at v'; cases v'
  · rw [v] at v'; cases v'
  · exact ⟨rfl, rfl, rfl, rfl⟩
end Go.Lin
namespace Go.Proofs.Ytnebpcpihldllaa
open Go.RowKit Go.Lin

theorem meddles_any (s : RSpec) (sB : Nat → Nat → Bool) (hsB : ∀ a b, sB a b = true ↔ NoTells (machOf s) (machOf s) a b) (sv : Value) (w : World) (hs : IsSpec w sv s) :
    Calls Try.prog 50 #[sv] w fun e w' => ∃ q a b ev : Int, e = .returned (.tuple #[.int .i64 q, .int .i64 a, .int .i64 b, .int .i64 ev]) ∧ MedOf s sB q a b ev ∧ Grew w w' := by
  cases hv : validM s with
  | true => exact (meddles_ok s sB hsB sv w hs hv).mono (fun e w' ⟨q, a, b, ev, he, hm, hg⟩ => ⟨q, a, b, ev, he, .inl ⟨hv, hm⟩, hg⟩)
  | false => exact (meddles_bad s sv w hs hv).mono (fun e w' ⟨he, hg⟩ => ⟨0, 0, 0, 10, he, .inr ⟨hv, rfl, rfl, rfl, rfl⟩, hg⟩)

theorem refMeddles_any (s : RSpec) (sB : Nat → Nat → Bool) (hsB : ∀ a b, sB a b = true ↔ NoTells (machOf s) (machOf s) a b) (sv : Value) (w : World) (hs : IsSpec w sv s) :
    Calls Try.prog 51 #[sv] w fun e w' => ∃ q a b ev : Int, e = .returned (.tuple #[.int .i64 q, .int .i64 a, .int .i64 b, .int .i64 ev]) ∧ MedOf s sB q a b ev ∧ Grew w w' := by
  cases hv : validM s with
  | true => exact (refMeddles_ok s sB hsB sv w hs hv).mono (fun e w' ⟨q, a, b, ev, he, hm, hg⟩ => ⟨q, a, b, ev, he, .inl ⟨hv, hm⟩, hg⟩)
  | false => exact (refMeddles_bad s sv w hs hv).mono (fun e w' ⟨he, hg⟩ => ⟨0, 0, 0, 10, he, .inr ⟨hv, rfl, rfl, rfl, rfl⟩, hg⟩)

set_option maxHeartbeats 4000000 in
set_option maxRecDepth 100000 in
theorem specCalls_law (s : RSpec) (z a b : Int) (sv : Value) (w : World) (hs : IsSpec w sv s) :
    Calls Try.prog 12 #[sv, .int .i64 z, .int .i64 a, .int .i64 b] w fun e w' => e = .returned (.bool true) ∧ Grew w w' := by
  obtain ⟨sB, cl, hS⟩ := sames_exist (machOf s)
  have HS := hs
  have HLO := hid (fun (y : World) (hy : Grew w y) => long_any s _ y (HS.grew hy))
  have HA1 := hid (fun (y : World) (hy : Grew w y) => commute_any s sB hS.same z a b _ y (HS.grew hy))
  have HA2 := hid (fun (y : World) (hy : Grew w y) => refCommute_any s sB hS.same z a b _ y (HS.grew hy))
  have HB1 := hid (fun (y : World) (hy : Grew w y) => over_any s sB hS.same z a b _ y (HS.grew hy))
  have HB2 := hid (fun (y : World) (hy : Grew w y) => refOver_any s sB hS.same z a b _ y (HS.grew hy))
  have HC1 := hid (fun (y : World) (hy : Grew w y) => reads_any s sB hS.same a _ y (HS.grew hy))
  have HC2 := hid (fun (y : World) (hy : Grew w y) => refReads_any s sB hS.same a _ y (HS.grew hy))
  have HD1 := hid (fun (y : World) (hy : Grew w y) => meddles_any s sB hS.same _ y (HS.grew hy))
  have HD2 := hid (fun (y : World) (hy : Grew w y) => refMeddles_any s sB hS.same _ y (HS.grew hy))
  obtain ⟨p1, h1⟩ : ∃ p, commuteOf s sB z a b = p := ⟨_, rfl⟩
  obtain ⟨p2, h2⟩ : ∃ p, overOf s sB z a b = p := ⟨_, rfl⟩
  obtain ⟨p3, h3⟩ : ∃ p, readsOf s sB a = p := ⟨_, rfl⟩
  obtain ⟨e1, h4⟩ : ∃ p, callsM s z a b = p := ⟨_, rfl⟩
  obtain ⟨e2, h5⟩ : ∃ p, callsM s 0 a a = p := ⟨_, rfl⟩
  rw [h1, h4] at HA1 HA2
  rw [h2, h4] at HB1 HB2
  rw [h3, h5] at HC1 HC2
  obtain ⟨na, nc, ya, yc, rfl⟩ := isSpec_open' hs
  obtain ⟨W0, hW0, g0, k0, k1, k2, k3, hz⟩ := box4 w (.int .i64 s.st) (.int .i64 s.ops) (.slice na s.next.length nc) (.slice ya s.says.length yc) 24
  have hg := grew_refl W0
  clear h1 h2 h3 h4 h5 hs HS hS
  go_enter Try.func12, Try.ntmps12
  go_wp2_with (first
    | (go_at_call 16; with_reducible refine (HLO.out _ (grew_trans g0 hg)).mono ?_; rintro e w1 ⟨x1, rfl, hx1, hx⟩; replace hg := grew_trans hg hx; have hc := (bcell hg).1; clear hx; rcases hx1 with rfl | rfl)
    | (go_at_call 41; with_reducible refine (HA1.out _ (grew_trans g0 hg)).mono ?_; rintro e w2 ⟨rfl, hx⟩; replace hg := grew_trans hg hx; have hc := (bcell hg).1; clear hx)
    | (go_at_call 45; with_reducible refine (HA2.out _ (grew_trans g0 hg)).mono ?_; rintro e w3 ⟨rfl, hx⟩; replace hg := grew_trans hg hx; have hc := (bcell hg).1; clear hx)
    | (go_at_call 46; with_reducible refine (HB1.out _ (grew_trans g0 hg)).mono ?_; rintro e w4 ⟨rfl, hx⟩; replace hg := grew_trans hg hx; have hc := (bcell hg).1; clear hx)
    | (go_at_call 47; with_reducible refine (HB2.out _ (grew_trans g0 hg)).mono ?_; rintro e w5 ⟨rfl, hx⟩; replace hg := grew_trans hg hx; have hc := (bcell hg).1; clear hx)
    | (go_at_call 48; with_reducible refine (HC1.out _ (grew_trans g0 hg)).mono ?_; rintro e w6 ⟨rfl, hx⟩; replace hg := grew_trans hg hx; have hc := (bcell hg).1; clear hx)
    | (go_at_call 49; with_reducible refine (HC2.out _ (grew_trans g0 hg)).mono ?_; rintro e w7 ⟨rfl, hx⟩; replace hg := grew_trans hg hx; have hc := (bcell hg).1; clear hx)
    | (go_at_call 50; (with_reducible refine (HD1.out _ (grew_trans g0 hg)).mono ?_); rintro e w8 ⟨q1, q2, q3, q4, rfl, hm, hx⟩; replace hg := grew_trans hg hx; have hc := (bcell hg).1; clear hx; have HM := hid hm; clear hm)
    | (go_at_call 51; (with_reducible refine (HD2.out _ (grew_trans g0 hg)).mono ?_); rintro e w9 ⟨r1, r2, r3, r4, rfl, hm, hx⟩; replace hg := grew_trans hg hx; have hc := (bcell hg).1; clear hx; obtain ⟨rfl, rfl, rfl, rfl⟩ := HM.out.unique hm; clear hm)
    | (go_at_call 17; with_reducible refine (awake_any _).mono ?_; rintro e wa ⟨rfl, hxa⟩))
  all_goals
    go_ret
    exact ⟨rfl, grew_trans (grew_trans g0 hg) hxa⟩
end Go.Proofs.Ytnebpcpihldllaa
