/- Walks: whether two states are the same, and the classes, of the program's own text. -/
import Derived.Test.YtnebpcpihldllaaWWord
namespace Go.Lin

theorem least_exists (p : Nat → Bool) : ∀ a, p a = true → ∃ c, c ≤ a ∧ p c = true ∧ ∀ b, b < c → p b = false := by
  intro a
  induction a using Nat.strongRecOn with
  | _ a ih =>
    intro ha
    by_cases h : ∃ b, b < a ∧ p b = true
    · obtain ⟨b, hb, hp⟩ := h
      obtain ⟨c, hc, h1, h2⟩ := ih b hb hp
      exact ⟨c, by omega, h1, h2⟩
    · refine ⟨a, Nat.le_refl _, ha, fun b hb => ?_⟩
      cases hp : p b with
      | false => rfl
      | true => exact absurd ⟨b, hb, hp⟩ h

/-- sB decides whether two states are the same; cl names the least one that is. -/
structure Sames (M : Mach) (sB : Nat → Nat → Bool) (cl : Nat → Nat) : Prop where
  same : ∀ a b, sB a b = true ↔ NoTells M M a b
  le : ∀ a, cl a ≤ a
  cls : ∀ a, sB a (cl a) = true
  least : ∀ a b, b < cl a → sB a b = false

theorem sames_exist (M : Mach) : ∃ sB cl, Sames M sB cl := by
  have h1 : ∃ sB : Nat → Nat → Bool, ∀ a b, sB a b = true ↔ NoTells M M a b :=
    ⟨fun a b => @decide (NoTells M M a b) (Classical.propDecidable _), fun a b => by simp⟩
  obtain ⟨sB, hs⟩ := h1
  have h2 : ∀ a, ∃ c, c ≤ a ∧ sB a c = true ∧ ∀ b, b < c → sB a b = false := fun a => least_exists (sB a) a ((hs a a).2 (fun v _ => rfl))
  obtain ⟨cl, hc⟩ := Classical.axiomOfChoice h2
  exact ⟨sB, cl, hs, fun a => (hc a).1, fun a => (hc a).2.1, fun a b => (hc a).2.2 b⟩

end Go.Lin
namespace Go.Proofs.Ytnebpcpihldllaa
open Go.RowKit Go.Lin

theorem entered64 : Entered 64 := fun _ _ => by kernel_rfl
theorem entered70 : Entered 70 := fun _ _ => by kernel_rfl

set_option maxHeartbeats 1000000 in
theorem same65_any (M : Mach) (hM : M.WF) (sB : Nat → Nat → Bool) (hsB : ∀ a b, sB a b = true ↔ NoTells M M a b) (mv : Value) (a b : Nat) (w : World) (ha : a < M.n) (hb : b < M.n) (hm : IsMach w mv M) :
    Calls Try.prog 65 #[mv, .int .i64 (a : Int), .int .i64 (b : Int)] w fun e w' => e = .returned (.bool (sB a b)) ∧ Grew w w' := by
  have HM := hid (fun (y : World) (hy : Grew w y) => apart_any M M hM hM rfl _ _ a b y ha hb (hm.grew hy) (hm.grew hy))
  obtain ⟨b1, off1, c1, b2, off2, c2, rfl, _, _⟩ := hm
  obtain ⟨W0, hW0, g0, k0, k1, k2, k3, hz⟩ := box4 w (.int .i64 (M.n : Int)) (.int .i64 (M.k : Int)) (.slice (some ⟨b1, off1, none⟩) M.n c1) (.slice (some ⟨b2, off2, none⟩) M.n c2) 60
  have HS := hid (hsB a b); clear hsB
  go_enter Try.func65, Try.ntmps65
  go_wp2_with (go_at_call 68; with_reducible refine (HM.out _ g0).mono ?_; rintro e w2 ⟨u, r, rfl, hg2, hres⟩; have HRES := hid hres; clear hres; cases r)
  · go_ret
    refine ⟨ret_bool ?_, grew_trans g0 hg2⟩
    rcases HRES.out with ⟨h, _⟩ | ⟨_, _, hno⟩
    · cases h
    · exact (HS.out.2 hno).symm
  · go_ret
    refine ⟨ret_bool ?_, grew_trans g0 hg2⟩
    rcases HRES.out with ⟨_, ws, h1, _⟩ | ⟨h, _⟩
    · cases hs : sB a b with
      | false => rfl
      | true => exact absurd (HS.out.1 hs ws h1.ok) h1.tells
    · cases h

set_option maxHeartbeats 2000000 in
theorem classes_any (M : Mach) (hM : M.WF) (sB : Nat → Nat → Bool) (cl : Nat → Nat) (hS : Sames M sB cl) (mv : Value) (w : World) (hm : IsMach w mv M) :
    Calls Try.prog 71 #[mv] w fun e w' => ∃ u, e = .returned u ∧ Seg w' w.heap.size 3 1 u M.n ((List.range M.n).map (fun a => Value.int .i64 (cl a : Int))) ∧ Grew w w' := by
  have HM := hid (fun (a b : Nat) (ha : a < M.n) (hb : b < M.n) (y : World) (hy : Grew w y) => same65_any M hM sB hS.same _ a b y ha hb (hm.grew hy))
  have n8 := hM.n8
  have HCL := hid hS; clear hS
  obtain ⟨b1, off1, c1, b2, off2, c2, rfl, _, _⟩ := hm
  obtain ⟨W0, hW0, g0, k0, k1, k2, k3, hz⟩ := box4 w (.int .i64 (M.n : Int)) (.int .i64 (M.k : Int)) (.slice (some ⟨b1, off1, none⟩) M.n c1) (.slice (some ⟨b2, off2, none⟩) M.n c2) 60
  go_enter Try.func71, Try.ntmps71
  go_wp2
  clear hW0
  go_loopg [3, 8] M.n (fun g u i wr => ∃ k : Nat, k ≤ M.n ∧ i = .int .i64 (k : Int) ∧ Hid (g = M.n - k) ∧ Grew W0 wr ∧ Seg wr W0.heap.size 3 1 u k ((List.range k).map (fun a => Value.int .i64 (cl a : Int))))
  case atStart => exact ⟨0, Nat.zero_le _, rfl, hid rfl, grew_refl _, Seg.nil _ _ _ _⟩
  case round =>
    obtain ⟨k, hk, rfl, HG, hg, hseg⟩ := hrel
    obtain ⟨ua, uc, rfl, _⟩ := hseg.shape
    have hc := (bcell hg).1
    have hsz := hg.size
    by_cases hlt : k < M.n
    · go_wp2
      obtain ⟨wo, rfl⟩ : ∃ wo : World, wo = wr := ⟨_, rfl⟩
      clear hc hsz
      go_loopg [5] (cl k + 1) (fun g2 v5 wi => ∃ b : Nat, v5 = .int .i64 (b : Int) ∧ b ≤ cl k ∧ Hid (g2 = cl k + 1 - b) ∧ Grew wo wi)
      case atStart => exact ⟨0, rfl, Nat.zero_le _, hid rfl, grew_refl _⟩
      case round =>
        obtain ⟨b, rfl, hb, HG2, hgi⟩ := hrel
        have gI := grew_trans hg hgi
        have hc := (bcell gI).1
        have hle := HCL.out.le k
        have hbn : b < M.n := by omega
        by_cases hbc : b < cl k
        · have hsame := HM.out k b hlt hbn wr (grew_trans g0 gI)
          rw [HCL.out.least k b hbc] at hsame
          have HSM := hid hsame; clear hsame
          go_wp2_with (go_at_call 65; with_reducible refine HSM.out.mono ?_; rintro e w1 ⟨rfl, hx⟩)
          go_roundg (cl k + 1 - (b + 1))
          case measure => have := HG2.out; omega
          case rel => exact ⟨b + 1, by go_num, by omega, hid rfl, grew_trans hgi hx⟩
        · have hbe : cl k = b := by omega
          have hsame := HM.out k b hlt hbn wr (grew_trans g0 gI)
          have hcls := HCL.out.cls k
          rw [hbe] at hcls
          rw [hcls] at hsame
          have HSM := hid hsame; clear hsame hcls
          have HBE := hid hbe; clear hbe hbc
          have hseg2 := hseg.grew hgi
          go_wp2_with (first
            | (go_at_call 65; with_reducible refine HSM.out.mono ?_; rintro e w1 ⟨rfl, hx⟩; have hg1 := grew_trans gI hx; have hseg3 := hseg2.grew hx; have hsz := hg1.size)
            | (at_builtin; refine wpList_append_one rfl _ _ 34 rfl W0.heap.size 3 Try.underlying34 Try.info3 rfl (by decide) _ (k) _ rfl (hseg3.alloc _) _ _ _ rfl (one_new _ _ _) rfl (by omega) ?_ ?_; (simp only [World.size_alloc]; omega); intro v9 w9 hown9 hgrow9 hblk9; have hg9 := (hg1.alloc hg1.size _).grown hgrow9 (hg1.alloc hg1.size _).size (fun k e => (hseg3.own k e).1); have hc9 := (bcell hg9).1; clear hgrow9))
          go_roundg (M.n - (k + 1))
          case measure => have := HG.out; omega
          case rel =>
            refine ⟨k + 1, by omega, by go_num, hid rfl, hg9, ?_⟩
            rw [List.range_succ, List.map_append, List.map_cons, List.map_nil, HBE.out]
            exact hown9
    · obtain rfl : M.n = k := by omega
      go_wp2
      go_ret
      exact ⟨_, rfl, hseg.mono g0.size, grew_trans g0 hg⟩

theorem whatever_says (sv : Value) (w : World) (s : RSpec) (hs : IsSpec w sv s) : Says 70 #[] sv true w := by
  intro w' hw
  obtain ⟨nv, yv, rfl, _, _⟩ := hs
  show Calls Try.prog 70 #[.agg #[.int .i64 s.st, .int .i64 s.ops, nv, yv]] w' _
  go_enter Try.func70, Try.ntmps70
  go_wp2
  go_ret
  exact ⟨rfl, (by repeat' (first | exact grew_refl _ | assumption | refine grew_alloc ?_ _ | refine Below.setCell ?_ (by (try simp); omega) _ | refine grew_drewN ?_ _ | refine grew_drew ?_ | refine grew_trans ?_ (by assumption)))⟩
end Go.Proofs.Ytnebpcpihldllaa
