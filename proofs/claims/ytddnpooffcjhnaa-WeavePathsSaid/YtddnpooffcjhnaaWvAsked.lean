/- Walks of the reference: asked, limited; what exported functions answer. -/
import Derived.Test.YtddnpooffcjhnaaWvRValid
namespace Go.Lin.Wv

theorem wrong_nil (L : Lt) (x : List Int) : wrong L [x, []] = wrong L [x] := by
  unfold wrong
  simp [isW]

theorem wrong_cases (L : Lt) (ws : List (List Int)) : wrong L ws = 0 ∨ wrong L ws = 30 ∨ wrong L ws = 31 := by
  unfold wrong
  split
  · split <;> simp
  · simp

end Go.Lin.Wv
namespace Go.Proofs.Ytddnpooffcjhnaa
open Go.RowKit Go.Lin Go.Lin.Wv

set_option maxHeartbeats 2000000 in
theorem asked_any (v : Value) (L : Lt) (wv uv : Value) (x y : List Int) (w : World) (hv : IsLt w v L) (hx : IsInts Any w wv x) (hy : IsInts Any w uv y) :
    Calls Try.prog 64 #[v, wv, uv] w fun e w' => e = .returned (.int .i64 (wrong L [x, y])) ∧ Grew w w' := by
  have HVA := hid (fun (W : World) (hW : Grew w W) => rValid_any v L W (hv.grew hW))
  have HWX := hid (fun (W : World) (hW : Grew w W) => isW_any v L wv x W (hv.grew hW) (Reads.grew hx hW))
  have HWY := hid (fun (W : World) (hW : Grew w W) => isW_any v L uv y W (hv.grew hW) (Reads.grew hy hW))
  obtain ⟨s, rfl, -⟩ := hv
  obtain ⟨W0, hW0, g0, k0, k1, hz⟩ := box2 w (.int .i64 L.n) s 24
  have HW := hid (show wrong L [x, y] = if valid L then (if isW L x && isW L y then 0 else 31) else 30 from by unfold wrong; simp)
  obtain ⟨r, hr⟩ : ∃ r, wrong L [x, y] = r := ⟨_, rfl⟩
  rw [hr] at HW ⊢
  obtain ⟨p, hp⟩ : ∃ p, valid L = p := ⟨_, rfl⟩
  obtain ⟨q1, hq1⟩ : ∃ p, isW L x = p := ⟨_, rfl⟩
  obtain ⟨q2, hq2⟩ : ∃ p, isW L y = p := ⟨_, rfl⟩
  have hW2 := HW.out
  rw [hp, hq1, hq2] at hW2
  rw [hp] at HVA; rw [hq1] at HWX; rw [hq2] at HWY
  have hg := grew_refl W0
  clear HW hr hx hy hp hq1 hq2
  cases p <;> cases q1 <;> cases q2
  all_goals (
    simp only [Bool.and_true, Bool.and_false, Bool.and_self, if_true, if_false, Bool.false_eq_true] at hW2
    subst hW2
    go_enter Try.func64, Try.ntmps64
    go_wp2_with (first
      | (go_at_call 38; (with_reducible refine (HVA.out _ (grew_trans g0 hg)).mono ?_); rintro e w1 ⟨rfl, hx⟩; replace hg := grew_trans hg hx; have hc := (bcell hg).1; clear hx)
      | (go_at_call 53; (with_reducible refine (HWX.out _ (grew_trans g0 hg)).mono ?_); rintro e w2 ⟨rfl, hx⟩; replace hg := grew_trans hg hx; have hc := (bcell hg).1; clear hx)
      | (go_at_call 53; (with_reducible refine (HWY.out _ (grew_trans g0 hg)).mono ?_); rintro e w2 ⟨rfl, hx⟩; replace hg := grew_trans hg hx; have hc := (bcell hg).1; clear hx))
    go_ret
    exact ⟨rfl, grew_trans g0 hg⟩)

end Go.Proofs.Ytddnpooffcjhnaa
