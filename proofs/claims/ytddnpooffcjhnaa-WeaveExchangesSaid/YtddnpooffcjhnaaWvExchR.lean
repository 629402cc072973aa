/- Walks of the reference: can (82). -/
import Derived.Test.YtddnpooffcjhnaaWvExch
import Derived.StillTailTactics
namespace Go.Lin.Wv
theorem canM_false {D : Int → Int → Bool} {x : List Int} {i : Int} (h : ¬ (0 ≤ i ∧ i < (x.length : Int) - 1)) : canM D x i = false := by
  unfold canM
  cases h1 : decide (0 ≤ i) with
  | false => rfl
  | true =>
    have h2 : decide (i ≤ (x.length : Int) - 2) = false := by simp at h1 ⊢; omega
    rw [h2]; rfl
theorem canM_true {D : Int → Int → Bool} {x : List Int} {k : Nat} (h : k + 1 < x.length) : canM D x (k : Int) = !D (nth x k) (nth x (k + 1)) := by
  unfold canM
  rw [show decide (0 ≤ (k : Int)) = true by simp, show decide ((k : Int) ≤ (x.length : Int) - 2) = true by simp; omega, Int.toNat_natCast]
  rfl
end Go.Lin.Wv
namespace Go.Proofs.Ytddnpooffcjhnaa
open Go.RowKit Go.Lin Go.Lin.Wv

set_option maxHeartbeats 4000000 in
set_option maxRecDepth 20000 in
theorem can82_any (v : Value) (L : Lt) (wv : Value) (x : List Int) (n : Nat) (i : Int) (w : World) (hn : x.length = n) (hlen : n ≤ 100000) (hv : IsLt w v L) (hx : IsInts Any w wv x) :
    Calls Try.prog 82 #[v, wv, .int .i64 i] w fun e w' => e = .returned (.bool (canM (dep L) x i)) ∧ Grew w w' := by
  have HDEP := hid (fun (a b : Int) (y : World) (hy : Grew w y) => depend_any v L a b y (hv.grew hy))
  obtain ⟨s, rfl, -⟩ := hv
  obtain ⟨W0, hW0, g0, k0, k1, hz⟩ := box2 w (.int .i64 L.n) s 24
  have hwr : IntKind.i64.wrap ((n : Int) - 1) = (n : Int) - 1 := IntWalk.i64_in _ (by omega)
  by_cases hin : 0 ≤ i ∧ i < (n : Int) - 1
  · obtain ⟨k, rfl, hk⟩ : ∃ k : Nat, i = k ∧ k + 1 < n := ⟨i.toNat, by omega, by omega⟩
    rw [canM_true (by omega)]
    obtain ⟨va, vc, rfl, hm, hc⟩ := hx
    rw [hn] at hm hc ⊢
    obtain ⟨b, off, o, hva, hob, -, c0⟩ := hc k (by omega)
    subst hva
    obtain ⟨b', off', o', hva', -, -, c1⟩ := hc (k + 1) hk
    simp only [Option.some.injEq, Addr.mk.injEq, and_true] at hva'
    obtain ⟨rfl, rfl⟩ := hva'
    have hbl := lt_of_obj hob
    obtain ⟨a0, ha0⟩ : ∃ a, nth x k = a := ⟨_, rfl⟩
    obtain ⟨a1, ha1⟩ : ∃ a, nth x (k + 1) = a := ⟨_, rfl⟩
    replace c0 := (g0.cell (p := ⟨b, off + k, none⟩) hbl).trans c0
    replace c1 := (g0.cell (p := ⟨b, off + (k + 1), none⟩) hbl).trans c1
    simp only [ha0] at c0
    simp only [ha1] at c1
    rw [ha0, ha1]
    have hbl2 := Nat.lt_of_lt_of_le hbl g0.size
    obtain ⟨d, hd⟩ : ∃ d, dep L a0 a1 = d := ⟨_, rfl⟩
    have hdep := fun (y : World) (hy : Grew w y) => HDEP.out a0 a1 y hy
    rw [hd] at hdep ⊢
    have HD := hid hdep
    have hwr2 : IntKind.i64.wrap ((k : Int) + 1) = (k : Int) + 1 := IntWalk.i64_in _ (by omega)
    have htn : ((k : Int) + 1).toNat = k + 1 := by omega
    have hp0 : (0 : Int) ≤ (k : Int) + 1 := by omega
    have hkl : (k : Int) + 1 < (n : Int) := by omega
    have hkl0 : (k : Int) < (n : Int) := by omega
    have hkl1 : (k : Int) < (n : Int) - 1 := by omega
    have hg := grew_refl W0
    clear hc hob hn ha0 ha1 hd hdep hin HDEP
    cases d
    all_goals
      go_enter Try.func82, Try.ntmps82
      go_wp2
      go_still_tail 20, (by kernel_rfl)
      change wpList _ _ _ _ _ W0.drew
      have HG := hid (grew_drew hg)
      generalize W0.drew = w2 at HG ⊢
      go_wp2_with (first
        | (go_at_call 74; (with_reducible refine (HD.out _ (grew_trans g0 HG.out)).mono ?_); rintro e w3 ⟨rfl, hx⟩; replace HG := hid (grew_trans HG.out hx); clear hx))
      go_ret
      exact ⟨rfl, grew_trans g0 HG.out⟩
  · rw [canM_false (by rw [hn]; exact hin)]
    obtain ⟨va, vc, rfl, hm, hc⟩ := hx
    rw [hn] at hm hc ⊢
    clear hc hn HDEP
    by_cases h0 : 0 ≤ i
    · have h1 : ¬ i < (n : Int) - 1 := fun h => hin ⟨h0, h⟩
      have hd1 : decide (i < (n : Int) - 1) = false := by simpa using h1
      clear hin
      go_enter Try.func82, Try.ntmps82
      go_wp2
      go_quiet (fail)
      go_wp2
      go_ret
      exact ⟨rfl, grew_drewN g0 _⟩
    · have hd1 : decide (0 ≤ i) = false := by simpa using h0
      clear hin
      go_enter Try.func82, Try.ntmps82
      go_wp2
      go_quiet (fail)
      go_wp2
      go_ret
      exact ⟨rfl, grew_drewN g0 _⟩

end Go.Proofs.Ytddnpooffcjhnaa
