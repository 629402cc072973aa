/- Plain: what the functions answer of words that are right. -/
import Derived.Test.YtddnpooffcjhnaaWvFormsL
import Derived.Test.YtddnpooffcjhnaaWvTellP
namespace Go.Lin.Wv
open Go.Proofs.Ytddnpooffcjhnaa
variable {L : Lt} {N : Nat} (hN : L.n = N) (hv : valid L = true)
include hN hv

theorem eqM_good {x y : List Int} (hx : GoodW N x) (hy : GoodW N y) : eqM L x y = (first (dep L) N x == first (dep L) N y, 0) := by
  unfold eqM
  rw [if_pos (good_wrong hv hN (by simp; exact ⟨hx, hy⟩)), hN, Int.toNat_natCast]

theorem layersA_good {x : List Int} (hx : GoodW N x) : layersA L x = (layersM (dep L) N x, 0) := by
  unfold layersA
  rw [if_pos (good_wrong hv hN (by simp; exact hx)), hN, Int.toNat_natCast]

theorem startsM_good {x : List Int} (hx : GoodW N x) : startsM L x = (starts (dep L) N x, 0) := by
  unfold startsM
  rw [if_pos (good_wrong hv hN (by simp; exact hx)), hN, Int.toNat_natCast]

theorem turnedM_good {x : List Int} (hx : GoodW N x) : turnedM L x = (first (dep L) N x.reverse, 0) := by
  unfold turnedM
  rw [if_pos (good_wrong hv hN (by simp; exact hx)), hN, Int.toNat_natCast]

theorem sizeA_good {x : List Int} (hx : GoodW N x) : sizeA L x = (((sizeM (dep L) N x : Nat) : Int), 0) := by
  unfold sizeA
  rw [good_wrong hv hN (by simp; exact hx), if_pos rfl, hN, Int.toNat_natCast]

omit hv in
theorem isL_good {a : Nat} (ha : a < N) : isL L a = true := by
  unfold isL
  rw [Bool.and_eq_true, decide_eq_true_iff, decide_eq_true_iff]
  omega

theorem dependM_good {a b : Nat} (ha : a < N) (hb : b < N) : dependM L a b = (dep L a b, 0) := by
  unfold dependM
  rw [if_pos (good_wrong hv hN (by simp)), isL_good hN ha, isL_good hN hb]
  rfl

theorem projM_good {x : List Int} (hx : GoodW N x) {a b : Nat} (ha : a < N) (hb : b < N) : projM L x a b = (pr a b x, 0) := by
  unfold projM
  rw [if_pos (good_wrong hv hN (by simp; exact hx)), isL_good hN ha, isL_good hN hb, kept_pr]
  rfl

theorem exchangedM_good {x : List Int} (hx : GoodW N x) (i : Int) : exchangedM L x i = if canM (dep L) x i then (swapM x i.toNat, 0) else ([], 2) := by
  unfold exchangedM
  rw [if_pos (good_wrong hv hN (by simp; exact hx))]

theorem isPathM_good {x y p : List Int} (hx : GoodW N x) (hy : GoodW N y) (hp : p.length ≤ 1000) : isPathM L x y p = (endsAt y (runP (dep L) x p), 0) := by
  unfold isPathM
  rw [if_pos (good_wrong hv hN (by simp; exact ⟨hx, hy⟩)), if_neg (by omega)]

theorem path_good {x y p : List Int} {e : Int} (hx : GoodW N x) (hy : GoodW N y) (h : PathSays L x y p e) :
    (first (dep L) N x ≠ first (dep L) N y ∧ p = [] ∧ e = 5) ∨ (first (dep L) N x = first (dep L) N y ∧ e = 0 ∧ p.length ≤ 45 ∧ runP (dep L) x p = some y) := by
  have hw := good_wrong hv hN (l := [x, y]) (by simp; exact ⟨hx, hy⟩)
  unfold PathSays at h
  rw [hN, Int.toNat_natCast, hw] at h
  rcases h with ⟨h, _⟩ | ⟨_, h⟩ | ⟨_, h⟩
  · exact absurd rfl h
  · exact .inl h
  · exact .inr h
end Go.Lin.Wv
