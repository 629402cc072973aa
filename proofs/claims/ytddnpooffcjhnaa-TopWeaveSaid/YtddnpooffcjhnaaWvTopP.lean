/- Plain law: a word falls into what it has in common with another one and a rest. -/
import Derived.Test.YtddnpooffcjhnaaWvMeetP
import Derived.Test.YtddnpooffcjhnaaWvGood
namespace Go.Lin.Wv
open Go.Proofs.Ytddnpooffcjhnaa
variable {L : Lt} {N : Nat} (hN : L.n = N) (hv : valid L = true)
include hN hv

theorem top_parts {x y : List Int} (gx : GoodW N x) (gy : GoodW N y) : ∃ c rx ry, GoodW N c ∧ GoodW N rx ∧ GoodW N ry ∧ commonM L x y = (c, 0) ∧ restM L c x = (rx, 0) ∧ restM L c y = (ry, 0) ∧ joinedM L c rx = (first (dep L) N x, 0) ∧ joinedM L c ry = (first (dep L) N y, 0) ∧
    commonM L rx ry = ([], 0) ∧ (bothM L x y = ([], 5) ∨ bothM L x y = ([], 4) ∨ ∃ z, bothM L x y = (z, 0) ∧ joinedM L (first (dep L) N x) ry = (z, 0)) := by
  have P := parts_of (L := L) gx gy
  have hcm := commonM_good hN hv gx gy
  have hbm := bothM_good hN hv gx gy
  obtain ⟨b, p, q, hbpq⟩ : ∃ b p q, common (dep L) N x y = (b, p, q) := ⟨_, _, _, rfl⟩
  rw [hbpq] at P hcm hbm
  simp only at P hcm hbm
  have hr := dep_refl L
  have hs := dep_comm L
  have gb := P.gb
  have gp : GoodW N p := (good_of_alike gx P.ax).2
  have gq : GoodW N q := (good_of_alike gy P.ay).2
  have ab := alike_first (D := dep L) (n := N) hs gb.ok
  obtain ⟨r1, h1, a1⟩ := rest_of_alike hr hs (u := first (dep L) N b) (w := x) (v := p) (P.ax.trans (ab.append (Alike.refl p)))
  obtain ⟨r2, h2, a2⟩ := rest_of_alike hr hs (u := first (dep L) N b) (w := y) (v := q) (P.ay.trans (ab.append (Alike.refl q)))
  have g1 : GoodW N r1 := gx.rest h1
  have g2 : GoodW N r2 := gy.rest h2
  have f1 := alike_first (D := dep L) (n := N) hs g1.ok
  have f2 := alike_first (D := dep L) (n := N) hs g2.ok
  refine ⟨first (dep L) N b, first (dep L) N r1, first (dep L) N r2, gb.first, g1.first, g2.first, hcm, by rw [restM_good hN hv gb.first gx, h1], by rw [restM_good hN hv gb.first gy, h2], again_first hN hv gb.first gx h1, again_first hN hv gb.first gy h2, ?_, ?_⟩
  · rw [commonM_good hN hv g1.first g2.first]
    have hn : common (dep L) N (first (dep L) N r1) (first (dep L) N r2) = ([], first (dep L) N r1, first (dep L) N r2) := by
      refine common_none (List.find?_eq_none.2 fun a ha h => ?_)
      have hf1 : Fr (dep L) (first (dep L) N r1) a := (mem_starts.1 ha).2
      have hf2 : Fr (dep L) (first (dep L) N r2) a := h
      exact P.no a ⟨(fr_alike hr (f1.symm.trans a1)).1 hf1, (fr_alike hr (f2.symm.trans a2)).1 hf2⟩
    rw [hn]
    rfl
  · rw [hbm]
    by_cases hc : clash (dep L) p q = true
    · rw [if_pos hc]; exact .inl rfl
    · rw [if_neg hc]
      by_cases hl : (b ++ p ++ q).length ≤ 10
      · rw [if_pos hl]
        refine .inr (.inr ⟨_, rfl, ?_⟩)
        have hle := P.lens
        have l2 : r2.length = q.length := a2.length hr
        simp only [List.length_append] at hl
        rw [joinedM_good hN hv gx.first g2.first, if_pos (by rw [List.length_append, first_len gx.ok, first_len g2.ok, l2]; omega)]
        rw [first_alike hr hs N (((alike_first hs gx.ok).symm.trans P.ax).append (f2.symm.trans a2))]
      · rw [if_neg hl]; exact .inr (.inl rfl)
end Go.Lin.Wv
