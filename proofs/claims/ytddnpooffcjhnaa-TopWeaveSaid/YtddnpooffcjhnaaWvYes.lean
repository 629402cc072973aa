/- What IsPath, Equal and Path answer of words of one class. -/
import Derived.Test.YtddnpooffcjhnaaWvGood
namespace Go.Proofs.Ytddnpooffcjhnaa
open Go.RowKit Go.Lin Go.Lin.Wv

theorem isPath_yes {L : Lt} {N : Nat} (hN : L.n = N) (hvl : valid L = true) (hn : L.n ≤ 9223372036854775807) {v uv wv pv : Value} {x y p : List Int} {w : World} (gx : GoodW N x) (gy : GoodW N y) (hp : p.length ≤ 1000) (hrun : runP (dep L) x p = some y)
    (hv : IsLt w v L) (hx : IsWd w uv x) (hy : IsWd w wv y) (hpw : IsWd w pv p) : Calls Try.prog 47 #[v, uv, wv, pv] w fun e w' => e = .returned (.tuple #[.bool true, .int .i64 0]) ∧ Grew w w' :=
  (isPath47_any v L uv wv pv x y p w hn hv hx hy hpw).mono fun e w' ⟨h1, h2⟩ => ⟨by rw [h1, isPathM_good hN hvl gx gy hp, hrun]; simp [endsAt], h2⟩

theorem equal_yes {L : Lt} {N : Nat} (hN : L.n = N) (hvl : valid L = true) (hn : L.n ≤ 9223372036854775807) {v uv wv : Value} {x y : List Int} {w : World} (gx : GoodW N x) (gy : GoodW N y) (ha : Wv.Alike (dep L) x y)
    (hv : IsLt w v L) (hx : IsWd w uv x) (hy : IsWd w wv y) : Calls Try.prog 43 #[v, uv, wv] w fun e w' => e = .returned (.tuple #[.bool true, .int .i64 0]) ∧ Grew w w' :=
  (equal43_any v L uv wv x y w hn hv hx hy).mono fun e w' ⟨h1, h2⟩ => ⟨by rw [h1, eqM_good hN hvl gx gy, (first_iff (dep_refl L) (dep_comm L) gx.ok gy.ok).2 ha, beq_self_eq_true], h2⟩

theorem path_yes {L : Lt} {N : Nat} (hN : L.n = N) (hvl : valid L = true) (hn : L.n ≤ 9223372036854775807) {v uv wv : Value} {x y : List Int} {w : World} (gx : GoodW N x) (gy : GoodW N y) (ha : Wv.Alike (dep L) x y)
    (hv : IsLt w v L) (hx : IsWd w uv x) (hy : IsWd w wv y) : Calls Try.prog 45 #[v, uv, wv] w fun e w' => ∃ u p, e = .returned (.tuple #[u, .int .i64 0]) ∧ IsWd w' u p ∧ p.length ≤ 45 ∧ runP (dep L) x p = some y ∧ Grew w w' :=
  (path45_any v L uv wv x y w hn hv hx hy).mono fun e w' ⟨u, p, E, h1, h2, h3, h4⟩ => by
    rcases path_good hN hvl gx gy h2 with ⟨h, _⟩ | ⟨_, rfl, h5, h6⟩
    · exact absurd ((first_iff (dep_refl L) (dep_comm L) gx.ok gy.ok).2 ha) h
    · exact ⟨u, p, h1, h3, h5, h6, h4⟩
end Go.Proofs.Ytddnpooffcjhnaa
