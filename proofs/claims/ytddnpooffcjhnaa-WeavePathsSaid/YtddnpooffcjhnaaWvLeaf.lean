/- Letters in memory; walks: between, the reference's IsLetter, IsWord, depend, free. -/
import Derived.Test.YtddnpooffcjhnaaWvModel
import Derived.Test.YtddnpooffcjhnaaRows
import Derived.Test.YtddnpooffcjhnaaAppend
namespace Go.Proofs.Ytddnpooffcjhnaa
open Go.RowKit Go.Lin Go.Lin.Wv

theorem Try.info3 : (Try.prog.info? 3).map (fun i => (i.zero, i.size, i.bytes)) = some (some (.int .i64 0), 1, 8) := by kernel_rfl
theorem Try.info25 : (Try.prog.info? 25).map (fun i => (i.zero, i.size, i.bytes)) = some (some (.slice none 0 0), 1, 24) := by kernel_rfl

/-- A pair lies there. -/
structure PairAt (w : World) (b o : Nat) (x : Int × Int) : Prop where
  lt : b < w.heap.size
  c0 : w.cell? ⟨b, o, none⟩ = some (.int .i64 x.1)
  c1 : w.cell? ⟨b, o + 1, none⟩ = some (.int .i64 x.2)

theorem PairAt.grew {B : Nat} {w w' : World} {b o : Nat} {x : Int × Int} (h : PairAt w b o x) (hb : b < B) (hg : Below B w w') : PairAt w' b o x :=
  ⟨Nat.lt_of_lt_of_le h.lt hg.size, (hg.cell (p := ⟨b, o, none⟩) hb).trans h.c0, (hg.cell (p := ⟨b, o + 1, none⟩) hb).trans h.c1⟩

/-- A slice of pairs. -/
def IsPairs (w : World) (v : Value) (l : List (Int × Int)) : Prop :=
  ∃ (a : Option Addr) (cap : Nat), v = .slice a l.length cap ∧ (l.length ≤ 9223372036854775807 ∧ l.length ≤ cap) ∧ ∀ i x, l[i]? = some x → ∃ b off, a = some ⟨b, off, none⟩ ∧ PairAt w b (off + i * 2) x

theorem IsPairs.grew {w w' : World} {v : Value} {l : List (Int × Int)} (h : IsPairs w v l) (hg : Grew w w') : IsPairs w' v l := by
  obtain ⟨a, cap, h1, h2, h3⟩ := h
  refine ⟨a, cap, h1, h2, fun i x hx => ?_⟩
  obtain ⟨b, off, h4, h5⟩ := h3 i x hx
  exact ⟨b, off, h4, h5.grew h5.lt hg⟩

/-- Letters as a value. -/
def IsLt (w : World) (v : Value) (L : Lt) : Prop := ∃ s, v = .agg #[.int .i64 L.n, s] ∧ IsPairs w s L.ps

theorem IsLt.grew {w w' : World} {v : Value} {L : Lt} (h : IsLt w v L) (hg : Grew w w') : IsLt w' v L := let ⟨s, h1, h2⟩ := h; ⟨s, h1, h2.grew hg⟩

theorem IsLt.small {w : World} {v : Value} {L : Lt} (h : IsLt w v L) : L.ps.length ≤ 9223372036854775807 := let ⟨_, _, _, _, _, h, _⟩ := h; h.1

/-- between. -/
theorem between_any (l n h : Int) (w : World) : Calls Try.prog 61 #[.int .i64 l, .int .i64 n, .int .i64 h] w fun e w' => e = .returned (.bool (decide (l ≤ n) && decide (n ≤ h))) ∧ Grew w w' := by
  obtain ⟨p, hp⟩ : ∃ p, decide (l ≤ n) = p := ⟨_, rfl⟩
  obtain ⟨q, hq⟩ : ∃ q, decide (n ≤ h) = q := ⟨_, rfl⟩
  rw [hp, hq]
  have hg := grew_refl w
  cases p <;> cases q
  all_goals (
    go_enter Try.func61, Try.ntmps61
    go_wp2
    go_ret
    exact ⟨rfl, hg⟩)

set_option maxHeartbeats 1000000 in
theorem isL_any (v : Value) (L : Lt) (a : Int) (w : World) (hv : IsLt w v L) : Calls Try.prog 79 #[v, .int .i64 a] w fun e w' => e = .returned (.bool (isL L a)) ∧ Grew w w' := by
  obtain ⟨s, rfl, -⟩ := hv
  obtain ⟨n, ps⟩ := L
  simp only
  obtain ⟨W0, hW0, g0, k0, k1, hz⟩ := box2 w (.int .i64 n) s 24
  have hg := g0
  have he : isL ⟨n, ps⟩ a = (decide (0 ≤ a) && decide (a < n)) := by unfold isL; simp only; congr 1; rw [decide_eq_decide]; omega
  rw [he]
  obtain ⟨p, hp⟩ : ∃ p, decide (0 ≤ a) = p := ⟨_, rfl⟩
  obtain ⟨q, hq⟩ : ∃ q, decide (a < n) = q := ⟨_, rfl⟩
  rw [hp, hq]
  clear he
  cases p <;> cases q
  all_goals (
    go_enter Try.func79, Try.ntmps79
    go_wp2
    go_ret
    exact ⟨rfl, hg⟩)

end Go.Proofs.Ytddnpooffcjhnaa
