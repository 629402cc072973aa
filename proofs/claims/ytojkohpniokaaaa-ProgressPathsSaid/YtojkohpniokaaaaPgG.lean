/- Graphs in memory; walks: between, the place of Valid, the reference's IsPlace, IsThread; the keys of the map of Valid. -/
import Derived.Test.YtojkohpniokaaaaPgR
import Derived.Test.YtojkohpniokaaaaRows
import Derived.Test.YtojkohpniokaaaaMaps
import Derived.DeepKeys4
import Derived.Laws.Rows
import Derived.Stop.BytesEq
namespace Go.Lin.Pg
open Go Go.RowKit

/-- A move in memory. -/
structure MvAt (w : World) (b o : Nat) (m : Mv) : Prop where
  lt : b < w.heap.size
  c0 : w.cell? ⟨b, o, none⟩ = some (.int .i64 m.1)
  c1 : w.cell? ⟨b, o + 1, none⟩ = some (.int .i64 m.2.1)
  c2 : w.cell? ⟨b, o + 2, none⟩ = some (.int .i64 m.2.2.1)
  c3 : w.cell? ⟨b, o + 3, none⟩ = some (.bool m.2.2.2)

theorem MvAt.grew {B : Nat} {w w' : World} {b o : Nat} {m : Mv} (h : MvAt w b o m) (hb : b < B) (hg : Below B w w') : MvAt w' b o m :=
  ⟨Nat.lt_of_lt_of_le h.lt hg.size, (hg.cell (p := ⟨b, o, none⟩) hb).trans h.c0, (hg.cell (p := ⟨b, o + 1, none⟩) hb).trans h.c1, (hg.cell (p := ⟨b, o + 2, none⟩) hb).trans h.c2, (hg.cell (p := ⟨b, o + 3, none⟩) hb).trans h.c3⟩

/-- A slice of moves. -/
def IsMvs (w : World) (v : Value) (ms : List Mv) : Prop :=
  ∃ (a : Option Addr) (cap : Nat), v = .slice a ms.length cap ∧ (ms.length ≤ 9223372036854775807 ∧ ms.length ≤ cap) ∧ ∀ i m, ms[i]? = some m → ∃ b off, a = some ⟨b, off, none⟩ ∧ MvAt w b (off + i * 4) m

theorem IsMvs.grew {w w' : World} {v : Value} {l : List Mv} (h : IsMvs w v l) (hg : Grew w w') : IsMvs w' v l := by
  obtain ⟨a, cap, h1, h2, h3⟩ := h
  refine ⟨a, cap, h1, h2, fun i x hx => ?_⟩
  obtain ⟨b, off, h4, h5⟩ := h3 i x hx
  exact ⟨b, off, h4, h5.grew h5.lt hg⟩

/-- A graph as it comes in. -/
def IsGr (w : World) (v : Value) (g : Gr) : Prop := ∃ s, v = .agg #[.int .i64 g.n, s] ∧ IsMvs w s g.ms

theorem IsGr.grew {w w' : World} {v : Value} {g : Gr} (h : IsGr w v g) (hg : Grew w w') : IsGr w' v g := let ⟨s, h1, h2⟩ := h; ⟨s, h1, h2.grew hg⟩

/-- A move as a value. -/
def encM (m : Mv) : Value := .agg #[.int .i64 m.1, .int .i64 m.2.1, .int .i64 m.2.2.1, .bool m.2.2.2]
theorem encM_inj (x y : Mv) (h : encM x = encM y) : x = y := by
  unfold encM at h
  simp at h
  obtain ⟨h1, h2, h3, h4⟩ := h
  exact Prod.ext h1 (Prod.ext h2 (Prod.ext h3 h4))

theorem mvsOk_drop {n : Int} {s ps : List Mv} {j : Nat} {x : Mv} (h : ps[j]? = some x) : mvsOk n s (ps.drop j) = (mvOk n x && !s.contains x && mvsOk n (s ++ [x]) (ps.drop (j + 1))) := by
  have : ps.drop j = x :: ps.drop (j + 1) := by
    obtain ⟨h1, h2⟩ := List.getElem?_eq_some_iff.1 h
    rw [← h2]
    exact List.drop_eq_getElem_cons h1
  rw [this]
  rfl

theorem take_add_getM {l : List Mv} {j : Nat} {x : Mv} (h : l[j]? = some x) : l.take (j + 1) = l.take j ++ [x] := by
  rw [List.take_add_one, h]; rfl
end Go.Lin.Pg
namespace Go.Proofs.Ytojkohpniokaaaa
open Go.RowKit Go.Lin Go.Lin.Pg Go.Maps

theorem Try.laidOut : laidOutB Try.prog = true := by kernel_rfl
theorem keyed50 : Keyed Try.prog 50 := Keyed.of_law (deep_law_laid Try.laidOut (m := 3) (by decide) (of_decide_eq_true (by kernel_rfl)) (by kernel_rfl) (by kernel_rfl))
theorem zero4 (w : World) : (zeroValue 4).run Try.prog w = .ok (.bool false) w := by kernel_rfl

theorem key50 (x : Mv) (k0 : (Lit.int .i64 x.1).wf = true) (k1 : (Lit.int .i64 x.2.1).wf = true) (k2 : (Lit.int .i64 x.2.2.1).wf = true) : ∃ l, keyOf Try.prog 50 (encM x) = some l := by
  have u50 := Try.underlying50
  have u3 := Try.underlying3
  have u4 := Try.underlying4
  have c50 : Try.prog.cellsOf 50 = 4 := by kernel_rfl
  have c3 : Try.prog.cellsOf 3 = 1 := by kernel_rfl
  have c4 : Try.prog.cellsOf 4 = 1 := by kernel_rfl
  have kt : Try.prog.keyType 50 = true := by kernel_rfl
  have hsz : ∃ m, Try.prog.types.size + 1 = m + 2 := ⟨Try.prog.types.size - 1, by have : 1 ≤ Try.prog.types.size := of_decide_eq_true (by kernel_rfl); omega⟩
  obtain ⟨m, hm⟩ := hsz
  have e0 : Try.prog.keyLits (m + 1) 3 [.int .i64 x.1] = some [.int .i64 x.1] := by
    unfold Program.keyLits; rw [u3]; simp only [k0, and_self, if_true]
  have e1 : Try.prog.keyLits (m + 1) 3 [.int .i64 x.2.1] = some [.int .i64 x.2.1] := by
    unfold Program.keyLits; rw [u3]; simp only [k1, and_self, if_true]
  have e2 : Try.prog.keyLits (m + 1) 3 [.int .i64 x.2.2.1] = some [.int .i64 x.2.2.1] := by
    unfold Program.keyLits; rw [u3]; simp only [k2, and_self, if_true]
  have e3 : Try.prog.keyLits (m + 1) 4 [.bool x.2.2.2] = some [.bool x.2.2.2] := by
    unfold Program.keyLits; rw [u4]
  have e4 : Try.prog.keyLits (m + 2) 50 [.int .i64 x.1, .int .i64 x.2.1, .int .i64 x.2.2.1, .bool x.2.2.2] = some [.int .i64 x.1, .int .i64 x.2.1, .int .i64 x.2.2.1, .bool x.2.2.2] := by
    unfold Program.keyLits; rw [u50]
    simp only [c50, List.length_cons, List.length_nil]
    rw [if_pos (by exact ⟨trivial, by kernel_rfl⟩)]
    simp only [List.mapM_cons, List.mapM_nil, List.drop_zero, List.drop_succ_cons, List.take_succ_cons, List.take_zero, c3, c4, e0, e1, e2, e3]
    rfl
  have hf : (encM x).formed Try.prog 50 = true := by
    unfold encM Value.formed; rw [u50]; simp only [c50]; rfl
  refine ⟨.string (keyBytes [.int .i64 x.1, .int .i64 x.2.1, .int .i64 x.2.2.1, .bool x.2.2.2]), ?_⟩
  unfold keyOf
  rw [u50]
  simp only [kt, hf, Bool.and_self, if_true, hm]
  unfold encM
  simp only [Value.cells]
  rw [e4]
  rfl

theorem between_any (l n h : Int) (w : World) : Calls Try.prog 63 #[.int .i64 l, .int .i64 n, .int .i64 h] w fun e w' => e = .returned (.bool (decide (l ≤ n) && decide (n ≤ h))) ∧ Grew w w' := by
  obtain ⟨p, hp⟩ : ∃ p, decide (l ≤ n) = p := ⟨_, rfl⟩
  obtain ⟨q, hq⟩ : ∃ q, decide (n ≤ h) = q := ⟨_, rfl⟩
  rw [hp, hq]
  have hg := grew_refl w
  cases p <;> cases q
  all_goals (
    go_enter Try.func63, Try.ntmps63
    go_wp2
    go_ret
    exact ⟨rfl, hg⟩)

/-- The place of Valid: k is the greatest place, as the machine counts. -/
theorem place84_any (b : Nat) (n z k : Int) (w : World) (hk : IntKind.i64.wrap (n - 1) = k) (h0 : w.cell? ⟨b, 0, none⟩ = some (.int .i64 n)) :
    Calls Try.prog 84 #[.int .i64 z, .pointer (some ⟨b, 0, none⟩)] w fun e w' => e = .returned (.bool (decide (0 ≤ z) && decide (z ≤ k))) ∧ Grew w w' := by
  have hb := World.block_lt_of_cell? w _ h0
  simp only at hb
  have HB := hid (between_any 0 z k w)
  go_enter Try.func84, Try.ntmps84
  go_wp2_with (go_at_call 63; (with_reducible refine HB.out.mono ?_); rintro e w1 ⟨rfl, hx⟩; have HX := hid hx; clear hx)
  go_ret
  exact ⟨rfl, HX.out⟩

theorem isTh_any (t : Int) (w : World) : Calls Try.prog 57 #[.int .i64 t] w fun e w' => e = .returned (.bool (isTh t)) ∧ Grew w w' := by
  obtain ⟨p, hp⟩ : ∃ p, decide (0 ≤ t) = p := ⟨_, rfl⟩
  obtain ⟨q, hq⟩ : ∃ q, decide (t < 3) = q := ⟨_, rfl⟩
  have hr : isTh t = (p && q) := by unfold isTh; rw [hp, show decide (t ≤ 2) = decide (t < 3) from decide_eq_decide.2 (by omega), hq]
  rw [hr]
  have hg := grew_refl w
  clear hr
  cases p <;> cases q
  all_goals (
    go_enter Try.func57, Try.ntmps57
    go_wp2
    go_ret
    exact ⟨rfl, hg⟩)

theorem isPl_any (v : Value) (g : Gr) (z : Int) (w : World) (hv : IsGr w v g) : Calls Try.prog 56 #[v, .int .i64 z] w fun e w' => e = .returned (.bool (isPl g.n z)) ∧ Grew w w' := by
  obtain ⟨s, rfl, -⟩ := hv
  obtain ⟨n, ms⟩ := g
  simp only
  obtain ⟨W0, hW0, g0, k0, k1, hz⟩ := box2 w (.int .i64 n) s 24
  obtain ⟨p, hp⟩ : ∃ p, decide (0 ≤ z) = p := ⟨_, rfl⟩
  obtain ⟨q, hq⟩ : ∃ q, decide (z < n) = q := ⟨_, rfl⟩
  have hr : isPl n z = (p && q) := by unfold isPl; rw [hp, show decide (z ≤ n - 1) = decide (z < n) from decide_eq_decide.2 (by omega), hq]
  rw [hr]
  clear hr
  cases p <;> cases q
  all_goals (
    go_enter Try.func56, Try.ntmps56
    go_wp2
    go_ret
    exact ⟨rfl, g0⟩)
end Go.Proofs.Ytojkohpniokaaaa
