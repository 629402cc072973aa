/- What the statements' other arguments are, opened: deeds with numbers, a deed. -/
import Derived.Test.YtcifpigjcfkhmaaHOpens
import Derived.OpenShut
import Derived.ChangeSame
namespace Go.Proofs.Ytcifpigjcfkhmaa
open Go Go.RowKit Go.ChangeShapes Go.WideShapes Go.ChangeAt Go.Lin Go.Lin.Hz

section
variable {H : Type} {enc : TypeId × Value → H} {P : Program} {w : World} {base : Nat} {held : Bool}

/-- A slice of structs of four ints, as a cell. -/
theorem deeds_of_cells {t e t3 : TypeId} {f0 f1 f2 f3 : Field} {v : Value} {fuel : Nat} {x : DataW H × List MemPlace} (ht : P.underlying t = some (.slice e)) (he : P.underlying e = some (.struct #[f0, f1, f2, f3])) (hone : Go.Deep.oneCellFields P #[f0, f1, f2, f3] = true) (hC : P.cellsOf e = 4)
    (e0 : f0.type = t3) (e1 : f1.type = t3) (e2 : f2.type = t3) (e3 : f3.type = t3) (h3 : P.underlying t3 = some (.int .i64))
    (h : DataW.trod enc P w base (fun _ => true) held fuel t [v] = some x) : ∃ l, IsDeeds w v l := by
  rcases Go.Deep.open_slice ht h with ⟨hcs, _⟩ | ⟨a, len, cap, m, n, D, Pl, hcs, _, hl, hm, hmm, _, hi⟩
  · simp at hcs
    subst hcs
    exact ⟨[], none, 0, rfl, by simp, fun i x hx => by simp at hx⟩
  · simp at hcs
    subst hcs
    simp only [if_true] at hmm
    subst hmm
    have key : ∀ i, i < len → ∃ x : Dd, w.cell? (a.add (i * 4)) = some (.int .i64 x.d) ∧ w.cell? (a.add (i * 4 + 1)) = some (.int .i64 x.a) ∧ w.cell? (a.add (i * 4 + 2)) = some (.int .i64 x.b) ∧ w.cell? (a.add (i * 4 + 3)) = some (.int .i64 x.c) := by
      intro i his
      obtain ⟨cs', hc, ht'⟩ := hi i (by omega)
      rw [hC] at hc
      obtain ⟨_, hcl, hat⟩ := World.cells?_some hc
      obtain ⟨c0, c1, c2, c3, rfl⟩ := four_of hcl
      obtain ⟨y0, y1, y2, y3, n', _, _, g0, g1, g2, g3⟩ := Joins.trod_struct4 he ht'
      obtain ⟨o0, k0⟩ := Go.Deep.hone_of hone 0 f0 rfl
      obtain ⟨o1, k1⟩ := Go.Deep.hone_of hone 1 f1 rfl
      obtain ⟨o2, k2⟩ := Go.Deep.hone_of hone 2 f2 rfl
      obtain ⟨o3, k3⟩ := Go.Deep.hone_of hone 3 f3 rfl
      rw [o0, k0, e0] at g0; rw [o1, k1, e1] at g1; rw [o2, k2, e2] at g2; rw [o3, k3, e3] at g3
      obtain ⟨z0, q0, _⟩ := DataW.trod_int h3 g0
      obtain ⟨z1, q1, _⟩ := DataW.trod_int h3 g1
      obtain ⟨z2, q2, _⟩ := DataW.trod_int h3 g2
      obtain ⟨z3, q3, _⟩ := DataW.trod_int h3 g3
      simp at q0 q1 q2 q3
      subst q0 q1 q2 q3
      have t0 := hat 0 (by omega)
      have t1 := hat 1 (by omega)
      have t2 := hat 2 (by omega)
      have t3 := hat 3 (by omega)
      rw [Go.Deep.add_add] at t0 t1 t2 t3
      exact ⟨⟨z0, z1, z2, z3⟩, by simpa using t0, by simpa using t1, by simpa using t2, by simpa using t3⟩
    obtain ⟨F, hF⟩ := Go.Deep.choose_lt key
    refine ⟨(List.range len).map F, some a, _, by simp; rfl, by simp; unfold maxLen at hm; omega, fun i x hx => ?_⟩
    have his : i < len := by have := (List.getElem?_eq_some_iff.1 hx).1; simpa using this
    simp only [List.getElem?_map, List.getElem?_range his, Option.map_some, Option.some.injEq] at hx
    subst hx
    obtain ⟨r0, r1, r2, r3⟩ := hF i his
    have hs : a.spot = none := by simpa [Addr.add] using World.cell?_spot (hF 0 (by omega)).1
    obtain ⟨b, off, sp⟩ := a
    simp only at hs
    subst hs
    rw [Addr.add_lit] at r0 r1 r2 r3
    refine ⟨b, off, rfl, World.block_lt_of_cell? w _ r0, r0, ?_, ?_, ?_⟩
    · rw [show off + i * 4 + 1 = off + (i * 4 + 1) by omega]; exact r1
    · rw [show off + i * 4 + 2 = off + (i * 4 + 2) by omega]; exact r2
    · rw [show off + i * 4 + 3 = off + (i * 4 + 3) by omega]; exact r3

end

/-- Deeds and three numbers. -/
def IsAsking (w : World) (v : Value) (m : List Dd × Int × Int × Int) : Prop := ∃ s, v = .agg #[s, .int .i64 m.2.1, .int .i64 m.2.2.1, .int .i64 m.2.2.2] ∧ IsDeeds w s m.1

set_option maxRecDepth 100000 in
theorem askingIn {H : Type} {enc : TypeId × Value → H} {w : World} {base : Nat} {held : Bool} {r : Reach} {b0 : Nat} {v : Value} {d : DataW H} {p : List MemPlace}
    (hv : Value.okWide Try.prog w r b0 51 v) (h : DataW.Trod enc Try.prog w base (fun _ => true) held 51 v d p) : ∃ m, IsAsking w v m := by
  obtain ⟨cs, rfl, hsz⟩ := okWide_struct Try.underlying51 hv
  obtain ⟨c0, c1, c2, c3, rfl⟩ := Joins.array4 (hsz.trans (show Try.prog.cellsOf 51 = 4 by kernel_rfl))
  obtain ⟨fuel, hf⟩ := h
  obtain ⟨y0, y1, n, _, _, g0, g1⟩ := trod_struct2 Try.underlying51 hf
  have o22 : Try.prog.cellsOf 22 = 1 := by kernel_rfl
  have o49 : Try.prog.cellsOf 49 = 3 := by kernel_rfl
  have o3 : Try.prog.cellsOf 3 = 1 := by kernel_rfl
  simp only [o22, o49, Value.cells] at g0 g1
  obtain ⟨l, hl⟩ := deeds_of_cells Try.underlying22 Try.underlying32 (by kernel_rfl) (by kernel_rfl) rfl rfl rfl rfl Try.underlying3 (v := c0) (by simpa using g0)
  obtain ⟨xs, m, _, _, _, hxl, hel⟩ := DataW.trod_array Try.underlying49 g1
  have e0 := hel 0 (by omega)
  have e1 := hel 1 (by omega)
  have e2 := hel 2 (by omega)
  rw [o3, List.getElem?_eq_getElem (by omega)] at e0 e1 e2
  obtain ⟨z0, q0, _⟩ := DataW.trod_int Try.underlying3 e0
  obtain ⟨z1, q1, _⟩ := DataW.trod_int Try.underlying3 e1
  obtain ⟨z2, q2, _⟩ := DataW.trod_int Try.underlying3 e2
  simp at q0 q1 q2
  subst q0 q1 q2
  exact ⟨(l, z0, z1, z2), c0, rfl, hl⟩

theorem Try.read_asking : Try.prog.readableRec 51 = true := by kernel_rfl

/-- A deed. -/
def IsDeed (v : Value) (x : Dd) : Prop := v = .agg #[.int .i64 x.d, .int .i64 x.a, .int .i64 x.b, .int .i64 x.c]

set_option maxRecDepth 100000 in
theorem deedIn {H : Type} {enc : TypeId × Value → H} {w : World} {base : Nat} {held : Bool} {r : Reach} {b0 : Nat} {v : Value} {d : DataW H} {p : List MemPlace}
    (hv : Value.okWide Try.prog w r b0 32 v) (h : DataW.Trod enc Try.prog w base (fun _ => true) held 32 v d p) : ∃ x, IsDeed v x := by
  obtain ⟨v0, v1, v2, v3, y0, y1, y2, y3, n, rfl, _, _, h0, h1, h2, h3⟩ := Joins.open_agg4 Try.underlying32 (by kernel_rfl) (by kernel_rfl) hv h
  obtain ⟨z0, q0, _⟩ := DataW.trod_int Try.underlying3 h0
  obtain ⟨z1, q1, _⟩ := DataW.trod_int Try.underlying3 h1
  obtain ⟨z2, q2, _⟩ := DataW.trod_int Try.underlying3 h2
  obtain ⟨z3, q3, _⟩ := DataW.trod_int Try.underlying3 h3
  simp at q0 q1 q2 q3
  subst q0 q1 q2 q3
  exact ⟨⟨z0, z1, z2, z3⟩, rfl⟩

theorem Try.read_deed : Try.prog.readableRec 32 = true := by kernel_rfl

end Go.Proofs.Ytcifpigjcfkhmaa
