/- What a statement's arguments are, opened: deeds, three numbers. -/
import Derived.Test.YtmohnddglmolgaaGreatDoorKpCounts
import Derived.Test.YtmohnddglmolgaaGreatDoorKpRowB
import Derived.Lib.SmallJoins
import Derived.Deep.Slices
import Derived.Carry
import Derived.ChangeSame
namespace Go.Proofs.YtmohnddglmolgaaGreatDoor
open Go Go.RowKit Go.ChangeShapes Go.WideShapes Go.ChangeAt Go.Lin Go.Lin.Kp

section
variable {H : Type} {enc : TypeId × Value → H} {P : Program} {w : World} {base : Nat} {held : Bool}

theorem okWide_array {t e : TypeId} {n : Nat} {r : Reach} {b0 : Nat} {v : Value} (ht : P.underlying t = some (.array n e)) (h : Value.okWide P w r b0 t v) : ∃ cs, v = .agg cs ∧ cs.size = P.cellsOf t := by
  unfold Value.okWide at h
  rw [ht] at h
  obtain ⟨cs, h1, h2, _⟩ := h
  exact ⟨cs, h1, h2⟩

theorem two_of {l : List Value} (h : l.length = 2) : ∃ a b, l = [a, b] := by
  match l, h with
  | [a, b], _ => exact ⟨a, b, rfl⟩

/-- A slice of structs of two ints. -/
theorem deeds_of_cells {t e t3 : TypeId} {f0 f1 : Field} {v : Value} {fuel : Nat} {x : DataW H × List MemPlace} (ht : P.underlying t = some (.slice e)) (he : P.underlying e = some (.struct #[f0, f1])) (hone : Go.Deep.oneCellFields P #[f0, f1] = true) (hC : P.cellsOf e = 2)
    (e0 : f0.type = t3) (e1 : f1.type = t3) (h3 : P.underlying t3 = some (.int .i64))
    (h : DataW.trod enc P w base (fun _ => true) held fuel t [v] = some x) : ∃ l, IsDeeds w v l := by
  rcases Go.Deep.open_slice ht h with ⟨hcs, _⟩ | ⟨a, len, cap, m, n, D, Pl, hcs, _, hl, hm, hmm, _, hi⟩
  · simp at hcs
    subst hcs
    exact ⟨[], none, 0, rfl, by simp, fun i x hx => by simp at hx⟩
  · simp at hcs
    subst hcs
    simp only [if_true] at hmm
    subst hmm
    have key : ∀ i, i < len → ∃ x : Int × Int, w.cell? (a.add (i * 2)) = some (.int .i64 x.1) ∧ w.cell? (a.add (i * 2 + 1)) = some (.int .i64 x.2) := by
      intro i his
      obtain ⟨cs', hc, ht'⟩ := hi i (by omega)
      rw [hC] at hc
      obtain ⟨_, hcl, hat⟩ := World.cells?_some hc
      obtain ⟨c0, c1, rfl⟩ := two_of hcl
      obtain ⟨y0, y1, n', _, _, g0, g1⟩ := trod_struct2 he ht'
      obtain ⟨o0, k0⟩ := Go.Deep.hone_of hone 0 f0 rfl
      obtain ⟨o1, k1⟩ := Go.Deep.hone_of hone 1 f1 rfl
      rw [o0, k0, e0] at g0; rw [o1, k1, e1] at g1
      obtain ⟨z0, q0, _⟩ := DataW.trod_int h3 g0
      obtain ⟨z1, q1, _⟩ := DataW.trod_int h3 g1
      simp at q0 q1
      subst q0 q1
      have t0 := hat 0 (by omega)
      have t1 := hat 1 (by omega)
      rw [Go.Deep.add_add] at t0 t1
      exact ⟨⟨z0, z1⟩, by simpa using t0, by simpa using t1⟩
    obtain ⟨F, hF⟩ := Go.Deep.choose_lt key
    refine ⟨(List.range len).map F, some a, _, by simp; rfl, by simp; unfold maxLen at hm; omega, fun i x hx => ?_⟩
    have his : i < len := by have := (List.getElem?_eq_some_iff.1 hx).1; simpa using this
    simp only [List.getElem?_map, List.getElem?_range his, Option.map_some, Option.some.injEq] at hx
    subst hx
    obtain ⟨r0, r1⟩ := hF i his
    have hs : a.spot = none := by simpa [Addr.add] using World.cell?_spot (hF 0 (by omega)).1
    obtain ⟨b, off, sp⟩ := a
    simp only at hs
    subst hs
    rw [Addr.add_lit] at r0 r1
    exact ⟨b, off, rfl, World.block_lt_of_cell? w _ r0, r0, r1⟩

/-- The post of a row that says 'true, and the input reads as it did', of a call that only lays new blocks. -/
theorem post_seen {f : Func} {s : ChangeSpec} {apart fresh handsOn : Bool} {W W' : World} {args : Array Value} {v : Value} {ds gs : List (DataW H)} {before pa pv : List MemPlace}
    (hW : DataW.Whole enc P f.params.toList s.vars apart W args.toList ds gs before)
    (hres : ∀ (b : Nat) (sp : Nat → Bool) (hd : Bool), DataW.TrodAll enc P W' b sp hd f.resultTypes.toList (v.resultList f.resultTypes.size) (s.fn H (ds ++ gs)).results [])
    (hargs : DataW.TrodAll enc P W' 0 (fun b => decide (b < W.heap.size)) true f.params.toList args.toList (s.fn H (ds ++ gs)).args pa)
    (hvars : DataW.TrodVars enc P W' (fun b => decide (b < W.heap.size)) s.vars (s.fn H (ds ++ gs)).vars pv)
    (hb : Below W.heap.size W W') : s.post enc P f apart fresh handsOn false W args v W' :=
  ⟨ds, gs, before, [], pa, pv, hW, hres _ _ _, hargs, hvars, hb.frame _, fun h => by cases h⟩
end

theorem Tryz.laidOut : laidOutB Tryz.prog = true := by kernel_rfl
theorem Tryz.read_deeds : Tryz.prog.readableRec 30 = true := by kernel_rfl
theorem Tryz.read_note : Tryz.prog.readableRec 54 = true := by kernel_rfl

set_option maxRecDepth 100000 in
theorem deedsIn {H : Type} {enc : TypeId × Value → H} {w : World} {base : Nat} {held : Bool} {r : Reach} {b0 : Nat} {v : Value} {d : DataW H} {p : List MemPlace}
    (hv : Value.okWide Tryz.prog w r b0 30 v) (h : DataW.Trod enc Tryz.prog w base (fun _ => true) held 30 v d p) : ∃ ds, IsDeeds w v ds := by
  obtain ⟨a, len, cap, rfl⟩ := okWide_slice Tryz.underlying30 hv
  obtain ⟨fuel, hf⟩ := h
  have hf2 : DataW.trod enc Tryz.prog w base (fun _ => true) held fuel 30 [.slice a len cap] = some (d, p) := hf
  exact deeds_of_cells Tryz.underlying30 Tryz.underlying49 (by kernel_rfl) (by kernel_rfl) rfl rfl Tryz.underlying3 hf2

theorem bounds_u16 {z : Int} (h : (Lit.int .u16 z).wf = true) : 0 ≤ z ∧ z ≤ 65535 := by
  simp [Lit.wf, IntKind.min, IntKind.max, IntKind.signed, IntKind.bits] at h
  exact h

set_option maxRecDepth 100000 in
theorem noteIn {H : Type} {enc : TypeId × Value → H} {w : World} {base : Nat} {held : Bool} {r : Reach} {b0 : Nat} {v : Value} {d : DataW H} {p : List MemPlace}
    (hv : Value.okWide Tryz.prog w r b0 54 v) (h : DataW.Trod enc Tryz.prog w base (fun _ => true) held 54 v d p) : ∃ x0 x1 x2 : Int, v = .agg #[.int .u16 x0, .int .u16 x1, .int .u16 x2] ∧ (0 ≤ x0 ∧ x0 ≤ 65535) ∧ (0 ≤ x1 ∧ x1 ≤ 65535) ∧ (0 ≤ x2 ∧ x2 ≤ 65535) := by
  obtain ⟨cs, rfl, hsz⟩ := okWide_array Tryz.underlying54 hv
  obtain ⟨c0, c1, c2, rfl⟩ := Joins.array3 (hsz.trans (show Tryz.prog.cellsOf 54 = 3 by kernel_rfl))
  obtain ⟨fuel, hf⟩ := h
  obtain ⟨xs, m, _, _, _, hl, hel⟩ := DataW.trod_array Tryz.underlying54 hf
  have c5 : Tryz.prog.cellsOf 53 = 1 := by kernel_rfl
  have e0 := hel 0 (by omega)
  have e1 := hel 1 (by omega)
  have e2 := hel 2 (by omega)
  rw [c5, List.getElem?_eq_getElem (by omega)] at e0 e1 e2
  obtain ⟨z0, q0, _, w0⟩ := DataW.trod_int Tryz.underlying53 e0
  obtain ⟨z1, q1, _, w1⟩ := DataW.trod_int Tryz.underlying53 e1
  obtain ⟨z2, q2, _, w2⟩ := DataW.trod_int Tryz.underlying53 e2
  simp [Value.cells] at q0 q1 q2
  subst q0 q1 q2
  exact ⟨z0, z1, z2, rfl, bounds_u16 w0, bounds_u16 w1, bounds_u16 w2⟩

end Go.Proofs.YtmohnddglmolgaaGreatDoor
