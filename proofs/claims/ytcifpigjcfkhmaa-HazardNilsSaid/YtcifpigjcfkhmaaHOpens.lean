/- What a statement's arguments are, opened: deeds that came in. -/
import Derived.Test.YtcifpigjcfkhmaaHPlay
import Derived.Lib.SmallJoins
import Derived.Deep.Slices
import Derived.Carry
namespace Go.Proofs.Ytcifpigjcfkhmaa
open Go Go.RowKit Go.ChangeShapes Go.WideShapes Go.ChangeAt Go.Lin Go.Lin.Hz

section
variable {H : Type} {enc : TypeId × Value → H} {P : Program} {w : World} {base : Nat} {held : Bool}

theorem four_of {l : List Value} (h : l.length = 4) : ∃ a b c d, l = [a, b, c, d] := by
  match l, h with
  | [a, b, c, d], _ => exact ⟨a, b, c, d, rfl⟩

/-- A slice of structs of four ints. -/
theorem deeds_of_trod {r : Reach} {b0 : Nat} {t e t3 : TypeId} {f0 f1 f2 f3 : Field} {v : Value} {d : DataW H} {p : List MemPlace} (ht : P.underlying t = some (.slice e)) (he : P.underlying e = some (.struct #[f0, f1, f2, f3])) (hone : Go.Deep.oneCellFields P #[f0, f1, f2, f3] = true) (hC : P.cellsOf e = 4)
    (e0 : f0.type = t3) (e1 : f1.type = t3) (e2 : f2.type = t3) (e3 : f3.type = t3) (h3 : P.underlying t3 = some (.int .i64))
    (hv : Value.okWide P w r b0 t v) (h : DataW.Trod enc P w base (fun _ => true) held t v d p) : ∃ l, IsDeeds w v l := by
  obtain ⟨fuel, h⟩ := h
  obtain ⟨sa, sl, sc, rfl⟩ : ∃ sa sl sc, v = .slice sa sl sc := okWide_slice ht hv
  rcases Go.Deep.open_slice ht h with ⟨hcs, _⟩ | ⟨a, len, cap, m, n, D, Pl, hcs, _, hl, hm, hmm, _, hi⟩
  · simp [Value.cells] at hcs
    obtain ⟨rfl, rfl, rfl⟩ := hcs
    exact ⟨[], none, 0, rfl, by simp, fun i x hx => by simp at hx⟩
  · simp [Value.cells] at hcs
    obtain ⟨rfl, rfl, rfl⟩ := hcs
    simp only [if_true] at hmm
    subst hmm
    have key : ∀ i, i < sl → ∃ x : Dd, w.cell? (a.add (i * 4)) = some (.int .i64 x.d) ∧ w.cell? (a.add (i * 4 + 1)) = some (.int .i64 x.a) ∧ w.cell? (a.add (i * 4 + 2)) = some (.int .i64 x.b) ∧ w.cell? (a.add (i * 4 + 3)) = some (.int .i64 x.c) := by
      intro i his
      obtain ⟨cs', hc, ht'⟩ := hi i (by omega)
      rw [hC] at hc
      obtain ⟨_, hcl, hat⟩ := World.cells?_some hc
      obtain ⟨c0, c1, c2, c3, rfl⟩ := four_of hcl
      obtain ⟨y0, y1, y2, y3, n', _, _, g0, g1, g2, g3⟩ := Joins.trod_struct4 he ht'
      obtain ⟨o0, k0⟩ := Go.Deep.hone_of hone 0 f0 rfl
      obtain ⟨o1, k1⟩ := Go.Deep.hone_of hone 1 f1 rfl
      obtain ⟨o2, k2⟩ := Go.Deep.hone_of hone 2 f2 rfl
      obtain ⟨o3, k3⟩ := Go.Deep.hone_of hone 3 f3 rfl
      rw [o0, k0, e0] at g0; rw [o1, k1, e1] at g1; rw [o2, k2, e2] at g2; rw [o3, k3, e3] at g3
      obtain ⟨z0, q0, _⟩ := DataW.trod_int h3 g0
      obtain ⟨z1, q1, _⟩ := DataW.trod_int h3 g1
      obtain ⟨z2, q2, _⟩ := DataW.trod_int h3 g2
      obtain ⟨z3, q3, _⟩ := DataW.trod_int h3 g3
      simp at q0 q1 q2 q3
      subst q0 q1 q2 q3
      have t0 := hat 0 (by omega)
      have t1 := hat 1 (by omega)
      have t2 := hat 2 (by omega)
      have t3 := hat 3 (by omega)
      rw [Go.Deep.add_add] at t0 t1 t2 t3
      exact ⟨⟨z0, z1, z2, z3⟩, by simpa using t0, by simpa using t1, by simpa using t2, by simpa using t3⟩
    obtain ⟨F, hF⟩ := Go.Deep.choose_lt key
    refine ⟨(List.range sl).map F, some a, _, by simp; rfl, by simp; unfold maxLen at hm; omega, fun i x hx => ?_⟩
    have his : i < sl := by have := (List.getElem?_eq_some_iff.1 hx).1; simpa using this
    simp only [List.getElem?_map, List.getElem?_range his, Option.map_some, Option.some.injEq] at hx
    subst hx
    obtain ⟨r0, r1, r2, r3⟩ := hF i his
    have hs : a.spot = none := by simpa [Addr.add] using World.cell?_spot (hF 0 (by omega)).1
    obtain ⟨b, off, sp⟩ := a
    simp only at hs
    subst hs
    rw [Addr.add_lit] at r0 r1 r2 r3
    refine ⟨b, off, rfl, World.block_lt_of_cell? w _ r0, r0, ?_, ?_, ?_⟩
    · rw [show off + i * 4 + 1 = off + (i * 4 + 1) by omega]; exact r1
    · rw [show off + i * 4 + 2 = off + (i * 4 + 2) by omega]; exact r2
    · rw [show off + i * 4 + 3 = off + (i * 4 + 3) by omega]; exact r3

/-- The post of a row that says 'true, and the input reads as it did', of a call that only lays new blocks. -/
theorem post_seen {f : Func} {s : ChangeSpec} {apart fresh handsOn : Bool} {W W' : World} {args : Array Value} {v : Value} {ds gs : List (DataW H)} {before pa pv : List MemPlace}
    (hW : DataW.Whole enc P f.params.toList s.vars apart W args.toList ds gs before)
    (hres : ∀ (b : Nat) (sp : Nat → Bool) (hd : Bool), DataW.TrodAll enc P W' b sp hd f.resultTypes.toList (v.resultList f.resultTypes.size) (s.fn H (ds ++ gs)).results [])
    (hargs : DataW.TrodAll enc P W' 0 (fun b => decide (b < W.heap.size)) true f.params.toList args.toList (s.fn H (ds ++ gs)).args pa)
    (hvars : DataW.TrodVars enc P W' (fun b => decide (b < W.heap.size)) s.vars (s.fn H (ds ++ gs)).vars pv)
    (hb : Below W.heap.size W W') : s.post enc P f apart fresh handsOn false W args v W' :=
  ⟨ds, gs, before, [], pa, pv, hW, hres _ _ _, hargs, hvars, hb.frame _, fun h => by cases h⟩
end

theorem Try.laidOut : laidOutB Try.prog = true := by kernel_rfl
theorem Try.own5 : ownKnob Try.prog.godebug = none := by kernel_rfl
theorem Try.read_deeds : Try.prog.readableRec 22 = true := by kernel_rfl

set_option maxRecDepth 100000 in
theorem deedsIn {H : Type} {enc : TypeId × Value → H} {w : World} {base : Nat} {held : Bool} {r : Reach} {b0 : Nat} {v : Value} {d : DataW H} {p : List MemPlace}
    (hv : Value.okWide Try.prog w r b0 22 v) (h : DataW.Trod enc Try.prog w base (fun _ => true) held 22 v d p) : ∃ l, IsDeeds w v l :=
  deeds_of_trod Try.underlying22 Try.underlying32 (by kernel_rfl) (by kernel_rfl) rfl rfl rfl rfl Try.underlying3 hv h

end Go.Proofs.Ytcifpigjcfkhmaa
