/- What a statement's arguments are, opened: graphs and lists that came in. -/
import Derived.Test.YtojkohpniokaaaaPgW
import Derived.Test.YtojkohpniokaaaaPgG
import Derived.Lib.SmallJoins
import Derived.Deep.Slices
import Derived.Carry
import Derived.OpenShut
import Derived.ChangeSame
namespace Go.Proofs.Ytojkohpniokaaaa
open Go Go.RowKit Go.ChangeShapes Go.WideShapes Go.ChangeAt Go.Lin Go.Lin.Pg

section
variable {H : Type} {enc : TypeId × Value → H} {P : Program} {w : World} {base : Nat} {held : Bool}

theorem two_of {l : List Value} (h : l.length = 2) : ∃ a b, l = [a, b] := by
  match l, h with
  | [a, b], _ => exact ⟨a, b, rfl⟩

theorem four_of {l : List Value} (h : l.length = 4) : ∃ a b c d, l = [a, b, c, d] := by
  match l, h with
  | [a, b, c, d], _ => exact ⟨a, b, c, d, rfl⟩

/-- A slice of structs of three ints and a bool. -/
theorem mvs_of_cells {t e t3 t4 : TypeId} {f0 f1 f2 f3 : Field} {v : Value} {fuel : Nat} {x : DataW H × List MemPlace} (ht : P.underlying t = some (.slice e)) (he : P.underlying e = some (.struct #[f0, f1, f2, f3])) (hone : Go.Deep.oneCellFields P #[f0, f1, f2, f3] = true) (hC : P.cellsOf e = 4)
    (e0 : f0.type = t3) (e1 : f1.type = t3) (e2 : f2.type = t3) (e3 : f3.type = t4) (h3 : P.underlying t3 = some (.int .i64)) (h4 : P.underlying t4 = some .bool)
    (h : DataW.trod enc P w base (fun _ => true) held fuel t [v] = some x) : ∃ l, IsMvs w v l := by
  rcases Go.Deep.open_slice ht h with ⟨hcs, _⟩ | ⟨a, sl, cap, m, n, D, Pl, hcs, _, hl, hm, hmm, _, hi⟩
  · simp at hcs
    subst hcs
    exact ⟨[], none, 0, rfl, by simp, fun i x hx => by simp at hx⟩
  · simp at hcs
    subst hcs
    simp only [if_true] at hmm
    subst hmm
    have key : ∀ i, i < sl → ∃ x : Mv, w.cell? (a.add (i * 4)) = some (.int .i64 x.1) ∧ w.cell? (a.add (i * 4 + 1)) = some (.int .i64 x.2.1) ∧ w.cell? (a.add (i * 4 + 2)) = some (.int .i64 x.2.2.1) ∧ w.cell? (a.add (i * 4 + 3)) = some (.bool x.2.2.2) := by
      intro i his
      obtain ⟨cs', hc, ht'⟩ := hi i (by omega)
      rw [hC] at hc
      obtain ⟨_, hcl, hat⟩ := World.cells?_some hc
      obtain ⟨c0, c1, c2, c3, rfl⟩ := four_of hcl
      obtain ⟨y0, y1, y2, y3, n', _, _, g0, g1, g2, g3⟩ := Joins.trod_struct4 he ht'
      obtain ⟨o0, k0⟩ := Go.Deep.hone_of hone 0 f0 rfl
      obtain ⟨o1, k1⟩ := Go.Deep.hone_of hone 1 f1 rfl
      obtain ⟨o2, k2⟩ := Go.Deep.hone_of hone 2 f2 rfl
      obtain ⟨o3, k3⟩ := Go.Deep.hone_of hone 3 f3 rfl
      rw [o0, k0, e0] at g0; rw [o1, k1, e1] at g1; rw [o2, k2, e2] at g2; rw [o3, k3, e3] at g3
      obtain ⟨z0, q0, _⟩ := DataW.trod_int h3 g0
      obtain ⟨z1, q1, _⟩ := DataW.trod_int h3 g1
      obtain ⟨z2, q2, _⟩ := DataW.trod_int h3 g2
      obtain ⟨z3, q3, _⟩ := DataW.trod_bool h4 g3
      simp at q0 q1 q2 q3
      subst q0 q1 q2 q3
      have t0 := hat 0 (by omega)
      have t1 := hat 1 (by omega)
      have t2 := hat 2 (by omega)
      have t3 := hat 3 (by omega)
      rw [Go.Deep.add_add] at t0 t1 t2 t3
      exact ⟨(z0, z1, z2, z3), by simpa using t0, by simpa using t1, by simpa using t2, by simpa using t3⟩
    obtain ⟨F, hF⟩ := Go.Deep.choose_lt key
    refine ⟨(List.range sl).map F, some a, _, by simp; rfl, ⟨by simp; unfold maxLen at hm; omega, by simpa using hl⟩, fun i x hx => ?_⟩
    have his : i < sl := by have := (List.getElem?_eq_some_iff.1 hx).1; simpa using this
    simp only [List.getElem?_map, List.getElem?_range his, Option.map_some, Option.some.injEq] at hx
    subst hx
    obtain ⟨r0, r1, r2, r3⟩ := hF i his
    have hs : a.spot = none := by simpa [Addr.add] using World.cell?_spot (hF 0 (by omega)).1
    obtain ⟨b, off, sp⟩ := a
    simp only at hs
    subst hs
    rw [Addr.add_lit] at r0 r1 r2 r3
    refine ⟨b, off, rfl, World.block_lt_of_cell? w _ r0, r0, ?_, ?_, ?_⟩
    · rw [show off + i * 4 + 1 = off + (i * 4 + 1) by omega]; exact r1
    · rw [show off + i * 4 + 2 = off + (i * 4 + 2) by omega]; exact r2
    · rw [show off + i * 4 + 3 = off + (i * 4 + 3) by omega]; exact r3

/-- A word that came in. -/
theorem word_of_trod {r : Reach} {b0 : Nat} {t e : TypeId} {v : Value} {d : DataW H} {p : List MemPlace} (ht : P.underlying t = some (.slice e)) (he : P.underlying e = some (.int .i64)) (hc : P.cellsOf e = 1)
    (hv : Value.okWide P w r b0 t v) (h : DataW.Trod enc P w base (fun _ => true) held t v d p) : ∃ xs, IsWd w v xs := by
  obtain ⟨fuel, h⟩ := h
  rcases open_ints ht he hc h with ⟨hcs, _⟩ | ⟨a, len, cap, zs, hcs, _, hl, hm, hz, _, hcells, _⟩
  · obtain ⟨sa, sl, sc, rfl⟩ : ∃ sa sl sc, v = .slice sa sl sc := okWide_slice ht hv
    simp [Value.cells] at hcs
    obtain ⟨rfl, rfl, rfl⟩ := hcs
    exact ⟨[], wd_nil _⟩
  · obtain ⟨sa, sl, sc, rfl⟩ : ∃ sa sl sc, v = .slice sa sl sc := okWide_slice ht hv
    simp [Value.cells] at hcs
    obtain ⟨rfl, rfl, rfl⟩ := hcs
    simp only [if_true] at hz
    have hlen : (zs.take sl).length = sl := by rw [List.length_take, hz]; omega
    refine ⟨zs.take sl, some a, sc, by rw [hlen], by rw [hlen]; exact hl, some a, sc, by rw [hlen], by rw [hlen]; unfold maxLen at hm; omega, fun i hi => ?_⟩
    rw [hlen] at hi
    have h0 := hcells 0 (by omega)
    have hs : a.spot = none := by simpa [Addr.add] using World.cell?_spot h0
    obtain ⟨b, off, sp⟩ := a
    simp only at hs
    subst hs
    have hi2 := hcells i (by omega)
    rw [Addr.add_lit] at hi2
    have hb := World.block_lt_of_cell? w _ hi2
    refine ⟨b, off, _, rfl, Array.getElem?_eq_getElem hb, trivial, ?_⟩
    have hn : nth (zs.take sl) i = zs.getD i 0 := by
      rw [nth_lt (by rw [hlen]; exact hi)]
      have hz2 : i < zs.length := by omega
      simp [List.getD, List.getElem?_eq_getElem hz2]
    show w.cell? ⟨b, off + i, none⟩ = some (.int .i64 (nth (zs.take sl) i))
    rw [hi2, hn]

/-- The post of a row that says 'true, and the input reads as it did', of a call that only lays new blocks. -/
theorem post_seen {f : Func} {s : ChangeSpec} {apart fresh handsOn : Bool} {W W' : World} {args : Array Value} {v : Value} {ds gs : List (DataW H)} {before pa pv : List MemPlace}
    (hW : DataW.Whole enc P f.params.toList s.vars apart W args.toList ds gs before)
    (hres : ∀ (b : Nat) (sp : Nat → Bool) (hd : Bool), DataW.TrodAll enc P W' b sp hd f.resultTypes.toList (v.resultList f.resultTypes.size) (s.fn H (ds ++ gs)).results [])
    (hargs : DataW.TrodAll enc P W' 0 (fun b => decide (b < W.heap.size)) true f.params.toList args.toList (s.fn H (ds ++ gs)).args pa)
    (hvars : DataW.TrodVars enc P W' (fun b => decide (b < W.heap.size)) s.vars (s.fn H (ds ++ gs)).vars pv)
    (hb : Below W.heap.size W W') : s.post enc P f apart fresh handsOn false W args v W' :=
  ⟨ds, gs, before, [], pa, pv, hW, hres _ _ _, hargs, hvars, hb.frame _, fun h => by cases h⟩
end

theorem Try.own5 : ownKnob Try.prog.godebug = none := by kernel_rfl
theorem Try.read_gr : Try.prog.readableRec 24 = true := by kernel_rfl
theorem Try.read_ints : Try.prog.readableRec 25 = true := by kernel_rfl

set_option maxRecDepth 100000 in
theorem intsIn {H : Type} {enc : TypeId × Value → H} {w : World} {base : Nat} {held : Bool} {r : Reach} {b0 : Nat} {v : Value} {d : DataW H} {p : List MemPlace}
    (hv : Value.okWide Try.prog w r b0 25 v) (h : DataW.Trod enc Try.prog w base (fun _ => true) held 25 v d p) : ∃ l, IsWd w v l :=
  word_of_trod Try.underlying25 Try.underlying3 (by kernel_rfl) hv h

set_option maxRecDepth 100000 in
theorem grIn {H : Type} {enc : TypeId × Value → H} {w : World} {base : Nat} {held : Bool} {r : Reach} {b0 : Nat} {v : Value} {d : DataW H} {p : List MemPlace}
    (hv : Value.okWide Try.prog w r b0 24 v) (h : DataW.Trod enc Try.prog w base (fun _ => true) held 24 v d p) : ∃ g : Gr, IsGr w v g ∧ (-9223372036854775808 ≤ g.n ∧ g.n ≤ 9223372036854775807) := by
  obtain ⟨cs, rfl, hsz⟩ := okWide_struct Try.underlying24 hv
  obtain ⟨c0, c1, hcs⟩ := two_of (l := cs.toList) (by rw [Array.length_toList]; exact hsz.trans (show Try.prog.cellsOf 24 = 2 by kernel_rfl))
  obtain rfl : cs = #[c0, c1] := by rw [← Array.toArray_toList (xs := cs), hcs]
  obtain ⟨fuel, hf⟩ := h
  obtain ⟨y0, y1, n, _, _, g0, g1⟩ := trod_struct2 Try.underlying24 hf
  have o22 : Try.prog.cellsOf 22 = 1 := by kernel_rfl
  have o3 : Try.prog.cellsOf 3 = 1 := by kernel_rfl
  simp only [o22, o3, Value.cells] at g0 g1
  obtain ⟨z0, q0, _, hwf⟩ := DataW.trod_int Try.underlying3 g0
  simp at q0
  subst q0
  obtain ⟨l, hl⟩ := mvs_of_cells Try.underlying22 Try.underlying50 (by kernel_rfl) (by kernel_rfl) rfl rfl rfl rfl Try.underlying3 Try.underlying4 (v := c1) (by simpa using g1)
  refine ⟨⟨z0, l⟩, ⟨c1, rfl, hl⟩, ?_⟩
  simp [Lit.wf, IntKind.min, IntKind.max, IntKind.signed, IntKind.bits] at hwf
  exact hwf

end Go.Proofs.Ytojkohpniokaaaa
