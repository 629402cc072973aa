/- What a statement's arguments are, opened: bytes, deeds with losses, steps. -/
import Derived.Test.YtmohnddglmolgaaGreatDoorKpOpens
import Derived.Test.YtmohnddglmolgaaGreatDoorKpWide
namespace Go.Proofs.YtmohnddglmolgaaGreatDoor
open Go Go.RowKit Go.ChangeShapes Go.WideShapes Go.ChangeAt Go.Lin Go.Lin.Kp

instance : Inhabited Loss := ⟨⟨0, 0, [], 0, []⟩⟩

section
variable {H : Type} {enc : TypeId × Value → H} {P : Program} {w : World} {base : Nat} {held : Bool}

theorem trod_struct5 {spare : Nat → Bool} {t : TypeId} {f0 f1 f2 f3 f4 : Field} {fuel : Nat} {cs : List Value} {x : DataW H × List MemPlace} (ht : P.underlying t = some (.struct #[f0, f1, f2, f3, f4])) (h : DataW.trod enc P w base spare held fuel t cs = some x) :
    ∃ y0 y1 y2 y3 y4 n, cs.length = P.cellsOf t ∧ DataW.trod enc P w base spare held n f0.type ((cs.drop f0.offset).take (P.cellsOf f0.type)) = some y0 ∧
      DataW.trod enc P w base spare held n f1.type ((cs.drop f1.offset).take (P.cellsOf f1.type)) = some y1 ∧ DataW.trod enc P w base spare held n f2.type ((cs.drop f2.offset).take (P.cellsOf f2.type)) = some y2 ∧
      DataW.trod enc P w base spare held n f3.type ((cs.drop f3.offset).take (P.cellsOf f3.type)) = some y3 ∧ DataW.trod enc P w base spare held n f4.type ((cs.drop f4.offset).take (P.cellsOf f4.type)) = some y4 := by
  obtain ⟨xs, n, _, rfl, hl, hlen, hf⟩ := DataW.trod_struct ht h
  match xs, hlen with
  | [y0, y1, y2, y3, y4], _ => exact ⟨y0, y1, y2, y3, y4, n, hl, by simpa using hf 0 f0 rfl, by simpa using hf 1 f1 rfl, by simpa using hf 2 f2 rfl, by simpa using hf 3 f3 rfl, by simpa using hf 4 f4 rfl⟩

theorem five_of {l : List Value} (h : l.length = 5) : ∃ a b c d e, l = [a, b, c, d, e] := by
  match l, h with
  | [a, b, c, d, e], _ => exact ⟨a, b, c, d, e, rfl⟩

theorem nth_take {zs : List Int} {n i : Nat} (h : i < n) : nth (zs.take n) i = zs.getD i 0 := by
  unfold nth
  rw [List.getD_eq_getElem?_getD, List.getD_eq_getElem?_getD, List.getElem?_take_of_lt h]

theorem bytes_of_cells {t e : TypeId} {v : Value} {fuel : Nat} {x : DataW H × List MemPlace} (ht : P.underlying t = some (.slice e)) (he : P.underlying e = some (.int .u8)) (hc : P.cellsOf e = 1)
    (h : DataW.trod enc P w base (fun _ => true) held fuel t [v] = some x) : ∃ xs, IsBytes w v xs := by
  rcases open_ints ht he hc h with ⟨hcs, _⟩ | ⟨a, len, cap, zs, hcs, _, hl, hm, hz, _, hcells, hwf⟩
  · simp at hcs
    subst hcs
    exact ⟨[], none, 0, rfl, by simp, fun i hi => by simp at hi⟩
  · simp at hcs
    subst hcs
    simp only [if_true] at hz
    have hlen : (zs.take len).length = len := by rw [List.length_take, hz]; omega
    refine ⟨zs.take len, some a, cap, by rw [hlen], by rw [hlen]; unfold maxLen at hm; omega, fun i hi => ?_⟩
    rw [hlen] at hi
    have h0 := hcells 0 (by omega)
    have hs : a.spot = none := by simpa [Addr.add] using World.cell?_spot h0
    obtain ⟨b, off, sp⟩ := a
    simp only at hs
    subst hs
    have hi2 := hcells i (by omega)
    rw [Addr.add_lit] at hi2
    have hb := World.block_lt_of_cell? w _ hi2
    have hz2 : i < zs.length := by omega
    have hwi := hwf (zs.getD i 0) (by rw [List.getD, List.getElem?_eq_getElem hz2]; exact List.getElem_mem hz2)
    simp [Lit.wf, IntKind.min, IntKind.max, IntKind.signed, IntKind.bits] at hwi
    refine ⟨b, off, _, rfl, Array.getElem?_eq_getElem hb, by rw [hi2, nth_take hi], ?_, ?_⟩
    · rw [nth_take hi]; simp only [List.getD]; omega
    · rw [nth_take hi]; simp only [List.getD]; omega

theorem ints_of_cells {t e : TypeId} {v : Value} {fuel : Nat} {x : DataW H × List MemPlace} (ht : P.underlying t = some (.slice e)) (he : P.underlying e = some (.int .i64)) (hc : P.cellsOf e = 1)
    (h : DataW.trod enc P w base (fun _ => true) held fuel t [v] = some x) : ∃ xs, IsInts Any w v xs := by
  rcases open_ints ht he hc h with ⟨hcs, _⟩ | ⟨a, len, cap, zs, hcs, _, hl, hm, hz, _, hcells, _⟩
  · simp at hcs
    subst hcs
    exact ⟨[], Reads.nil _ _ _ _ _⟩
  · simp at hcs
    subst hcs
    simp only [if_true] at hz
    have hlen : (zs.take len).length = len := by rw [List.length_take, hz]; omega
    refine ⟨zs.take len, some a, cap, by rw [hlen], by rw [hlen]; unfold maxLen at hm; omega, fun i hi => ?_⟩
    rw [hlen] at hi
    have h0 := hcells 0 (by omega)
    have hs : a.spot = none := by simpa [Addr.add] using World.cell?_spot h0
    obtain ⟨b, off, sp⟩ := a
    simp only at hs
    subst hs
    have hi2 := hcells i (by omega)
    rw [Addr.add_lit] at hi2
    have hb := World.block_lt_of_cell? w _ hi2
    exact ⟨b, off, _, rfl, Array.getElem?_eq_getElem hb, trivial, by rw [hi2, ← nth_take (zs := zs) hi]⟩

theorem bounds_u8 {z : Int} (h : (Lit.int .u8 z).wf = true) : 0 ≤ z ∧ z ≤ 255 := by
  simp [Lit.wf, IntKind.min, IntKind.max, IntKind.signed, IntKind.bits] at h
  exact h

/-- A slice of losses. -/
theorem losses_of_cells {t e t8 tb : TypeId} {f0 f1 f2 f3 f4 : Field} {v : Value} {fuel : Nat} {x : DataW H × List MemPlace} (ht : P.underlying t = some (.slice e)) (he : P.underlying e = some (.struct #[f0, f1, f2, f3, f4])) (hone : Go.Deep.oneCellFields P #[f0, f1, f2, f3, f4] = true) (hC : P.cellsOf e = 5)
    (e0 : f0.type = t8) (e1 : f1.type = t8) (e2 : f2.type = tb) (e3 : f3.type = t8) (e4 : f4.type = tb) (h8 : P.underlying t8 = some (.int .u8)) (hb : P.underlying tb = some (.slice t8)) (hc8 : P.cellsOf t8 = 1)
    (h : DataW.trod enc P w base (fun _ => true) held fuel t [v] = some x) : ∃ l, IsLosses w v l := by
  rcases Go.Deep.open_slice ht h with ⟨hcs, _⟩ | ⟨a, len, cap, m, n, D, Pl, hcs, _, hl, hm, hmm, _, hi⟩
  · simp at hcs
    subst hcs
    exact ⟨[], none, 0, rfl, by simp, fun i x hx => by simp at hx⟩
  · simp at hcs
    subst hcs
    simp only [if_true] at hmm
    subst hmm
    have hs0 : 0 < len → a.spot = none := fun h0 => by
      obtain ⟨cs', hc, _⟩ := hi 0 (by omega)
      rw [hC] at hc
      obtain ⟨_, hcl, hat⟩ := World.cells?_some hc
      have t0 := hat 0 (by omega)
      have h1 : (cs'[0]?).isSome = true := by rw [List.getElem?_eq_getElem (by omega)]; rfl
      rw [← t0] at h1
      obtain ⟨u, hu⟩ := Option.isSome_iff_exists.1 h1
      have := World.cell?_spot hu
      simpa [Addr.add] using this
    have key : ∀ i, i < len → ∃ x : Loss, a.spot = none ∧ LossAt w a.block (a.off + i * 5) x := by
      intro i his
      obtain ⟨cs', hc, ht'⟩ := hi i (by omega)
      rw [hC] at hc
      obtain ⟨_, hcl, hat⟩ := World.cells?_some hc
      obtain ⟨c0, c1, c2, c3, c4, rfl⟩ := five_of hcl
      obtain ⟨y0, y1, y2, y3, y4, n', _, g0, g1, g2, g3, g4⟩ := trod_struct5 he ht'
      obtain ⟨o0, k0⟩ := Go.Deep.hone_of hone 0 f0 rfl
      obtain ⟨o1, k1⟩ := Go.Deep.hone_of hone 1 f1 rfl
      obtain ⟨o2, k2⟩ := Go.Deep.hone_of hone 2 f2 rfl
      obtain ⟨o3, k3⟩ := Go.Deep.hone_of hone 3 f3 rfl
      obtain ⟨o4, k4⟩ := Go.Deep.hone_of hone 4 f4 rfl
      rw [o0, k0, e0] at g0; rw [o1, k1, e1] at g1; rw [o2, k2, e2] at g2; rw [o3, k3, e3] at g3; rw [o4, k4, e4] at g4
      obtain ⟨z0, q0, _, w0⟩ := DataW.trod_int h8 g0
      obtain ⟨z1, q1, _, w1⟩ := DataW.trod_int h8 g1
      obtain ⟨z3, q3, _, w3⟩ := DataW.trod_int h8 g3
      obtain ⟨l2, hl2⟩ := bytes_of_cells hb h8 hc8 (v := c2) (by simpa using g2)
      obtain ⟨l4, hl4⟩ := bytes_of_cells hb h8 hc8 (v := c4) (by simpa using g4)
      simp at q0 q1 q3
      subst q0 q1 q3
      have t0 := hat 0 (by omega)
      have t1 := hat 1 (by omega)
      have t2 := hat 2 (by omega)
      have t3 := hat 3 (by omega)
      have t4 := hat 4 (by omega)
      rw [Go.Deep.add_add] at t0 t1 t2 t3 t4
      have hs : a.spot = none := hs0 (by omega)
      obtain ⟨b, off, sp⟩ := a
      simp only at hs
      subst hs
      rw [Addr.add_lit] at t0 t1 t2 t3 t4
      exact ⟨⟨z0, z1, l2, z3, l4⟩, rfl, by simpa using t0, by rw [show off + i * 5 + 1 = off + (i * 5 + 1) by omega]; simpa using t1, ⟨c2, by rw [show off + i * 5 + 2 = off + (i * 5 + 2) by omega]; simpa using t2, hl2⟩, by rw [show off + i * 5 + 3 = off + (i * 5 + 3) by omega]; simpa using t3, ⟨c4, by rw [show off + i * 5 + 4 = off + (i * 5 + 4) by omega]; simpa using t4, hl4⟩, bounds_u8 w0, bounds_u8 w1, bounds_u8 w3⟩
    obtain ⟨F, hF⟩ := Go.Deep.choose_lt key
    refine ⟨(List.range len).map F, some a, _, by simp; rfl, by simp; unfold maxLen at hm; omega, fun i x hx => ?_⟩
    have his : i < len := by have := (List.getElem?_eq_some_iff.1 hx).1; simpa using this
    simp only [List.getElem?_map, List.getElem?_range his, Option.map_some, Option.some.injEq] at hx
    subst hx
    obtain ⟨hs, hL⟩ := hF i his
    obtain ⟨b, off, sp⟩ := a
    simp only at hs
    subst hs
    exact ⟨b, off, rfl, World.block_lt_of_cell? w _ hL.c0, hL⟩
end

theorem Tryz.read_deedsX : Tryz.prog.readableRec 33 = true := by kernel_rfl
theorem Tryz.read_bytes : Tryz.prog.readableRec 41 = true := by kernel_rfl

set_option maxRecDepth 100000 in
theorem bytesIn {H : Type} {enc : TypeId × Value → H} {w : World} {base : Nat} {held : Bool} {r : Reach} {b0 : Nat} {v : Value} {d : DataW H} {p : List MemPlace}
    (hv : Value.okWide Tryz.prog w r b0 41 v) (h : DataW.Trod enc Tryz.prog w base (fun _ => true) held 41 v d p) : ∃ l, IsBytes w v l := by
  obtain ⟨a, len, cap, rfl⟩ := okWide_slice Tryz.underlying41 hv
  obtain ⟨fuel, hf⟩ := h
  exact bytes_of_cells Tryz.underlying41 Tryz.underlying5 (by kernel_rfl) (show DataW.trod enc Tryz.prog w base (fun _ => true) held fuel 41 [.slice a len cap] = some (d, p) from hf)

set_option maxRecDepth 100000 in
theorem deedsXIn {H : Type} {enc : TypeId × Value → H} {w : World} {base : Nat} {held : Bool} {r : Reach} {b0 : Nat} {v : Value} {d : DataW H} {p : List MemPlace}
    (hv : Value.okWide Tryz.prog w r b0 33 v) (h : DataW.Trod enc Tryz.prog w base (fun _ => true) held 33 v d p) : ∃ dv lv ds ls, v = .agg #[dv, lv] ∧ IsDeeds w dv ds ∧ IsLosses w lv ls := by
  obtain ⟨cs, rfl, hsz⟩ := okWide_struct Tryz.underlying33 hv
  obtain ⟨c0, c1, hcs⟩ := two_of (l := cs.toList) (by rw [Array.length_toList]; exact hsz.trans (show Tryz.prog.cellsOf 33 = 2 by kernel_rfl))
  obtain rfl : cs = #[c0, c1] := by rw [← Array.toArray_toList (xs := cs), hcs]
  obtain ⟨fuel, hf⟩ := h
  obtain ⟨y0, y1, n, _, _, g0, g1⟩ := trod_struct2 Tryz.underlying33 hf
  have o30 : Tryz.prog.cellsOf 30 = 1 := by kernel_rfl
  have o31 : Tryz.prog.cellsOf 31 = 1 := by kernel_rfl
  simp only [o30, o31, Value.cells] at g0 g1
  obtain ⟨ds, hds⟩ := deeds_of_cells Tryz.underlying30 Tryz.underlying49 (by kernel_rfl) (by kernel_rfl) rfl rfl Tryz.underlying3 (v := c0) (by simpa using g0)
  obtain ⟨ls, hls⟩ := losses_of_cells Tryz.underlying31 Tryz.underlying43 (by kernel_rfl) (by kernel_rfl) rfl rfl rfl rfl rfl Tryz.underlying5 Tryz.underlying41 (by kernel_rfl) (v := c1) (by simpa using g1)
  exact ⟨c0, c1, ds, ls, rfl, hds, hls⟩

end Go.Proofs.YtmohnddglmolgaaGreatDoor
