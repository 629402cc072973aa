/- A step in memory: What, A, B, Cells, Text; walk: long (33). Steps in memory, and what a statement's argument []Step is, opened. -/
import Derived.Test.YtmohnddglmolgaaGreatDoorKpOpens2
namespace Go.Proofs.YtmohnddglmolgaaGreatDoor
open Go Go.RowKit Go.ChangeShapes Go.WideShapes Go.ChangeAt Go.Lin Go.Lin.Kp

/-- A step. -/
structure StepV where
  what : Int
  a : Int
  b : Int
  cells : List Int
  text : ByteArray

instance : Inhabited StepV := ⟨⟨0, 0, 0, [], ⟨#[]⟩⟩⟩

/-- A step's value. -/
def IsStep (w : World) (v : Value) (x : StepV) : Prop := ∃ c, v = .agg #[.int .u8 x.what, .int .i64 x.a, .int .i64 x.b, c, .string x.text] ∧ IsInts Any w c x.cells ∧ (0 ≤ x.what ∧ x.what ≤ 255)

theorem IsStep.grew {w w' : World} {v : Value} {x : StepV} (h : IsStep w v x) (hg : Grew w w') : IsStep w' v x := let ⟨c, e, hc, hb⟩ := h; ⟨c, e, Reads.grew hc hg, hb⟩

theorem box5 (w : World) (c0 c1 c2 c3 c4 : Value) (t : TypeId) : ∃ W0, w.alloc (.cells #[c0, c1, c2, c3, c4] t) = W0 ∧ Grew w W0 ∧ W0.cell? ⟨w.heap.size, 0, none⟩ = some c0 ∧ W0.cell? ⟨w.heap.size, 1, none⟩ = some c1 ∧
    W0.cell? ⟨w.heap.size, 2, none⟩ = some c2 ∧ W0.cell? ⟨w.heap.size, 3, none⟩ = some c3 ∧ W0.cell? ⟨w.heap.size, 4, none⟩ = some c4 ∧ w.heap.size < W0.heap.size :=
  ⟨_, rfl, grew_alloc (grew_refl w) _, by simp, by simp, by simp, by simp, by simp, by simp⟩

theorem long33_any (v : Value) (x : StepV) (w : World) (h : IsStep w v x) : Calls Tryz.prog 33 #[v] w fun e w' => ∃ r : Bool, e = .returned (.bool r) ∧ Hid (r = false → x.cells.length ≤ 60 ∧ x.text.size ≤ 300) ∧ Grew w w' := by
  obtain ⟨c, rfl, hc, -⟩ := h
  obtain ⟨ca, cc, rfl, hm, -⟩ := hc
  obtain ⟨W, hW, g, k0, k1, k2, k3, k4, hz⟩ := box5 w (.int .u8 x.what) (.int .i64 x.a) (.int .i64 x.b) (.slice ca x.cells.length cc) (.string x.text) 68
  obtain ⟨n, hn⟩ : ∃ n, x.cells.length = n := ⟨_, rfl⟩
  obtain ⟨m, hmm⟩ : ∃ n, x.text.size = n := ⟨_, rfl⟩
  have HN := hid hn
  have HM := hid hmm
  rw [hn] at k3 hm hW ⊢
  have HG := hid g
  have hs : (Value.string x.text) = .string x.text := rfl
  clear g hn hs
  by_cases h1 : 60 < n
  · have d1 : decide ((60 : Int) < (n : Int)) = true := by simp; omega
    clear h1
    by_cases h2 : 300 < m
    · have d2 : decide ((300 : Int) < (m : Int)) = true := by simp; omega
      clear h2
      go_enter Tryz.func33, Tryz.ntmps33
      go_wp2
      go_ret
      exact ⟨true, rfl, hid (fun h => by cases h), HG.out⟩
    · have d2 : decide ((300 : Int) < (m : Int)) = false := by simp; omega
      clear h2
      go_enter Tryz.func33, Tryz.ntmps33
      go_wp2
      go_ret
      exact ⟨true, rfl, hid (fun h => by cases h), HG.out⟩
  · have d1 : decide ((60 : Int) < (n : Int)) = false := by simp; omega
    by_cases h2 : 300 < m
    · have d2 : decide ((300 : Int) < (m : Int)) = true := by simp; omega
      clear h1 h2
      go_enter Tryz.func33, Tryz.ntmps33
      go_wp2
      go_ret
      exact ⟨true, rfl, hid (fun h => by cases h), HG.out⟩
    · have d2 : decide ((300 : Int) < (m : Int)) = false := by simp; omega
      have HQ := hid (show n ≤ 60 ∧ m ≤ 300 by omega)
      clear h1 h2
      go_enter Tryz.func33, Tryz.ntmps33
      go_wp2
      go_ret
      exact ⟨false, rfl, hid (fun _ => ⟨HQ.out.1, by rw [HM.out]; exact HQ.out.2⟩), HG.out⟩

theorem Tryz.read_step : Tryz.prog.readableRec 68 = true := by kernel_rfl

set_option maxRecDepth 100000 in
theorem stepIn {H : Type} {enc : TypeId × Value → H} {w : World} {base : Nat} {held : Bool} {r : Reach} {b0 : Nat} {v : Value} {d : DataW H} {p : List MemPlace}
    (hv : Value.okWide Tryz.prog w r b0 68 v) (h : DataW.Trod enc Tryz.prog w base (fun _ => true) held 68 v d p) : ∃ x, IsStep w v x := by
  obtain ⟨cs, rfl, hsz⟩ := okWide_struct Tryz.underlying68 hv
  obtain ⟨c0, c1, c2, c3, c4, hcs⟩ := five_of (l := cs.toList) (by rw [Array.length_toList]; exact hsz.trans (show Tryz.prog.cellsOf 68 = 5 by kernel_rfl))
  obtain rfl : cs = #[c0, c1, c2, c3, c4] := by rw [← Array.toArray_toList (xs := cs), hcs]
  obtain ⟨fuel, hf⟩ := h
  obtain ⟨y0, y1, y2, y3, y4, n, _, g0, g1, g2, g3, g4⟩ := trod_struct5 Tryz.underlying68 hf
  have o5 : Tryz.prog.cellsOf 5 = 1 := by kernel_rfl
  have o3 : Tryz.prog.cellsOf 3 = 1 := by kernel_rfl
  have o39 : Tryz.prog.cellsOf 39 = 1 := by kernel_rfl
  have o9 : Tryz.prog.cellsOf 9 = 1 := by kernel_rfl
  simp only [o5, o3, o39, o9, Value.cells] at g0 g1 g2 g3 g4
  obtain ⟨z0, q0, _, w0⟩ := DataW.trod_int Tryz.underlying5 g0
  obtain ⟨z1, q1, _, _⟩ := DataW.trod_int Tryz.underlying3 g1
  obtain ⟨z2, q2, _, _⟩ := DataW.trod_int Tryz.underlying3 g2
  obtain ⟨l3, hl3⟩ := ints_of_cells Tryz.underlying39 Tryz.underlying3 o3 (v := c3) (by simpa using g3)
  obtain ⟨s4, q4, _, _⟩ := DataW.trod_string Tryz.underlying9 g4
  simp at q0 q1 q2 q4
  subst q0 q1 q2 q4
  exact ⟨⟨z0, z1, z2, l3, s4⟩, c3, rfl, hl3, bounds_u8 w0⟩

end Go.Proofs.YtmohnddglmolgaaGreatDoor
namespace Go.Proofs.YtmohnddglmolgaaGreatDoor
open Go Go.RowKit Go.ChangeShapes Go.WideShapes Go.ChangeAt Go.Lin Go.Lin.Kp

/-- A step lies there. -/
structure StepAt (w : World) (b o : Nat) (x : StepV) : Prop where
  c0 : w.cell? ⟨b, o, none⟩ = some (.int .u8 x.what)
  c1 : w.cell? ⟨b, o + 1, none⟩ = some (.int .i64 x.a)
  c2 : w.cell? ⟨b, o + 2, none⟩ = some (.int .i64 x.b)
  c3 : ∃ v, w.cell? ⟨b, o + 3, none⟩ = some v ∧ IsInts Any w v x.cells
  c4 : w.cell? ⟨b, o + 4, none⟩ = some (.string x.text)
  b0 : 0 ≤ x.what ∧ x.what ≤ 255

/-- A slice of steps. -/
def IsSteps (w : World) (v : Value) (xs : List StepV) : Prop := ∃ a cap, v = .slice a xs.length cap ∧ xs.length ≤ 9223372036854775807 ∧ ∀ i x, xs[i]? = some x → ∃ b off, a = some ⟨b, off, none⟩ ∧ b < w.heap.size ∧ StepAt w b (off + i * 5) x

theorem StepAt.grew {w w' : World} {b o : Nat} {x : StepV} (h : StepAt w b o x) (hb : b < w.heap.size) (hg : Grew w w') : StepAt w' b o x :=
  ⟨(hg.cell (p := ⟨b, o, none⟩) hb).trans h.c0, (hg.cell (p := ⟨b, o + 1, none⟩) hb).trans h.c1, (hg.cell (p := ⟨b, o + 2, none⟩) hb).trans h.c2, (let ⟨v, e, hv⟩ := h.c3; ⟨v, (hg.cell (p := ⟨b, o + 3, none⟩) hb).trans e, Reads.grew hv hg⟩),
    (hg.cell (p := ⟨b, o + 4, none⟩) hb).trans h.c4, h.b0⟩

theorem IsSteps.grew {w w' : World} {v : Value} {xs : List StepV} (h : IsSteps w v xs) (hg : Grew w w') : IsSteps w' v xs := by
  obtain ⟨a, c, e, hl, hc⟩ := h
  refine ⟨a, c, e, hl, fun i x hx => ?_⟩
  obtain ⟨b, off, e1, e2, e3⟩ := hc i x hx
  exact ⟨b, off, e1, Nat.lt_of_lt_of_le e2 hg.size, e3.grew e2 hg⟩

/-- A step that lies below a block: its value's cells lie in other blocks. -/
theorem StepAt.cells {w : World} {b o : Nat} {x : StepV} (h : StepAt w b o x) : ∃ c, w.cell? ⟨b, o + 3, none⟩ = some c ∧ IsInts (fun k _ => k < w.heap.size) w c x.cells := by
  obtain ⟨c, e, hc⟩ := h.c3
  exact ⟨c, e, Reads.re' hc (fun k o ho _ => lt_of_obj ho)⟩

section
variable {H : Type} {enc : TypeId × Value → H} {P : Program} {w : World} {base : Nat} {held : Bool}
theorem steps_of_cells {t e t8 ti tb ts : TypeId} {f0 f1 f2 f3 f4 : Field} {v : Value} {fuel : Nat} {x : DataW H × List MemPlace} (ht : P.underlying t = some (.slice e)) (he : P.underlying e = some (.struct #[f0, f1, f2, f3, f4])) (hone : Go.Deep.oneCellFields P #[f0, f1, f2, f3, f4] = true) (hC : P.cellsOf e = 5)
    (e0 : f0.type = t8) (e1 : f1.type = ti) (e2 : f2.type = ti) (e3 : f3.type = tb) (e4 : f4.type = ts) (h8 : P.underlying t8 = some (.int .u8)) (hi6 : P.underlying ti = some (.int .i64)) (hb : P.underlying tb = some (.slice ti)) (hcI : P.cellsOf ti = 1) (hS : P.underlying ts = some .string)
    (h : DataW.trod enc P w base (fun _ => true) held fuel t [v] = some x) : ∃ l, IsSteps w v l := by
  rcases Go.Deep.open_slice ht h with ⟨hcs, _⟩ | ⟨a, len, cap, m, n, D, Pl, hcs, _, hl, hm, hmm, _, hi⟩
  · simp at hcs
    subst hcs
    exact ⟨[], none, 0, rfl, by simp, fun i x hx => by simp at hx⟩
  · simp at hcs
    subst hcs
    simp only [if_true] at hmm
    subst hmm
    have hs0 : 0 < len → a.spot = none := fun h0 => by
      obtain ⟨cs', hc, _⟩ := hi 0 (by omega)
      rw [hC] at hc
      obtain ⟨_, hcl, hat⟩ := World.cells?_some hc
      have t0 := hat 0 (by omega)
      have h1 : (cs'[0]?).isSome = true := by rw [List.getElem?_eq_getElem (by omega)]; rfl
      rw [← t0] at h1
      obtain ⟨u, hu⟩ := Option.isSome_iff_exists.1 h1
      have := World.cell?_spot hu
      simpa [Addr.add] using this
    have key : ∀ i, i < len → ∃ x : StepV, a.spot = none ∧ StepAt w a.block (a.off + i * 5) x := by
      intro i his
      obtain ⟨cs', hc, ht'⟩ := hi i (by omega)
      rw [hC] at hc
      obtain ⟨_, hcl, hat⟩ := World.cells?_some hc
      obtain ⟨c0, c1, c2, c3, c4, rfl⟩ := five_of hcl
      obtain ⟨y0, y1, y2, y3, y4, n', _, g0, g1, g2, g3, g4⟩ := trod_struct5 he ht'
      obtain ⟨o0, k0⟩ := Go.Deep.hone_of hone 0 f0 rfl
      obtain ⟨o1, k1⟩ := Go.Deep.hone_of hone 1 f1 rfl
      obtain ⟨o2, k2⟩ := Go.Deep.hone_of hone 2 f2 rfl
      obtain ⟨o3, k3⟩ := Go.Deep.hone_of hone 3 f3 rfl
      obtain ⟨o4, k4⟩ := Go.Deep.hone_of hone 4 f4 rfl
      rw [o0, k0, e0] at g0; rw [o1, k1, e1] at g1; rw [o2, k2, e2] at g2; rw [o3, k3, e3] at g3; rw [o4, k4, e4] at g4
      obtain ⟨z0, q0, _, w0⟩ := DataW.trod_int h8 g0
      obtain ⟨z1, q1, _, _⟩ := DataW.trod_int hi6 g1
      obtain ⟨z2, q2, _, _⟩ := DataW.trod_int hi6 g2
      obtain ⟨l3, hl3⟩ := ints_of_cells hb hi6 hcI (v := c3) (by simpa using g3)
      obtain ⟨s4, q4, _, _⟩ := DataW.trod_string hS g4
      simp at q0 q1 q2 q4
      subst q0 q1 q2 q4
      have t0 := hat 0 (by omega)
      have t1 := hat 1 (by omega)
      have t2 := hat 2 (by omega)
      have t3 := hat 3 (by omega)
      have t4 := hat 4 (by omega)
      rw [Go.Deep.add_add] at t0 t1 t2 t3 t4
      have hs : a.spot = none := hs0 (by omega)
      obtain ⟨b, off, sp⟩ := a
      simp only at hs
      subst hs
      rw [Addr.add_lit] at t0 t1 t2 t3 t4
      exact ⟨⟨z0, z1, z2, l3, s4⟩, rfl, by simpa using t0, by rw [show off + i * 5 + 1 = off + (i * 5 + 1) by omega]; simpa using t1, by rw [show off + i * 5 + 2 = off + (i * 5 + 2) by omega]; simpa using t2, ⟨c3, by rw [show off + i * 5 + 3 = off + (i * 5 + 3) by omega]; simpa using t3, hl3⟩, by rw [show off + i * 5 + 4 = off + (i * 5 + 4) by omega]; simpa using t4, bounds_u8 w0⟩
    obtain ⟨F, hF⟩ := Go.Deep.choose_lt key
    refine ⟨(List.range len).map F, some a, _, by simp; rfl, by simp; unfold maxLen at hm; omega, fun i x hx => ?_⟩
    have his : i < len := by have := (List.getElem?_eq_some_iff.1 hx).1; simpa using this
    simp only [List.getElem?_map, List.getElem?_range his, Option.map_some, Option.some.injEq] at hx
    subst hx
    obtain ⟨hs, hL⟩ := hF i his
    obtain ⟨b, off, sp⟩ := a
    simp only at hs
    subst hs
    exact ⟨b, off, rfl, World.block_lt_of_cell? w _ hL.c0, hL⟩
end

theorem Tryz.read_steps : Tryz.prog.readableRec 62 = true := by kernel_rfl

set_option maxRecDepth 100000 in
theorem stepsIn {H : Type} {enc : TypeId × Value → H} {w : World} {base : Nat} {held : Bool} {r : Reach} {b0 : Nat} {v : Value} {d : DataW H} {p : List MemPlace}
    (hv : Value.okWide Tryz.prog w r b0 62 v) (h : DataW.Trod enc Tryz.prog w base (fun _ => true) held 62 v d p) : ∃ l, IsSteps w v l := by
  obtain ⟨a, len, cap, rfl⟩ := okWide_slice Tryz.underlying62 hv
  obtain ⟨fuel, hf⟩ := h
  exact steps_of_cells Tryz.underlying62 Tryz.underlying68 (by kernel_rfl) (by kernel_rfl) rfl rfl rfl rfl rfl Tryz.underlying5 Tryz.underlying3 Tryz.underlying39 (by kernel_rfl) Tryz.underlying9 (show DataW.trod enc Tryz.prog w base (fun _ => true) held fuel 62 [.slice a len cap] = some (d, p) from hf)

end Go.Proofs.YtmohnddglmolgaaGreatDoor
