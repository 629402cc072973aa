/- A step in memory: What, A, B, Cells, Text; walk: long (33). -/
import Derived.Test.YtmohnddglmolgaaGreatDoorKpOpens2
namespace Go.Proofs.YtmohnddglmolgaaGreatDoor
open Go Go.RowKit Go.ChangeShapes Go.WideShapes Go.ChangeAt Go.Lin Go.Lin.Kp

/-- A step. -/
structure StepV where
  what : Int
  a : Int
  b : Int
  cells : List Int
  text : ByteArray

instance : Inhabited StepV := ⟨⟨0, 0, 0, [], ⟨#[]⟩⟩⟩

/-- A step's value. -/
def IsStep (w : World) (v : Value) (x : StepV) : Prop := ∃ c, v = .agg #[.int .u8 x.what, .int .i64 x.a, .int .i64 x.b, c, .string x.text] ∧ IsInts Any w c x.cells ∧ (0 ≤ x.what ∧ x.what ≤ 255)

theorem IsStep.grew {w w' : World} {v : Value} {x : StepV} (h : IsStep w v x) (hg : Grew w w') : IsStep w' v x := let ⟨c, e, hc, hb⟩ := h; ⟨c, e, Reads.grew hc hg, hb⟩

theorem box5 (w : World) (c0 c1 c2 c3 c4 : Value) (t : TypeId) : ∃ W0, w.alloc (.cells #[c0, c1, c2, c3, c4] t) = W0 ∧ Grew w W0 ∧ W0.cell? ⟨w.heap.size, 0, none⟩ = some c0 ∧ W0.cell? ⟨w.heap.size, 1, none⟩ = some c1 ∧
    W0.cell? ⟨w.heap.size, 2, none⟩ = some c2 ∧ W0.cell? ⟨w.heap.size, 3, none⟩ = some c3 ∧ W0.cell? ⟨w.heap.size, 4, none⟩ = some c4 ∧ w.heap.size < W0.heap.size :=
  ⟨_, rfl, grew_alloc (grew_refl w) _, by simp, by simp, by simp, by simp, by simp, by simp⟩

theorem long33_any (v : Value) (x : StepV) (w : World) (h : IsStep w v x) : Calls Tryz.prog 33 #[v] w fun e w' => ∃ r : Bool, e = .returned (.bool r) ∧ Hid (r = false → x.cells.length ≤ 60 ∧ x.text.size ≤ 300) ∧ Grew w w' := by
  obtain ⟨c, rfl, hc, -⟩ := h
  obtain ⟨ca, cc, rfl, hm, -⟩ := hc
  obtain ⟨W, hW, g, k0, k1, k2, k3, k4, hz⟩ := box5 w (.int .u8 x.what) (.int .i64 x.a) (.int .i64 x.b) (.slice ca x.cells.length cc) (.string x.text) 68
  obtain ⟨n, hn⟩ : ∃ n, x.cells.length = n := ⟨_, rfl⟩
  obtain ⟨m, hmm⟩ : ∃ n, x.text.size = n := ⟨_, rfl⟩
  have HN := hid hn
  have HM := hid hmm
  rw [hn] at k3 hm hW ⊢
  have HG := hid g
  have hs : (Value.string x.text) = .string x.text := rfl
  clear g hn hs
  by_cases h1 : 60 < n
  · have d1 : decide ((60 : Int) < (n : Int)) = true := by simp; omega
    clear h1
    by_cases h2 : 300 < m
    · have d2 : decide ((300 : Int) < (m : Int)) = true := by simp; omega
      clear h2
      go_enter Tryz.func33, Tryz.ntmps33
      go_wp2
      go_ret
      exact ⟨true, rfl, hid (fun h => by cases h), HG.out⟩
    · have d2 : decide ((300 : Int) < (m : Int)) = false := by simp; omega
      clear h2
      go_enter Tryz.func33, Tryz.ntmps33
      go_wp2
      go_ret
      exact ⟨true, rfl, hid (fun h => by cases h), HG.out⟩
  · have d1 : decide ((60 : Int) < (n : Int)) = false := by simp; omega
    by_cases h2 : 300 < m
    · have d2 : decide ((300 : Int) < (m : Int)) = true := by simp; omega
      clear h1 h2
      go_enter Tryz.func33, Tryz.ntmps33
      go_wp2
      go_ret
      exact ⟨true, rfl, hid (fun h => by cases h), HG.out⟩
    · have d2 : decide ((300 : Int) < (m : Int)) = false := by simp; omega
      have HQ := hid (show n ≤ 60 ∧ m ≤ 300 by omega)
      clear h1 h2
      go_enter Tryz.func33, Tryz.ntmps33
      go_wp2
      go_ret
      exact ⟨false, rfl, hid (fun _ => ⟨HQ.out.1, by rw [HM.out]; exact HQ.out.2⟩), HG.out⟩

theorem Tryz.read_step : Tryz.prog.readableRec 68 = true := by kernel_rfl

set_option maxRecDepth 100000 in
theorem stepIn {H : Type} {enc : TypeId × Value → H} {w : World} {base : Nat} {held : Bool} {r : Reach} {b0 : Nat} {v : Value} {d : DataW H} {p : List MemPlace}
    (hv : Value.okWide Tryz.prog w r b0 68 v) (h : DataW.Trod enc Tryz.prog w base (fun _ => true) held 68 v d p) : ∃ x, IsStep w v x := by
  obtain ⟨cs, rfl, hsz⟩ := okWide_struct Tryz.underlying68 hv
  obtain ⟨c0, c1, c2, c3, c4, hcs⟩ := five_of (l := cs.toList) (by rw [Array.length_toList]; exact hsz.trans (show Tryz.prog.cellsOf 68 = 5 by kernel_rfl))
  obtain rfl : cs = #[c0, c1, c2, c3, c4] := by rw [← Array.toArray_toList (xs := cs), hcs]
  obtain ⟨fuel, hf⟩ := h
  obtain ⟨y0, y1, y2, y3, y4, n, _, g0, g1, g2, g3, g4⟩ := trod_struct5 Tryz.underlying68 hf
  have o5 : Tryz.prog.cellsOf 5 = 1 := by kernel_rfl
  have o3 : Tryz.prog.cellsOf 3 = 1 := by kernel_rfl
  have o39 : Tryz.prog.cellsOf 39 = 1 := by kernel_rfl
  have o9 : Tryz.prog.cellsOf 9 = 1 := by kernel_rfl
  simp only [o5, o3, o39, o9, Value.cells] at g0 g1 g2 g3 g4
  obtain ⟨z0, q0, _, w0⟩ := DataW.trod_int Tryz.underlying5 g0
  obtain ⟨z1, q1, _, _⟩ := DataW.trod_int Tryz.underlying3 g1
  obtain ⟨z2, q2, _, _⟩ := DataW.trod_int Tryz.underlying3 g2
  obtain ⟨l3, hl3⟩ := ints_of_cells Tryz.underlying39 Tryz.underlying3 o3 (v := c3) (by simpa using g3)
  obtain ⟨s4, q4, _, _⟩ := DataW.trod_string Tryz.underlying9 g4
  simp at q0 q1 q2 q4
  subst q0 q1 q2 q4
  exact ⟨⟨z0, z1, z2, l3, s4⟩, c3, rfl, hl3, bounds_u8 w0⟩

end Go.Proofs.YtmohnddglmolgaaGreatDoor
