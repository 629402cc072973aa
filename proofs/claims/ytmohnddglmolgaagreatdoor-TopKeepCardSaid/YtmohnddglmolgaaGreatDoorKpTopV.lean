/- What TopKeep's arguments are, opened: numbers, losses. -/
import Derived.Test.YtmohnddglmolgaaGreatDoorKpOpens2
namespace Go.Proofs.YtmohnddglmolgaaGreatDoor
open Go Go.RowKit Go.ChangeShapes Go.WideShapes Go.ChangeAt Go.Lin Go.Lin.Kp

/-- A slice of small numbers. -/
def IsU16s (w : World) (v : Value) (l : List Int) : Prop := ∃ a cap, v = .slice a l.length cap ∧ l.length ≤ 9223372036854775807 ∧ ∀ i, i < l.length → ∃ b off, a = some ⟨b, off, none⟩ ∧ b < w.heap.size ∧ w.cell? ⟨b, off + i, none⟩ = some (.int .u16 (nth l i)) ∧ (0 ≤ nth l i ∧ nth l i ≤ 65535)

/-- A slice of three bytes each. -/
def IsTrips (w : World) (v : Value) (l : List (Int × Int × Int)) : Prop := ∃ a cap, v = .slice a l.length cap ∧ l.length ≤ 9223372036854775807 ∧ ∀ i x, l[i]? = some x → ∃ b off, a = some ⟨b, off, none⟩ ∧ b < w.heap.size ∧
  w.cell? ⟨b, off + i * 3, none⟩ = some (.int .u8 x.1) ∧ w.cell? ⟨b, off + (i * 3 + 1), none⟩ = some (.int .u8 x.2.1) ∧ w.cell? ⟨b, off + (i * 3 + 2), none⟩ = some (.int .u8 x.2.2) ∧ (0 ≤ x.1 ∧ x.1 ≤ 255) ∧ (0 ≤ x.2.1 ∧ x.2.1 ≤ 255) ∧ (0 ≤ x.2.2 ∧ x.2.2 ≤ 255)

section
variable {H : Type} {enc : TypeId × Value → H} {P : Program} {w : World} {base : Nat} {held : Bool}

theorem u16s_of_cells {t e : TypeId} {v : Value} {fuel : Nat} {x : DataW H × List MemPlace} (ht : P.underlying t = some (.slice e)) (he : P.underlying e = some (.int .u16)) (hc : P.cellsOf e = 1)
    (h : DataW.trod enc P w base (fun _ => true) held fuel t [v] = some x) : ∃ xs, IsU16s w v xs := by
  rcases open_ints ht he hc h with ⟨hcs, _⟩ | ⟨a, len, cap, zs, hcs, _, hl, hm, hz, _, hcells, hwf⟩
  · simp at hcs
    subst hcs
    exact ⟨[], none, 0, rfl, by simp, fun i hi => by simp at hi⟩
  · simp at hcs
    subst hcs
    simp only [if_true] at hz
    have hlen : (zs.take len).length = len := by rw [List.length_take, hz]; omega
    refine ⟨zs.take len, some a, cap, by rw [hlen], by rw [hlen]; unfold maxLen at hm; omega, fun i hi => ?_⟩
    rw [hlen] at hi
    have h0 := hcells 0 (by omega)
    have hs : a.spot = none := by simpa [Addr.add] using World.cell?_spot h0
    obtain ⟨b, off, sp⟩ := a
    simp only at hs
    subst hs
    have hi2 := hcells i (by omega)
    rw [Addr.add_lit] at hi2
    have hb := World.block_lt_of_cell? w _ hi2
    have hz2 : i < zs.length := by omega
    have hwi := hwf (zs.getD i 0) (by rw [List.getD, List.getElem?_eq_getElem hz2]; exact List.getElem_mem hz2)
    have hwi2 := bounds_u16 hwi
    refine ⟨b, off, rfl, hb, by rw [hi2, nth_take hi], ?_⟩
    rw [nth_take hi]; exact hwi2

theorem trips_of_cells {t e t8 : TypeId} {v : Value} {fuel : Nat} {x : DataW H × List MemPlace} (ht : P.underlying t = some (.slice e)) (he : P.underlying e = some (.array 3 t8)) (hC : P.cellsOf e = 3) (h8 : P.underlying t8 = some (.int .u8)) (hc8 : P.cellsOf t8 = 1)
    (h : DataW.trod enc P w base (fun _ => true) held fuel t [v] = some x) : ∃ l, IsTrips w v l := by
  rcases Go.Deep.open_slice ht h with ⟨hcs, _⟩ | ⟨a, len, cap, m, n, D, Pl, hcs, _, hl, hm, hmm, _, hi⟩
  · simp at hcs
    subst hcs
    exact ⟨[], none, 0, rfl, by simp, fun i x hx => by simp at hx⟩
  · simp at hcs
    subst hcs
    simp only [if_true] at hmm
    subst hmm
    have key : ∀ i, i < len → ∃ x : Int × Int × Int, (w.cell? (a.add (i * 3)) = some (.int .u8 x.1) ∧ w.cell? (a.add (i * 3 + 1)) = some (.int .u8 x.2.1) ∧ w.cell? (a.add (i * 3 + 2)) = some (.int .u8 x.2.2)) ∧ (0 ≤ x.1 ∧ x.1 ≤ 255) ∧ (0 ≤ x.2.1 ∧ x.2.1 ≤ 255) ∧ (0 ≤ x.2.2 ∧ x.2.2 ≤ 255) := by
      intro i his
      obtain ⟨cs', hc, ht'⟩ := hi i (by omega)
      rw [hC] at hc
      obtain ⟨_, hcl, hat⟩ := World.cells?_some hc
      obtain ⟨c0, c1, c2, rfl⟩ : ∃ c0 c1 c2, cs' = [c0, c1, c2] := by
        match cs', hcl with
        | [c0, c1, c2], _ => exact ⟨c0, c1, c2, rfl⟩
      obtain ⟨xs, m', _, _, _, hl', hel⟩ := DataW.trod_array he ht'
      have g0 := hel 0 (by omega)
      have g1 := hel 1 (by omega)
      have g2 := hel 2 (by omega)
      rw [hc8, List.getElem?_eq_getElem (by omega)] at g0 g1 g2
      obtain ⟨z0, q0, _, w0⟩ := DataW.trod_int h8 g0
      obtain ⟨z1, q1, _, w1⟩ := DataW.trod_int h8 g1
      obtain ⟨z2, q2, _, w2⟩ := DataW.trod_int h8 g2
      simp at q0 q1 q2
      subst q0 q1 q2
      have t0 := hat 0 (by omega)
      have t1 := hat 1 (by omega)
      have t2 := hat 2 (by omega)
      rw [Go.Deep.add_add] at t0 t1 t2
      exact ⟨⟨z0, z1, z2⟩, ⟨by simpa using t0, by simpa using t1, by simpa using t2⟩, bounds_u8 w0, bounds_u8 w1, bounds_u8 w2⟩
    obtain ⟨F, hF⟩ := Go.Deep.choose_lt key
    refine ⟨(List.range len).map F, some a, _, by simp; rfl, by simp; unfold maxLen at hm; omega, fun i x hx => ?_⟩
    have his : i < len := by have := (List.getElem?_eq_some_iff.1 hx).1; simpa using this
    simp only [List.getElem?_map, List.getElem?_range his, Option.map_some, Option.some.injEq] at hx
    subst hx
    obtain ⟨⟨r0, r1, r2⟩, q⟩ := hF i his
    have hs : a.spot = none := by simpa [Addr.add] using World.cell?_spot (hF 0 (by omega)).1.1
    obtain ⟨b, off, sp⟩ := a
    simp only at hs
    subst hs
    rw [Addr.add_lit] at r0 r1 r2
    exact ⟨b, off, rfl, World.block_lt_of_cell? w _ r0, r0, r1, r2, q⟩
end

theorem Tryz.read_nums : Tryz.prog.readableRec 99 = true := by kernel_rfl
theorem Tryz.read_trips : Tryz.prog.readableRec 100 = true := by kernel_rfl

set_option maxRecDepth 100000 in
theorem numsIn {H : Type} {enc : TypeId × Value → H} {w : World} {base : Nat} {held : Bool} {r : Reach} {b0 : Nat} {v : Value} {d : DataW H} {p : List MemPlace}
    (hv : Value.okWide Tryz.prog w r b0 99 v) (h : DataW.Trod enc Tryz.prog w base (fun _ => true) held 99 v d p) : ∃ l, IsU16s w v l := by
  obtain ⟨a, len, cap, rfl⟩ := okWide_slice Tryz.underlying99 hv
  obtain ⟨fuel, hf⟩ := h
  exact u16s_of_cells Tryz.underlying99 Tryz.underlying53 (by kernel_rfl) (show DataW.trod enc Tryz.prog w base (fun _ => true) held fuel 99 [.slice a len cap] = some (d, p) from hf)

set_option maxRecDepth 100000 in
theorem tripsIn {H : Type} {enc : TypeId × Value → H} {w : World} {base : Nat} {held : Bool} {r : Reach} {b0 : Nat} {v : Value} {d : DataW H} {p : List MemPlace}
    (hv : Value.okWide Tryz.prog w r b0 100 v) (h : DataW.Trod enc Tryz.prog w base (fun _ => true) held 100 v d p) : ∃ l, IsTrips w v l := by
  obtain ⟨a, len, cap, rfl⟩ := okWide_slice Tryz.underlying100 hv
  obtain ⟨fuel, hf⟩ := h
  exact trips_of_cells Tryz.underlying100 Tryz.underlying101 (by kernel_rfl) Tryz.underlying5 (by kernel_rfl) (show DataW.trod enc Tryz.prog w base (fun _ => true) held fuel 100 [.slice a len cap] = some (d, p) from hf)

end Go.Proofs.YtmohnddglmolgaaGreatDoor
