/- What KeepPlays' argument is, opened: lines. -/
import Derived.Test.YtmohnddglmolgaaGreatDoorKpOpens
namespace Go.Proofs.YtmohnddglmolgaaGreatDoor
open Go Go.RowKit Go.ChangeShapes Go.WideShapes Go.ChangeAt Go.Lin Go.Lin.Kp

section
variable {H : Type} {enc : TypeId × Value → H} {P : Program} {w : World} {base : Nat} {held : Bool}

/-- A slice of texts. -/
theorem lines_of_cells {t e : TypeId} {v : Value} {fuel : Nat} {x : DataW H × List MemPlace} (ht : P.underlying t = some (.slice e)) (he : P.underlying e = some .string) (hC : P.cellsOf e = 1)
    (h : DataW.trod enc P w base (fun _ => true) held fuel t [v] = some x) : ∃ l, IsWds Any w v l := by
  rcases Go.Deep.open_slice ht h with ⟨hcs, _⟩ | ⟨a, len, cap, m, n, D, Pl, hcs, _, hl, hm, hmm, _, hi⟩
  · simp at hcs
    subst hcs
    exact ⟨[], none, 0, rfl, by simp, fun i hi => by simp at hi⟩
  · simp at hcs
    subst hcs
    simp only [if_true] at hmm
    subst hmm
    have key : ∀ i, i < len → ∃ x : ByteArray, w.cell? (a.add i) = some (.string x) := by
      intro i his
      obtain ⟨cs', hc, ht'⟩ := hi i (by omega)
      rw [hC, Nat.mul_one] at hc
      obtain ⟨_, hcl, hat⟩ := World.cells?_some hc
      obtain ⟨c0, rfl⟩ : ∃ c, cs' = [c] := by
        match cs', hcl with
        | [c], _ => exact ⟨c, rfl⟩
      obtain ⟨s4, q4, _, _⟩ := DataW.trod_string he ht'
      simp at q4
      subst q4
      have t0 := hat 0 (by omega)
      rw [Go.Deep.add_add] at t0
      exact ⟨s4, by simpa using t0⟩
    obtain ⟨F, hF⟩ := Go.Deep.choose_lt key
    have hlen : ((List.range len).map F).length = len := by simp
    refine ⟨(List.range len).map F, some a, _, by rw [hlen], by rw [hlen]; unfold maxLen at hm; omega, fun i hi2 => ?_⟩
    rw [hlen] at hi2
    have h0 := hF i hi2
    have hs : a.spot = none := by simpa [Addr.add] using World.cell?_spot (hF 0 (by omega))
    obtain ⟨b, off, sp⟩ := a
    simp only at hs
    subst hs
    rw [Addr.add_lit] at h0
    have hb := World.block_lt_of_cell? w _ h0
    refine ⟨b, off, w.heap[b], rfl, Array.getElem?_eq_getElem hb, trivial, ?_⟩
    rw [h0]
    show _ = some (Value.string (((List.range len).map F).getD i ByteArray.empty))
    rw [List.getD_eq_getElem?_getD, List.getElem?_map, List.getElem?_range hi2]; rfl
end

theorem Tryz.read_lines : Tryz.prog.readableRec 22 = true := by kernel_rfl

set_option maxRecDepth 100000 in
theorem linesIn {H : Type} {enc : TypeId × Value → H} {w : World} {base : Nat} {held : Bool} {r : Reach} {b0 : Nat} {v : Value} {d : DataW H} {p : List MemPlace}
    (hv : Value.okWide Tryz.prog w r b0 22 v) (h : DataW.Trod enc Tryz.prog w base (fun _ => true) held 22 v d p) : ∃ l, IsWds Any w v l := by
  obtain ⟨a, len, cap, rfl⟩ := okWide_slice Tryz.underlying22 hv
  obtain ⟨fuel, hf⟩ := h
  exact lines_of_cells Tryz.underlying22 Tryz.underlying9 (by kernel_rfl) (show DataW.trod enc Tryz.prog w base (fun _ => true) held fuel 22 [.slice a len cap] = some (d, p) from hf)

end Go.Proofs.YtmohnddglmolgaaGreatDoor
