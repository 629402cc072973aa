/- The statement SpecRuns, proved: whatever the input, it answers true, and the input reads as it did. -/
import Derived.Test.YtnebpcpihldllaaLRuns
import Derived.Test.YtnebpcpihldllaaOpens
import Derived.ProofKit
namespace Go.Lin
open Go.RowKit Go.ChangeShapes Go.WideShapes Go.ChangeAt
section
variable {H : Type} {enc : TypeId × Value → H} {P : Program} {w : World} {base : Nat} {held : Bool}

/-- A slice of ints that came in. -/
theorem ints_of_trod {r : Reach} {b0 : Nat} {t e : TypeId} {v : Value} {d : DataW H} {p : List MemPlace} (ht : P.underlying t = some (.slice e)) (he : P.underlying e = some (.int .i64)) (hc : P.cellsOf e = 1)
    (hv : Value.okWide P w r b0 t v) (h : DataW.Trod enc P w base (fun _ => true) held t v d p) : ∃ xs, IsInts Any w v xs := by
  obtain ⟨fuel, h⟩ := h
  rcases open_ints ht he hc h with ⟨hcs, _⟩ | ⟨a, len, cap, zs, hcs, _, hl, hm, hz, _, hcells, _⟩
  · obtain ⟨sa, sl, sc, rfl⟩ : ∃ sa sl sc, v = .slice sa sl sc := okWide_slice ht hv
    simp [Value.cells] at hcs
    obtain ⟨rfl, rfl, rfl⟩ := hcs
    exact ⟨[], Reads.nil _ _ _ _ _⟩
  · obtain ⟨sa, sl, sc, rfl⟩ : ∃ sa sl sc, v = .slice sa sl sc := okWide_slice ht hv
    simp [Value.cells] at hcs
    obtain ⟨rfl, rfl, rfl⟩ := hcs
    simp only [if_true] at hz
    have hlen : (zs.take sl).length = sl := by rw [List.length_take, hz]; omega
    refine ⟨zs.take sl, some a, sc, by rw [hlen], by rw [hlen]; unfold maxLen at hm; omega, fun i hi => ?_⟩
    rw [hlen] at hi
    have h0 := hcells 0 (by omega)
    have hs : a.spot = none := by simpa [Addr.add] using World.cell?_spot h0
    obtain ⟨b, off, sp⟩ := a
    simp only at hs
    subst hs
    have hi2 := hcells i (by omega)
    rw [Addr.add_lit] at hi2
    have hb := World.block_lt_of_cell? w _ hi2
    refine ⟨b, off, _, rfl, Array.getElem?_eq_getElem hb, trivial, ?_⟩
    have hn : nth (zs.take sl) i = zs.getD i 0 := by
      rw [nth_lt (by rw [hlen]; exact hi)]
      have hz2 : i < zs.length := by omega
      simp [List.getD, List.getElem?_eq_getElem hz2]
    show w.cell? ⟨b, off + i, none⟩ = some (.int .i64 (nth (zs.take sl) i))
    rw [hi2, hn]
end
end Go.Lin
namespace Go.Proofs.Ytnebpcpihldllaa
open Go.ChangeShapes Go.WideShapes Go.ChangeAt Go.RowKit Go.Lin

theorem Try.own5 : ownKnob Try.prog.godebug = none := by kernel_rfl
theorem Try.readSpec : Try.prog.readableRec 24 = true := by kernel_rfl
theorem Try.readInts : Try.prog.readableRec 34 = true := by kernel_rfl

set_option maxRecDepth 100000 in
theorem specIn {H : Type} {enc : TypeId × Value → H} {w : World} {base : Nat} {held : Bool} {r : Reach} {b0 : Nat} {v : Value} {d : DataW H} {p : List MemPlace}
    (hv : Value.okWide Try.prog w r b0 24 v) (h : DataW.Trod enc Try.prog w base (fun _ => true) held 24 v d p) : ∃ s, IsSpec w v s :=
  spec_of_trod Try.underlying24 (by kernel_rfl) (by kernel_rfl) rfl rfl rfl rfl Try.underlying3 Try.underlying22 Try.underlying34 (by kernel_rfl) (by kernel_rfl) hv h

set_option maxRecDepth 100000 in
theorem specRuns_lifted (os : Os) (started : os.Started) (H : Type) (enc : TypeId × Value → H) :
    ReturnsInHanded {} Try.checked os 5 .any (Rows.specRunsSpec.pre6 enc Try.prog Try.f5 Rows.specRunsRow.domain false) (Rows.specRunsSpec.post enc Try.prog Try.f5 false true false false) := by
  refine returnsInHanded_of_change (C := Try.checked) Try.own5 started (by kernel_rfl) Try.func5
    (ChangeSpec.witness6 (enc := enc) (C := Try.checked) false ⟨#[], #[.agg #[.int .i64 0, .int .i64 0, .slice none 0 0, .slice none 0 0], .int .i64 0, .int .i64 0, .slice none 0 0], []⟩ 8 (by kernel_rfl) (by kernel_rfl) (by kernel_rfl) (by kernel_rfl)) ?_
  intro W base args ds gs before hval0 hW hcnd _
  have hval : ∀ (j : Nat) t v, Try.f5.params[j]? = some t → args[j]? = some v → Value.okWide Try.prog W .any base t v := hval0
  have hW' := hW
  obtain ⟨p, q, hA0, hV, rfl, hfz, hnd⟩ := hW
  have hA : DataW.TrodAll enc Try.prog W 0 (fun _ => true) true Try.f5.params.toList args.toList ds p := hA0
  rw [Try.params5] at hA hval
  obtain ⟨v0, v1, v2, v3, d0, d1, d2, d3, p0, p1, p2, p3, rfl, rfl, rfl, h0, h1, h2, h3⟩ := trodAll_four hA
  obtain ⟨rfl, rfl⟩ := trodVars_none hV
  obtain ⟨s, hs⟩ := specIn (hval 0 24 v0 rfl rfl) h0
  obtain ⟨a, rfl, rfl, rfl, wa⟩ := open_int Try.underlying3 (hval 1 3 v1 rfl rfl) h1
  obtain ⟨b, rfl, rfl, rfl, wb⟩ := open_int Try.underlying3 (hval 2 3 v2 rfl rfl) h2
  obtain ⟨xs, hxs⟩ := ints_of_trod Try.underlying34 Try.underlying3 (by kernel_rfl) (hval 3 34 v3 rfl rfl) h3
  clear hA0 hval0
  simp only [List.append_nil] at hW'
  refine (specRuns_law s a b xs v0 v3 W hs hxs).mono fun e W' ⟨he, hg⟩ => ?_
  subst he
  have hlt := hW'.lt
  refine ⟨_, rfl, post_seen (pa := p0 ++ ([] ++ ([] ++ p3))) (pv := []) hW' (fun _ _ _ => trodAll_mk1 (shut_bool Try.underlying4 _))
    (trodAll_mk4 (Below.trod Try.laidOut Try.readSpec (of_decide_eq_true (by kernel_rfl)) h0 hg (fun x hx => hlt x (by simp [hx]))) (shut_int Try.underlying3 wa) (shut_int Try.underlying3 wb) (Below.trod Try.laidOut Try.readInts (of_decide_eq_true (by kernel_rfl)) h3 hg (fun x hx => hlt x (by simp [hx])))) rfl hg⟩

theorem specRuns_holds : Rows.SpecRunsSaid :=
  OpenClaim.holds_of_wide 5 Try.f5 rfl rfl rfl rfl rfl rfl rfl ⟨rfl, rfl, rfl, rfl, rfl⟩ rfl rfl rfl rfl rfl (by kernel_rfl) Try.func5 (by kernel_rfl)
    (of_decide_eq_true (by kernel_rfl)) (by unfold Func.isWrapper; first | (rw [if_pos (by decide +kernel)]; kernel_rfl) | (rw [if_neg (by decide +kernel)]; exact ⟨rfl, rfl⟩))
    (fun os started H enc _ => specRuns_lifted os started H enc)
end Go.Proofs.Ytnebpcpihldllaa
