/- What a statement's argument is, opened: a specification that came in. -/
import Derived.Test.YtnebpcpihldllaaModel
import Derived.Lib.SmallJoins
import Derived.Deep.Matrix
import Derived.Carry
namespace Go.Lin
open Go.RowKit Go.ChangeShapes Go.WideShapes Go.ChangeAt

section
variable {H : Type} {enc : TypeId × Value → H} {P : Program} {w : World} {base : Nat} {held : Bool}

theorem rows_of_trod {t e q : TypeId} {fuel : Nat} {v : Value} {x : DataW H × List MemPlace} (ht : P.underlying t = some (.slice e)) (he : P.underlying e = some (.slice q)) (hq : P.underlying q = some (.int .i64))
    (ce : P.cellsOf e = 1) (cq : P.cellsOf q = 1) (h : DataW.trod enc P w base (fun _ => true) held fuel t [v] = some x) : ∃ rows, IsRows Any w v rows := by
  rcases Deep.open_int_rows ht he hq ce cq h with ⟨hv, _⟩ | ⟨a, len, cap, A, L, C, Z, hv, _, hl, hm, _, hr⟩
  · simp only [List.cons.injEq, and_true] at hv
    subst hv
    exact ⟨[], fun _ => .int .i64 0, Reads.nil _ _ _ _ _, fun i hi => absurd hi (by simp)⟩
  · simp only [List.cons.injEq, and_true] at hv
    subst hv
    have hlen : ((List.range len).map fun r => (Z r).take (L r)).length = len := by simp
    refine ⟨(List.range len).map fun r => (Z r).take (L r), fun r => .slice (A r) (L r) (C r), ?_, fun r hr2 => ?_⟩
    · rw [hlen]
      refine ⟨some a, cap, rfl, by unfold maxLen at hm; omega, fun i hi => ?_⟩
      have h0 := (hr 0 (by omega)).1
      have hs : a.spot = none := by simpa [Addr.add] using World.cell?_spot h0
      obtain ⟨b, off, sp⟩ := a
      simp only at hs
      subst hs
      have hi2 := (hr i (by omega)).1
      rw [Addr.add_lit] at hi2
      have hb := World.block_lt_of_cell? w _ hi2
      exact ⟨b, off, _, rfl, Array.getElem?_eq_getElem hb, trivial, hi2⟩
    · rw [hlen] at hr2
      obtain ⟨_, hLC, hCm, hZ, _, hA, hcells⟩ := hr r (by omega)
      have he2 : nthL ((List.range len).map fun r => (Z r).take (L r)) r = (Z r).take (L r) := by
        rw [nthL_lt (by simpa using hr2)]; simp
      rw [he2]
      have hl2 : ((Z r).take (L r)).length = L r := by rw [List.length_take, hZ]; omega
      refine ⟨A r, C r, by rw [hl2], by rw [hl2]; unfold maxLen at hCm; omega, fun i hi => ?_⟩
      rw [hl2] at hi
      cases hAr : A r with
      | none => have := hA hAr; omega
      | some a' =>
        obtain ⟨_, hc⟩ := hcells a' hAr
        have h0 := hc 0 (by omega)
        have hs : a'.spot = none := by simpa [Addr.add] using World.cell?_spot h0
        obtain ⟨b, off, sp⟩ := a'
        simp only at hs
        subst hs
        have hi2 := hc i (by omega)
        rw [Addr.add_lit] at hi2
        have hb := World.block_lt_of_cell? w _ hi2
        refine ⟨b, off, _, rfl, Array.getElem?_eq_getElem hb, trivial, ?_⟩
        have hn : nth ((Z r).take (L r)) i = (Z r).getD i 0 := by
          rw [nth_lt (by rw [hl2]; exact hi)]
          have hz : i < (Z r).length := by omega
          simp [List.getD, List.getElem?_eq_getElem hz]
        show w.cell? ⟨b, off + i, none⟩ = some (.int .i64 (nth ((Z r).take (L r)) i))
        rw [hi2, hn]

/-- A specification that came in. -/
theorem spec_of_trod {r : Reach} {b0 : Nat} {t t2 t34 t3 : TypeId} {f0 f1 f2 f3 : Field} {v : Value} {d : DataW H} {p : List MemPlace} (hs : P.underlying t = some (.struct #[f0, f1, f2, f3])) (hone : Go.Deep.oneCellFields P #[f0, f1, f2, f3] = true) (hC : P.cellsOf t = 4)
    (e0 : f0.type = t3) (e1 : f1.type = t3) (e2 : f2.type = t2) (e3 : f3.type = t2) (h3 : P.underlying t3 = some (.int .i64)) (h2 : P.underlying t2 = some (.slice t34)) (h34 : P.underlying t34 = some (.slice t3)) (c34 : P.cellsOf t34 = 1) (c3 : P.cellsOf t3 = 1)
    (hv : Value.okWide P w r b0 t v) (h : DataW.Trod enc P w base (fun _ => true) held t v d p) : ∃ s, IsSpec w v s := by
  obtain ⟨v0, v1, v2, v3, y0, y1, y2, y3, n, rfl, _, _, h0, h1, hr2, hr3⟩ := Joins.open_agg4 hs hone hC hv h
  rw [e0] at h0; rw [e1] at h1; rw [e2] at hr2; rw [e3] at hr3
  obtain ⟨a, ha, _, _⟩ := DataW.trod_int h3 h0
  obtain ⟨b, hb, _, _⟩ := DataW.trod_int h3 h1
  simp only [List.cons.injEq, and_true] at ha hb
  subst ha; subst hb
  obtain ⟨rows, hrows⟩ := rows_of_trod h2 h34 h3 c34 c3 hr2
  obtain ⟨rows2, hrows2⟩ := rows_of_trod h2 h34 h3 c34 c3 hr3
  exact ⟨⟨a, b, rows, rows2⟩, v2, v3, rfl, hrows, hrows2⟩

/-- The post of a row that says 'true, and the input reads as it did', of a call that only lays new blocks. -/
theorem post_seen {f : Func} {s : ChangeSpec} {apart fresh handsOn : Bool} {W W' : World} {args : Array Value} {v : Value} {ds gs : List (DataW H)} {before pa pv : List MemPlace}
    (hW : DataW.Whole enc P f.params.toList s.vars apart W args.toList ds gs before)
    (hres : ∀ (b : Nat) (sp : Nat → Bool) (hd : Bool), DataW.TrodAll enc P W' b sp hd f.resultTypes.toList (v.resultList f.resultTypes.size) (s.fn H (ds ++ gs)).results [])
    (hargs : DataW.TrodAll enc P W' 0 (fun b => decide (b < W.heap.size)) true f.params.toList args.toList (s.fn H (ds ++ gs)).args pa)
    (hvars : DataW.TrodVars enc P W' (fun b => decide (b < W.heap.size)) s.vars (s.fn H (ds ++ gs)).vars pv)
    (hb : Below W.heap.size W W') : s.post enc P f apart fresh handsOn false W args v W' :=
  ⟨ds, gs, before, [], pa, pv, hW, hres _ _ _, hargs, hvars, hb.frame _, fun h => by cases h⟩
end
end Go.Lin
