/- A memory that keeps, as the program has it in blocks of its own; the notes' map; many cells at once. -/
import Derived.Test.YtmohnddglmolgaaGreatDoorMaps
import Derived.Test.YtmohnddglmolgaaGreatDoorAppend
import Derived.Test.YtmohnddglmolgaaGreatDoorKpM
import Derived.Deep.OwnRows
import Derived.Deep.MidRow
import Derived.Maps.RangeWalk
import Derived.Maps.OwnOps
import Derived.Maps.Ext
namespace Go.Lin.Kp
open Go Go.RowKit Go.Lin Go.Maps

/-! ### Many cells of a row -/

theorem rowIs_setCells {b : Nat} {t : TypeId} {n : Nat} : ∀ (vs : List Value) (o : Nat) {w : World} {f : Nat → Value}, w.rowIs b t n f →
    (w.setCells b o vs).rowIs b t n (fun i => if o ≤ i then vs.getD (i - o) (f i) else f i)
  | [], o, w, f, h => h.congr fun i _ => by simp
  | v :: r, o, w, f, h => by
    rw [World.setCells]
    refine (rowIs_setCells r (o + 1) (h.set o v)).congr fun i _ => ?_
    by_cases h1 : i = o
    · subst h1; simp; intro h; omega
    · by_cases h2 : o ≤ i
      · obtain ⟨k, rfl⟩ : ∃ k, i = o + 1 + k := ⟨i - (o + 1), by omega⟩
        have e1 : o + 1 + k - o = k + 1 := by omega
        have e2 : o + 1 + k - (o + 1) = k := by omega
        rw [if_pos (by omega), if_pos h2, e1, e2, if_neg h1]
        simp
      · rw [if_neg (by omega), if_neg h1, if_neg h2]

/-- The cells of a row from o on. -/
theorem rangeAt_row {w : World} {b : Nat} {t : TypeId} {n : Nat} {f : Nat → Value} (h : w.rowIs b t n f) (o m : Nat) (hm : o + m ≤ n) (g : Nat → Value) (hg : ∀ j, j < m → f (o + j) = g j) : w.rangeAt b o ((List.range m).map g) := by
  intro j v hv
  rw [List.getElem?_map] at hv
  by_cases hj : j < m
  · rw [List.getElem?_range hj] at hv
    cases hv
    rw [h.cell (by omega), hg j hj]
  · rw [List.getElem?_eq_none (by simpa using Nat.le_of_not_lt hj)] at hv
    cases hv

theorem there_row {w : World} {b : Nat} {t : TypeId} {n : Nat} {f : Nat → Value} (h : w.rowIs b t n f) (o m : Nat) (hm : o + m ≤ n) : w.there b o m := fun j hj =>
  ⟨by rw [h.cell (by omega)]; rfl, h.frozen _⟩

theorem rowIs_keeps {may : Nat → Obj → Prop} {w w' : World} {b : Nat} {t : TypeId} {n : Nat} {f : Nat → Value} (h : w.rowIs b t n f) (hk : Keeps may w w') (hm : ∀ c, ¬ may b (.cells c t (0, 0))) : w'.rowIs b t n f := by
  obtain ⟨c, hb, h2⟩ := h
  exact ⟨c, hk.obj _ _ hb (hm c), h2⟩

/-! ### The notes -/

/-- Block b is a map from cells to the numbers noted. -/
def NMap (w : World) (P : Program) (kt et : TypeId) (b n : Nat) (S : Nat → Option Int) : Prop :=
  ∃ D : DataW Unit, w.ownsMap P kt (plainElem P et) b n D ∧ (∀ l, has D l = true → ∃ i : Nat, i < 64 ∧ l = .int .i64 (i : Int)) ∧
    ∀ i : Nat, has D (.int .i64 (i : Int)) = (S i).isSome ∧ ∀ v, S i = some v → ∀ z, D.atKey (.int .i64 (i : Int)) z = .lit (.int .i64 v)

section
variable {w : World} {P : Program} {kt et : TypeId} {b n : Nat} {S : Nat → Option Int}

theorem NMap.made (w : World) (P : Program) (kt et : TypeId) : NMap (w.alloc (.map #[] 0)) P kt et w.heap.size 0 (fun _ => none) :=
  ⟨.map [], World.ownsMap_made w P kt _, fun _ h => (by cases h), fun _ => ⟨rfl, fun _ h => by cases h⟩⟩

theorem NMap.obj (h : NMap w P kt et b n S) : ∃ es c, w.heap[b]? = some (.map es c) := by
  obtain ⟨D, ⟨es, c, h1, _⟩, _⟩ := h
  exact ⟨es, c, h1⟩

theorem NMap.lt (h : NMap w P kt et b n S) : b < w.heap.size := by
  obtain ⟨D, h1, _⟩ := h
  exact h1.lt

theorem NMap.mono (h : NMap w P kt et b n S) {m : Nat} (hm : n ≤ m) : NMap w P kt et b m S := by
  obtain ⟨D, h1, h2⟩ := h
  exact ⟨D, h1.mono hm, h2⟩

theorem NMap.of_block {w' : World} (h : NMap w P kt et b n S) (e : w'.heap[b]? = w.heap[b]?) : NMap w' P kt et b n S := by
  obtain ⟨D, ⟨es, c, h1, h2⟩, h3⟩ := h
  exact ⟨D, ⟨es, c, e.trans h1, h2⟩, h3⟩

theorem NMap.keeps {may : Nat → Obj → Prop} {w' : World} (h : NMap w P kt et b n S) (hk : Keeps may w w') (hm : ∀ es c, ¬ may b (.map es c)) : NMap w' P kt et b n S := by
  obtain ⟨D, ⟨es, c, h1, h2⟩, h3⟩ := h
  exact ⟨D, ⟨es, c, hk.obj b _ h1 (hm es c), h2⟩, h3⟩

theorem NMap.setOther (h : NMap w P kt et b n S) {a : Addr} (ha : b ≠ a.block) (v : Value) : NMap (w.setCell a v) P kt et b n S := h.of_block (heap_setCell_other _ _ _ _ ha)

theorem NMap.congr {S' : Nat → Option Int} (h : NMap w P kt et b n S) (hS : ∀ x, S x = S' x) : NMap w P kt et b n S' := by
  rw [← (funext hS : S = S')]; exact h

/-- 'notes[c] = v'. -/
theorem NMap.update (h : NMap w P kt et b n S) {t : TypeId} (hk : P.underlying kt = some (.int .i64)) (ht : P.underlying t = some (.map kt et)) (he : P.underlying et = some (.int .i64)) (hn : n < maxLen) {c : Nat} (hc : c < 64) {v : Int} (hv : (Lit.int .i64 v).wf = true) :
    ∃ w', (Instr.mapUpdate t (.map (some b)) (.int .i64 (c : Int)) (.int .i64 v)).run P w = .ok () w' ∧ NMap w' P kt et b (n + 1) (upd S c (some v)) ∧ w.grownBy w' (some b) := by
  obtain ⟨D, hown, hD, hS⟩ := h
  have hkey : keyOf P kt (.int .i64 (c : Int)) = some (.int .i64 (c : Int)) := keyOf_int_mk hk (WalkArith.wf_i64 (by omega))
  obtain ⟨w', hrun, r1, r2⟩ := hown.update (int_keyed hk) ht hn hkey (plainElem_int he hv)
  have hkl := (int_keyed hk).key hkey
  refine ⟨w', hrun, ⟨_, r1, fun l hl => ?_, fun i => ?_⟩, r2⟩
  · by_cases e : l = .int .i64 (c : Int)
    · exact ⟨c, hc, e⟩
    · rw [has_put_other e] at hl; exact hD l hl
  · by_cases e : i = c
    · subst e
      refine ⟨by rw [has_put_same hown.isMap hkl, upd_same]; rfl, fun u hu z => ?_⟩
      rw [upd_same] at hu; cases hu
      rw [atKey_put_same hown.isMap hkl]
    · have e2 : (Lit.int .i64 (i : Int)) ≠ .int .i64 (c : Int) := fun h => e (by cases h; rfl)
      rw [upd_other _ _ e, has_put_other e2]
      refine ⟨(hS i).1, fun u hu z => ?_⟩
      rw [atKey_put_other e2]; exact (hS i).2 u hu z

/-- 'clear(notes)'. -/
theorem NMap.clear (h : NMap w P kt et b n S) {t : TypeId} (ht : P.underlying t = some (.map kt et)) :
    ∃ w', (∀ ty, (Builtin.clear_ #[t] ty #[.map (some b)]).run P w = .ok (.tuple #[]) w') ∧ NMap w' P kt et b 0 (fun _ => none) ∧ w.grownBy w' (some b) ∧ w'.heap.size = w.heap.size := by
  obtain ⟨es, c, hb⟩ := h.obj
  have hlt := lt_of_obj hb
  refine ⟨ChangeMaps.setBlock w b (.map #[] c), fun ty => ?_, ⟨.map [], ⟨#[], c, ChangeMaps.heap_setBlock_same hb _, ⟨by simp, MapKept.stamped_empty c, by simp⟩, Nat.le_refl _, rfl⟩, fun _ h => (by cases h), fun _ => ⟨rfl, fun _ h => by cases h⟩⟩,
    ⟨rfl, rfl, rfl, by simp [ChangeMaps.setBlock], fun i _ hi => ChangeMaps.heap_setBlock_other hb _ (fun e => hi (by rw [e]))⟩, by simp [ChangeMaps.setBlock]⟩
  simp [Builtin.clear_, run_underlying ht, MapKept.run_getObj_map hb, MapKept.run_setObj_map _ hb, Result.andThen, ChangeMaps.setBlock]
end

end Go.Lin.Kp
