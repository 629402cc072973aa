/- A memory that keeps, as the program has it in blocks of its own; the notes' map; many cells at once. The memory of package keep in its blocks; walks of what asks it: none (57), between (54), isCell (59), isNumber (60), asked (53), Power (25), Steps (27), Read (39), Kept (40). Walks: slices.IndexFunc (121), ContainsFunc (99) of ints, areEarly (55), Kept (40). Walks: what a memory does: fail (63), step (101), done (58). Walks: Write (28), Flush (42), Fence (43), with what each does in its step. Walks: slices.Clone (52), New (17), Start (26), Fail (20), Crash (30). -/
import Derived.Test.YtmohnddglmolgaaGreatDoorMaps
import Derived.Test.YtmohnddglmolgaaGreatDoorAppend
import Derived.Test.YtmohnddglmolgaaGreatDoorKpM
import Derived.Deep.OwnRows
import Derived.Deep.MidRow
import Derived.Maps.RangeWalk
import Derived.Maps.OwnOps
import Derived.Maps.Ext
import Derived.Test.YtmohnddglmolgaaGreatDoorChecked
import Derived.IntWalk
import Derived.Deep.RegionLaw
import Derived.Deep.RegionHeld3
import Derived.StillTailTactics
import Derived.Deep.AppendSrc
namespace Go.Lin.Kp
open Go Go.RowKit Go.Lin Go.Maps

/-! ### Many cells of a row -/

theorem rowIs_setCells {b : Nat} {t : TypeId} {n : Nat} : ∀ (vs : List Value) (o : Nat) {w : World} {f : Nat → Value}, w.rowIs b t n f →
    (w.setCells b o vs).rowIs b t n (fun i => if o ≤ i then vs.getD (i - o) (f i) else f i)
  | [], o, w, f, h => h.congr fun i _ => by simp
  | v :: r, o, w, f, h => by
    rw [World.setCells]
    refine (rowIs_setCells r (o + 1) (h.set o v)).congr fun i _ => ?_
    by_cases h1 : i = o
    · subst h1; simp; intro h; omega
    · by_cases h2 : o ≤ i
      · obtain ⟨k, rfl⟩ : ∃ k, i = o + 1 + k := ⟨i - (o + 1), by omega⟩
        have e1 : o + 1 + k - o = k + 1 := by omega
        have e2 : o + 1 + k - (o + 1) = k := by omega
        rw [if_pos (by omega), if_pos h2, e1, e2, if_neg h1]
        simp
      · rw [if_neg (by omega), if_neg h1, if_neg h2]

/-- The cells of a row from o on. -/
theorem rangeAt_row {w : World} {b : Nat} {t : TypeId} {n : Nat} {f : Nat → Value} (h : w.rowIs b t n f) (o m : Nat) (hm : o + m ≤ n) (g : Nat → Value) (hg : ∀ j, j < m → f (o + j) = g j) : w.rangeAt b o ((List.range m).map g) := by
  intro j v hv
  rw [List.getElem?_map] at hv
  by_cases hj : j < m
  · rw [List.getElem?_range hj] at hv
    cases hv
    rw [h.cell (by omega), hg j hj]
  · rw [List.getElem?_eq_none (by simpa using Nat.le_of_not_lt hj)] at hv
    cases hv

theorem there_row {w : World} {b : Nat} {t : TypeId} {n : Nat} {f : Nat → Value} (h : w.rowIs b t n f) (o m : Nat) (hm : o + m ≤ n) : w.there b o m := fun j hj =>
  ⟨by rw [h.cell (by omega)]; rfl, h.frozen _⟩

theorem rowIs_keeps {may : Nat → Obj → Prop} {w w' : World} {b : Nat} {t : TypeId} {n : Nat} {f : Nat → Value} (h : w.rowIs b t n f) (hk : Keeps may w w') (hm : ∀ c, ¬ may b (.cells c t (0, 0))) : w'.rowIs b t n f := by
  obtain ⟨c, hb, h2⟩ := h
  exact ⟨c, hk.obj _ _ hb (hm c), h2⟩

/-! ### The notes -/

/-- Block b is a map from cells to the numbers noted. -/
def NMap (w : World) (P : Program) (kt et : TypeId) (b n : Nat) (S : Nat → Option Int) : Prop :=
  ∃ D : DataW Unit, w.ownsMap P kt (plainElem P et) b n D ∧ (∀ l, has D l = true → ∃ i : Nat, i < 64 ∧ l = .int .i64 (i : Int)) ∧
    ∀ i : Nat, has D (.int .i64 (i : Int)) = (S i).isSome ∧ ∀ v, S i = some v → ∀ z, D.atKey (.int .i64 (i : Int)) z = .lit (.int .i64 v)

section
variable {w : World} {P : Program} {kt et : TypeId} {b n : Nat} {S : Nat → Option Int}

theorem NMap.made (w : World) (P : Program) (kt et : TypeId) : NMap (w.alloc (.map #[] 0)) P kt et w.heap.size 0 (fun _ => none) :=
  ⟨.map [], World.ownsMap_made w P kt _, fun _ h => (by cases h), fun _ => ⟨rfl, fun _ h => by cases h⟩⟩

theorem NMap.obj (h : NMap w P kt et b n S) : ∃ es c, w.heap[b]? = some (.map es c) := by
  obtain ⟨D, ⟨es, c, h1, _⟩, _⟩ := h
  exact ⟨es, c, h1⟩

theorem NMap.lt (h : NMap w P kt et b n S) : b < w.heap.size := by
  obtain ⟨D, h1, _⟩ := h
  exact h1.lt

theorem NMap.mono (h : NMap w P kt et b n S) {m : Nat} (hm : n ≤ m) : NMap w P kt et b m S := by
  obtain ⟨D, h1, h2⟩ := h
  exact ⟨D, h1.mono hm, h2⟩

theorem NMap.of_block {w' : World} (h : NMap w P kt et b n S) (e : w'.heap[b]? = w.heap[b]?) : NMap w' P kt et b n S := by
  obtain ⟨D, ⟨es, c, h1, h2⟩, h3⟩ := h
  exact ⟨D, ⟨es, c, e.trans h1, h2⟩, h3⟩

theorem NMap.keeps {may : Nat → Obj → Prop} {w' : World} (h : NMap w P kt et b n S) (hk : Keeps may w w') (hm : ∀ es c, ¬ may b (.map es c)) : NMap w' P kt et b n S := by
  obtain ⟨D, ⟨es, c, h1, h2⟩, h3⟩ := h
  exact ⟨D, ⟨es, c, hk.obj b _ h1 (hm es c), h2⟩, h3⟩

theorem NMap.setOther (h : NMap w P kt et b n S) {a : Addr} (ha : b ≠ a.block) (v : Value) : NMap (w.setCell a v) P kt et b n S := h.of_block (heap_setCell_other _ _ _ _ ha)

theorem NMap.congr {S' : Nat → Option Int} (h : NMap w P kt et b n S) (hS : ∀ x, S x = S' x) : NMap w P kt et b n S' := by
  rw [← (funext hS : S = S')]; exact h

/-- 'notes[c] = v'. -/
theorem NMap.update (h : NMap w P kt et b n S) {t : TypeId} (hk : P.underlying kt = some (.int .i64)) (ht : P.underlying t = some (.map kt et)) (he : P.underlying et = some (.int .i64)) (hn : n < maxLen) {c : Nat} (hc : c < 64) {v : Int} (hv : (Lit.int .i64 v).wf = true) :
    ∃ w', (Instr.mapUpdate t (.map (some b)) (.int .i64 (c : Int)) (.int .i64 v)).run P w = .ok () w' ∧ NMap w' P kt et b (n + 1) (upd S c (some v)) ∧ w.grownBy w' (some b) := by
  obtain ⟨D, hown, hD, hS⟩ := h
  have hkey : keyOf P kt (.int .i64 (c : Int)) = some (.int .i64 (c : Int)) := keyOf_int_mk hk (WalkArith.wf_i64 (by omega))
  obtain ⟨w', hrun, r1, r2⟩ := hown.update (int_keyed hk) ht hn hkey (plainElem_int he hv)
  have hkl := (int_keyed hk).key hkey
  refine ⟨w', hrun, ⟨_, r1, fun l hl => ?_, fun i => ?_⟩, r2⟩
  · by_cases e : l = .int .i64 (c : Int)
    · exact ⟨c, hc, e⟩
    · rw [has_put_other e] at hl; exact hD l hl
  · by_cases e : i = c
    · subst e
      refine ⟨by rw [has_put_same hown.isMap hkl, upd_same]; rfl, fun u hu z => ?_⟩
      rw [upd_same] at hu; cases hu
      rw [atKey_put_same hown.isMap hkl]
    · have e2 : (Lit.int .i64 (i : Int)) ≠ .int .i64 (c : Int) := fun h => e (by cases h; rfl)
      rw [upd_other _ _ e, has_put_other e2]
      refine ⟨(hS i).1, fun u hu z => ?_⟩
      rw [atKey_put_other e2]; exact (hS i).2 u hu z

/-- 'clear(notes)'. -/
theorem NMap.clear (h : NMap w P kt et b n S) {t : TypeId} (ht : P.underlying t = some (.map kt et)) :
    ∃ w', (∀ ty, (Builtin.clear_ #[t] ty #[.map (some b)]).run P w = .ok (.tuple #[]) w') ∧ NMap w' P kt et b 0 (fun _ => none) ∧ w.grownBy w' (some b) ∧ w'.heap.size = w.heap.size := by
  obtain ⟨es, c, hb⟩ := h.obj
  have hlt := lt_of_obj hb
  refine ⟨ChangeMaps.setBlock w b (.map #[] c), fun ty => ?_, ⟨.map [], ⟨#[], c, ChangeMaps.heap_setBlock_same hb _, ⟨by simp, MapKept.stamped_empty c, by simp⟩, Nat.le_refl _, rfl⟩, fun _ h => (by cases h), fun _ => ⟨rfl, fun _ h => by cases h⟩⟩,
    ⟨rfl, rfl, rfl, by simp [ChangeMaps.setBlock], fun i _ hi => ChangeMaps.heap_setBlock_other hb _ (fun e => hi (by rw [e]))⟩, by simp [ChangeMaps.setBlock]⟩
  simp [Builtin.clear_, run_underlying ht, MapKept.run_getObj_map hb, MapKept.run_setObj_map _ hb, Result.andThen, ChangeMaps.setBlock]
end

end Go.Lin.Kp
namespace Go.Proofs.YtmohnddglmolgaaGreatDoor
open Go Go.RowKit Go.Lin Go.Lin.Kp

/-- The cells of a memory. -/
def memAt (M : Mem) (bn : Nat) (sv : Value) (i : Nat) : Value :=
  if i = 0 then .bool true else if i < 65 then .int .i64 (M.fresh (i - 1)) else if i < 129 then .int .i64 (M.kept (i - 65)) else
  if i = 129 then .map (some bn) else if i = 130 then .bool (!M.on) else if i = 131 then .int .i64 (M.plan : Int) else if i = 132 then sv else
  if i = 133 then .int .i64 (M.steps : Int) else .int .i64 ((M.fails + M.opened : Nat) : Int)

/-- Block bm is the memory M, its notes in block bn, its plan's cells sv. F: its blocks. -/
structure MemIs (w : World) (bm bn : Nat) (sv : Value) (M : Mem) (F : Nat → Prop) : Prop where
  row : w.rowIs bm 89 135 (memAt M bn sv)
  notes : NMap w Tryz.prog 3 3 bn M.steps M.notes
  early : IsInts (fun k _ => F k ∧ k ≠ bm ∧ k ≠ bn) w sv M.early
  inM : F bm
  inN : F bn
  lt : ∀ k, F k → k < w.heap.size

def IsMem (w : World) (bm : Nat) (M : Mem) (F : Nat → Prop) : Prop := ∃ bn sv, MemIs w bm bn sv M F

/-- The address of a block's head. -/
abbrev ptr (b : Nat) : Value := .pointer (some ⟨b, 0, none⟩)

section
variable {w w' : World} {bm bn : Nat} {sv : Value} {M : Mem} {F : Nat → Prop}

theorem MemIs.ne (h : MemIs w bm bn sv M F) : bn ≠ bm := by
  rintro rfl
  obtain ⟨c, h1, _⟩ := h.row
  obtain ⟨es, c', h2⟩ := h.notes.obj
  rw [h2] at h1; cases h1

theorem MemIs.keeps {may : Nat → Obj → Prop} (h : MemIs w bm bn sv M F) (hk : Keeps may w w') (hm : ∀ k o, F k → ¬ may k o) : MemIs w' bm bn sv M F :=
  ⟨rowIs_keeps h.row hk (fun _ => hm _ _ h.inM), h.notes.keeps hk (fun _ _ => hm _ _ h.inN), h.early.keeps hk (fun k o hs => hm k o hs.1), h.inM, h.inN, fun k hF => Nat.lt_of_lt_of_le (h.lt k hF) hk.size⟩
theorem IsMem.keeps {may : Nat → Obj → Prop} (h : IsMem w bm M F) (hk : Keeps may w w') (hm : ∀ k o, F k → ¬ may k o) : IsMem w' bm M F := by
  obtain ⟨bn, sv, h⟩ := h; exact ⟨bn, sv, h.keeps hk hm⟩
theorem MemIs.grew (h : MemIs w bm bn sv M F) (hg : Grew w w') : MemIs w' bm bn sv M F := h.keeps (may := fun _ _ => False) hg.keeps (fun _ _ _ h => h)
theorem IsMem.grew (h : IsMem w bm M F) (hg : Grew w w') : IsMem w' bm M F := h.keeps (may := fun _ _ => False) hg.keeps (fun _ _ _ h => h)
theorem IsMem.lt (h : IsMem w bm M F) : bm < w.heap.size := by obtain ⟨bn, sv, h⟩ := h; exact h.row.lt

theorem MemIs.same_map {bn' : Nat} {sv' : Value} {M' : Mem} {F' : Nat → Prop} (h : MemIs w bm bn sv M F) (h' : MemIs w bm bn' sv' M' F') : bn' = bn := by
  have a : w.cell? ⟨bm, 129, none⟩ = some (.map (some bn)) := h.row.cell (by omega)
  have b : w.cell? ⟨bm, 129, none⟩ = some (.map (some bn')) := h'.row.cell (by omega)
  rw [a] at b
  cases b; rfl
theorem MemIs.made (h : MemIs w bm bn sv M F) : w.cell? ⟨bm, 0, none⟩ = some (.bool true) := h.row.cell (by omega)
theorem MemIs.off (h : MemIs w bm bn sv M F) : w.cell? ⟨bm, 130, none⟩ = some (.bool (!M.on)) := h.row.cell (by omega)
theorem MemIs.cN (h : MemIs w bm bn sv M F) : w.cell? ⟨bm, 129, none⟩ = some (.map (some bn)) := h.row.cell (by omega)
theorem MemIs.cP (h : MemIs w bm bn sv M F) : w.cell? ⟨bm, 131, none⟩ = some (.int .i64 (M.plan : Int)) := h.row.cell (by omega)
theorem MemIs.cE (h : MemIs w bm bn sv M F) : w.cell? ⟨bm, 132, none⟩ = some sv := h.row.cell (by omega)
theorem MemIs.cS (h : MemIs w bm bn sv M F) : w.cell? ⟨bm, 133, none⟩ = some (.int .i64 (M.steps : Int)) := h.row.cell (by omega)
theorem MemIs.cA (h : MemIs w bm bn sv M F) : w.cell? ⟨bm, 134, none⟩ = some (.int .i64 ((M.fails + M.opened : Nat) : Int)) := h.row.cell (by omega)
theorem MemIs.cF (h : MemIs w bm bn sv M F) {i : Nat} (hi : i < 64) : w.cell? ⟨bm, 1 + i, none⟩ = some (.int .i64 (M.fresh i)) := by
  rw [h.row.cell (by omega)]; unfold memAt
  rw [if_neg (by omega), if_pos (by omega), show 1 + i - 1 = i by omega]
theorem MemIs.cK (h : MemIs w bm bn sv M F) {i : Nat} (hi : i < 64) : w.cell? ⟨bm, 65 + i, none⟩ = some (.int .i64 (M.kept i)) := by
  rw [h.row.cell (by omega)]; unfold memAt
  rw [if_neg (by omega), if_neg (by omega), if_pos (by omega), show 65 + i - 65 = i by omega]
end

/-! ### What asks a memory -/

theorem none57_mem (bm : Nat) (M : Mem) (F : Nat → Prop) (w : World) (h : IsMem w bm M F) : Calls Tryz.prog 57 #[ptr bm] w fun e w' => e = .returned (.bool false) ∧ w = w' := by
  obtain ⟨bn, sv, h⟩ := h
  have c0 := h.made
  clear h
  go_enter Tryz.func57, Tryz.ntmps57
  go_wp2
  go_ret
  exact ⟨rfl, rfl⟩

theorem none57_nil (w : World) : Calls Tryz.prog 57 #[.pointer none] w fun e w' => e = .returned (.bool true) ∧ w = w' := by
  go_enter Tryz.func57, Tryz.ntmps57
  go_wp2
  go_ret
  exact ⟨rfl, rfl⟩

theorem none57_zero (bm : Nat) (w : World) (c0 : w.cell? ⟨bm, 0, none⟩ = some (.bool false)) : Calls Tryz.prog 57 #[ptr bm] w fun e w' => e = .returned (.bool true) ∧ w = w' := by
  go_enter Tryz.func57, Tryz.ntmps57
  go_wp2
  go_ret
  exact ⟨rfl, rfl⟩

theorem between54_any (a n b : Int) (w : World) : Calls Tryz.prog 54 #[.int .i64 a, .int .i64 n, .int .i64 b] w fun e w' => e = .returned (.bool (decide (a ≤ n) && decide (n ≤ b))) ∧ w = w' := by
  obtain ⟨x, hx⟩ : ∃ x, decide (a ≤ n) = x := ⟨_, rfl⟩
  rw [hx]
  cases x
  all_goals
    go_enter Tryz.func54, Tryz.ntmps54
    go_wp2
    go_ret
    exact ⟨by simp, rfl⟩

theorem isCell59_any (n : Int) (w : World) : Calls Tryz.prog 59 #[.int .i64 n] w fun e w' => e = .returned (.bool (isCell n)) ∧ w = w' := by
  have HB := hid (between54_any 0 n 63)
  go_enter Tryz.func59, Tryz.ntmps59
  go_wp2_with (go_at_call 54; (with_reducible refine (HB.out _).mono ?_); rintro e w1 ⟨rfl, rfl⟩)
  go_ret
  exact ⟨rfl, rfl⟩

theorem isNumber60_any (n : Int) (w : World) : Calls Tryz.prog 60 #[.int .i64 n] w fun e w' => e = .returned (.bool (isNum n)) ∧ w = w' := by
  have HB := hid (between54_any 0 n 999)
  go_enter Tryz.func60, Tryz.ntmps60
  go_wp2_with (go_at_call 54; (with_reducible refine (HB.out _).mono ?_); rintro e w1 ⟨rfl, rfl⟩)
  go_ret
  exact ⟨rfl, rfl⟩

/-- The first error of a memory, and of whether the rest is right. -/
def askM (M : Mem) (right : Bool) : Int := if right then (if M.on then 0 else 101) else 2

theorem asked53_mem (bm : Nat) (M : Mem) (F : Nat → Prop) (right : Bool) (w : World) (h : IsMem w bm M F) : Calls Tryz.prog 53 #[ptr bm, .bool right] w fun e w' => e = .returned (.int .i64 (askM M right)) ∧ w = w' := by
  have HN := hid (none57_mem bm M F w h)
  obtain ⟨bn, sv, h⟩ := h
  have c0 := h.off
  clear h
  obtain ⟨o, ho⟩ : ∃ o, M.on = o := ⟨_, rfl⟩
  unfold askM
  rw [ho] at c0 ⊢
  clear ho
  cases right <;> cases o
  all_goals
    go_enter Tryz.func53, Tryz.ntmps53
    go_wp2_with (go_at_call 57; (with_reducible refine HN.out.mono ?_); rintro e w1 ⟨rfl, rfl⟩)
    go_ret
    exact ⟨rfl, rfl⟩

theorem asked53_none (v : Value) (right : Bool) (w : World) (h : Calls Tryz.prog 57 #[v] w fun e w' => e = .returned (.bool true) ∧ w = w') : Calls Tryz.prog 53 #[v, .bool right] w fun e w' => e = .returned (.int .i64 102) ∧ w = w' := by
  have HN := hid h
  clear h
  go_enter Tryz.func53, Tryz.ntmps53
  go_wp2_with (go_at_call 57; (with_reducible refine HN.out.mono ?_); rintro e w1 ⟨rfl, rfl⟩)
  go_ret
  exact ⟨rfl, rfl⟩

theorem power25_mem (bm : Nat) (M : Mem) (F : Nat → Prop) (w : World) (h : IsMem w bm M F) : Calls Tryz.prog 25 #[ptr bm] w fun e w' => e = .returned (.bool M.on) ∧ w = w' := by
  have HN := hid (none57_mem bm M F w h)
  obtain ⟨bn, sv, h⟩ := h
  have c0 := h.off
  clear h
  obtain ⟨o, ho⟩ : ∃ o, M.on = o := ⟨_, rfl⟩
  rw [ho] at c0 ⊢
  clear ho
  cases o
  all_goals
    go_enter Tryz.func25, Tryz.ntmps25
    go_wp2_with (go_at_call 57; (with_reducible refine HN.out.mono ?_); rintro e w1 ⟨rfl, rfl⟩)
    go_ret
    exact ⟨rfl, rfl⟩

theorem power25_none (v : Value) (w : World) (h : Calls Tryz.prog 57 #[v] w fun e w' => e = .returned (.bool true) ∧ w = w') : Calls Tryz.prog 25 #[v] w fun e w' => e = .returned (.bool false) ∧ w = w' := by
  have HN := hid h
  clear h
  go_enter Tryz.func25, Tryz.ntmps25
  go_wp2_with (go_at_call 57; (with_reducible refine HN.out.mono ?_); rintro e w1 ⟨rfl, rfl⟩)
  go_ret
  exact ⟨rfl, rfl⟩

theorem steps27_mem (bm : Nat) (M : Mem) (F : Nat → Prop) (w : World) (h : IsMem w bm M F) : Calls Tryz.prog 27 #[ptr bm] w fun e w' => e = .returned (.int .i64 (M.steps : Int)) ∧ w = w' := by
  have HN := hid (none57_mem bm M F w h)
  obtain ⟨bn, sv, h⟩ := h
  have c0 := h.cS
  clear h
  go_enter Tryz.func27, Tryz.ntmps27
  go_wp2_with (go_at_call 57; (with_reducible refine HN.out.mono ?_); rintro e w1 ⟨rfl, rfl⟩)
  go_ret
  exact ⟨rfl, rfl⟩

theorem steps27_none (v : Value) (w : World) (h : Calls Tryz.prog 57 #[v] w fun e w' => e = .returned (.bool true) ∧ w = w') : Calls Tryz.prog 27 #[v] w fun e w' => e = .returned (.int .i64 0) ∧ w = w' := by
  have HN := hid h
  clear h
  go_enter Tryz.func27, Tryz.ntmps27
  go_wp2_with (go_at_call 57; (with_reducible refine HN.out.mono ?_); rintro e w1 ⟨rfl, rfl⟩)
  go_ret
  exact ⟨rfl, rfl⟩

theorem read39_mem (bm : Nat) (M : Mem) (F : Nat → Prop) (c : Int) (w : World) (h : IsMem w bm M F) : Calls Tryz.prog 39 #[ptr bm, .int .i64 c] w fun e w' => e = .returned (.tuple #[.int .i64 (M.read c).1, .int .i64 (M.read c).2]) ∧ w = w' := by
  have HN := hid (asked53_mem bm M F (isCell c) w h)
  have HC := hid (isCell59_any c)
  obtain ⟨bn, sv, h⟩ := h
  have HH := hid h
  clear h
  unfold Mem.read
  unfold askM at HN
  obtain ⟨o, ho⟩ : ∃ o, M.on = o := ⟨_, rfl⟩
  rw [ho] at HN ⊢
  clear ho
  obtain ⟨x, hx⟩ : ∃ x, isCell c = x := ⟨_, rfl⟩
  rw [hx] at HN ⊢
  rw [hx] at HC
  cases x
  · go_enter Tryz.func39, Tryz.ntmps39
    go_wp2_with (first
      | (go_at_call 59; (with_reducible refine (HC.out _).mono ?_); rintro e w1 ⟨rfl, rfl⟩)
      | (go_at_call 53; (with_reducible refine HN.out.mono ?_); rintro e w1 ⟨rfl, rfl⟩))
    go_ret2
    exact ⟨rfl, rfl⟩
  · cases o
    · go_enter Tryz.func39, Tryz.ntmps39
      go_wp2_with (first
        | (go_at_call 59; (with_reducible refine (HC.out _).mono ?_); rintro e w1 ⟨rfl, rfl⟩)
        | (go_at_call 53; (with_reducible refine HN.out.mono ?_); rintro e w1 ⟨rfl, rfl⟩))
      go_ret2
      exact ⟨rfl, rfl⟩
    · obtain ⟨h1, h2⟩ := isCell_iff.1 hx
      clear hx
      obtain ⟨i, rfl⟩ : ∃ i : Nat, c = (i : Int) := ⟨c.toNat, by omega⟩
      have hi : i < 64 := by omega
      have ci := HH.out.cF hi
      go_enter Tryz.func39, Tryz.ntmps39
      go_wp2_with (first
        | (go_at_call 59; (with_reducible refine (HC.out _).mono ?_); rintro e w1 ⟨rfl, rfl⟩)
        | (go_at_call 53; (with_reducible refine HN.out.mono ?_); rintro e w1 ⟨rfl, rfl⟩))
      go_ret2
      exact ⟨rfl, rfl⟩

end Go.Proofs.YtmohnddglmolgaaGreatDoor
namespace Go.Proofs.YtmohnddglmolgaaGreatDoor
open Go Go.RowKit Go.Lin Go.Lin.Kp

/-- The function g, with what it has captured, says p of x; it leaves the world alone. -/
def Says (g : Nat) (caps : Array Value) (x : Value) (p : Bool) : Prop :=
  ∀ w', Calls Tryz.prog g (#[x] ++ caps) w' fun e w'' => e = .returned (.bool p) ∧ w' = w''

def Entered (g : Nat) : Prop := ∀ args w, (callFunc g args).run Tryz.prog w = .ok (.enter g args) w

set_option maxHeartbeats 1000000 in
theorem indexFunc_any (g : Nat) (caps : Array Value) (p : Int → Bool) (v : Value) (xs : List Int) (w : World) (hcf : Entered g) (hx : IsInts Any w v xs) (hp : ∀ i, i < xs.length → Says g caps (.int .i64 (nth xs i)) (p (nth xs i))) :
    Calls Tryz.prog 121 #[v, .func (.func g) #[] caps] w fun e w' => ∃ r : Int, e = .returned (.int .i64 r) ∧ Hid (decide (0 ≤ r) = xs.any p) ∧ w = w' := by
  obtain ⟨a, cap, rfl, hm, hc⟩ := hx
  have HC := hid hc; clear hc
  have HP := hid hp; clear hp
  have hcf' : ∀ args w, (callFunc g args).run Tryz.prog w = .ok (.enter g args) w := hcf
  clear hcf
  go_enter Tryz.func121, Tryz.ntmps121
  go_wp2
  go_loopg [5, 8] (xs.length) (fun k _ i wr => ∃ j : Nat, j ≤ xs.length ∧ i = .int .i64 j ∧ k = xs.length - j ∧ Hid (∀ t, t < j → p (nth xs t) = false) ∧ w = wr)
  case atStart => exact ⟨0, Nat.zero_le _, rfl, rfl, hid (fun t ht => by omega), rfl⟩
  case round =>
    obtain ⟨j, hj, rfl, hk, HT, rfl⟩ := hrel
    have HK := hid hk; clear hk
    by_cases hlt : j < xs.length
    · obtain ⟨b, off, o, rfl, hb, _, hcj⟩ := HC.out j hlt
      clear hb
      have HS := hid (HP.out j hlt)
      by_cases hop : p (nth xs j) = true
      · have HOP := hid hop
        go_wp2_with (refine (show Calls _ _ _ _ _ from HS.out _).mono ?_; rintro e w1 ⟨rfl, rfl⟩)
        go_ret
        refine ⟨(j : Int), rfl, hid ?_, rfl⟩
        rw [show decide ((0 : Int) ≤ (j : Int)) = true by simp]
        refine (List.any_eq_true.2 ⟨nth xs j, ?_, HOP.out⟩).symm
        rw [nth_lt hlt]; exact List.getElem_mem hlt
      · have hop' : p (nth xs j) = false := by simpa using hop
        go_wp2_with (refine (show Calls _ _ _ _ _ from HS.out _).mono ?_; rintro e w1 ⟨rfl, rfl⟩)
        go_roundg (xs.length - (j + 1))
        case measure => have := HK.out; omega
        case rel => exact ⟨j + 1, by omega, by go_num, rfl, hid (lt_succ_all HT.out hop'), rfl⟩
    · obtain rfl : j = xs.length := by omega
      go_wp2
      go_ret
      refine ⟨-1, rfl, hid ?_, rfl⟩
      rw [show decide ((0 : Int) ≤ -1) = false by decide]
      refine (List.any_eq_false.2 ?_).symm
      intro x hx
      obtain ⟨i, hi, rfl⟩ := List.getElem_of_mem hx
      have := HT.out i hi
      rw [nth_lt hi] at this
      simp [this]

set_option maxHeartbeats 1000000 in
theorem containsFunc_any (g : Nat) (caps : Array Value) (p : Int → Bool) (v : Value) (xs : List Int) (w : World) (hcf : Entered g) (hx : IsInts Any w v xs) (hp : ∀ i, i < xs.length → Says g caps (.int .i64 (nth xs i)) (p (nth xs i))) :
    Calls Tryz.prog 99 #[v, .func (.func g) #[] caps] w fun e w' => e = .returned (.bool (xs.any p)) ∧ w = w' := by
  have h := indexFunc_any g caps p v xs w hcf hx hp
  have H := hid h; clear h hcf hx hp
  go_enter Tryz.func99, Tryz.ntmps99
  go_wp2_with (go_at_call 121; with_reducible refine H.out.mono ?_; rintro e w1 ⟨r, rfl, hr, rfl⟩)
  go_ret
  exact ⟨ret_bool hr.out, rfl⟩


theorem notCell100_any (n : Int) : Says 100 #[] (.int .i64 n) (!isCell n) := fun w => by
  have HB := hid (isCell59_any n)
  show Calls Tryz.prog 100 #[.int .i64 n] w _
  go_enter Tryz.func100, Tryz.ntmps100
  go_wp2_with (go_at_call 59; (with_reducible refine (HB.out _).mono ?_); rintro e w1 ⟨rfl, rfl⟩)
  go_ret
  exact ⟨rfl, rfl⟩

theorem entered100 : Entered 100 := fun _ _ => by kernel_rfl

theorem areEarly55_any (v : Value) (l : List Int) (w : World) (h : IsInts Any w v l) : Calls Tryz.prog 55 #[v] w fun e w' => e = .returned (.bool (areEarly l)) ∧ w = w' := by
  have HC := hid (containsFunc_any 100 #[] (fun n => !isCell n) v l w entered100 h (fun i _ => notCell100_any _))
  obtain ⟨a, c, rfl, hl, -⟩ := h
  have he : areEarly l = (decide (l.length ≤ 10) && !l.any (fun n => !isCell n)) := by
    unfold areEarly; rw [List.not_any_eq_all_not]; simp
  rw [he]
  obtain ⟨b, hb⟩ : ∃ b, l.any (fun n => !isCell n) = b := ⟨_, rfl⟩
  rw [hb] at HC ⊢
  clear hb he
  obtain ⟨n, hn⟩ : ∃ n, l.length = n := ⟨_, rfl⟩
  rw [hn] at HC hl ⊢
  clear hn

  by_cases h10 : n ≤ 10
  · have h2 : decide ((n : Int) ≤ 10) = true := by simp; omega
    have h3 : decide (n ≤ 10) = true := by simpa using h10
    rw [h3]
    cases b
    all_goals
      go_enter Tryz.func55, Tryz.ntmps55
      go_wp2_with (go_at_call 99; (with_reducible refine HC.out.mono ?_); rintro e w1 ⟨rfl, rfl⟩)
      go_ret
      exact ⟨rfl, rfl⟩
  · have h2 : decide ((n : Int) ≤ 10) = false := by simp; omega
    have h3 : decide (n ≤ 10) = false := by simpa using h10
    rw [h3]
    go_enter Tryz.func55, Tryz.ntmps55
    go_wp2_with (go_at_call 99; (with_reducible refine HC.out.mono ?_); rintro e w1 ⟨rfl, rfl⟩)
    go_ret
    exact ⟨rfl, rfl⟩

theorem kept40_mem (bm : Nat) (M : Mem) (F : Nat → Prop) (c : Int) (w : World) (h : IsMem w bm M F) : Calls Tryz.prog 40 #[ptr bm, .int .i64 c] w fun e w' => e = .returned (.tuple #[.int .i64 (M.keptAt c).1, .int .i64 (M.keptAt c).2]) ∧ w = w' := by
  have HN := hid (none57_mem bm M F w h)
  have HC := hid (isCell59_any c)
  obtain ⟨bn, sv, h⟩ := h
  have HH := hid h
  clear h
  unfold Mem.keptAt
  obtain ⟨x, hx⟩ : ∃ x, isCell c = x := ⟨_, rfl⟩
  rw [hx] at HC ⊢
  cases x
  · go_enter Tryz.func40, Tryz.ntmps40
    go_wp2_with (first
      | (go_at_call 59; (with_reducible refine (HC.out _).mono ?_); rintro e w1 ⟨rfl, rfl⟩)
      | (go_at_call 57; (with_reducible refine HN.out.mono ?_); rintro e w1 ⟨rfl, rfl⟩))
    go_ret2
    exact ⟨rfl, rfl⟩
  · obtain ⟨h1, h2⟩ := isCell_iff.1 hx
    clear hx
    obtain ⟨i, rfl⟩ : ∃ i : Nat, c = (i : Int) := ⟨c.toNat, by omega⟩
    have hi : i < 64 := by omega
    have ci := HH.out.cK hi
    go_enter Tryz.func40, Tryz.ntmps40
    go_wp2_with (first
      | (go_at_call 59; (with_reducible refine (HC.out _).mono ?_); rintro e w1 ⟨rfl, rfl⟩)
      | (go_at_call 57; (with_reducible refine HN.out.mono ?_); rintro e w1 ⟨rfl, rfl⟩))
    go_ret2
    exact ⟨rfl, rfl⟩

theorem kept40_none (v : Value) (c : Int) (w : World) (h : Calls Tryz.prog 57 #[v] w fun e w' => e = .returned (.bool true) ∧ w = w') : Calls Tryz.prog 40 #[v, .int .i64 c] w fun e w' => e = .returned (.tuple #[.int .i64 0, .int .i64 102]) ∧ w = w' := by
  have HN := hid h
  clear h
  go_enter Tryz.func40, Tryz.ntmps40
  go_wp2_with (go_at_call 57; (with_reducible refine HN.out.mono ?_); rintro e w1 ⟨rfl, rfl⟩)
  go_ret2
  exact ⟨rfl, rfl⟩

theorem read39_none (v : Value) (c : Int) (w : World) (h : ∀ r, Calls Tryz.prog 53 #[v, .bool r] w fun e w' => e = .returned (.int .i64 102) ∧ w = w') : Calls Tryz.prog 39 #[v, .int .i64 c] w fun e w' => e = .returned (.tuple #[.int .i64 0, .int .i64 102]) ∧ w = w' := by
  have HN := hid (h (isCell c))
  have HC := hid (isCell59_any c)
  clear h
  obtain ⟨x, hx⟩ : ∃ x, isCell c = x := ⟨_, rfl⟩
  rw [hx] at HN HC
  clear hx
  go_enter Tryz.func39, Tryz.ntmps39
  go_wp2_with (first
    | (go_at_call 59; (with_reducible refine (HC.out _).mono ?_); rintro e w1 ⟨rfl, rfl⟩)
    | (go_at_call 53; (with_reducible refine HN.out.mono ?_); rintro e w1 ⟨rfl, rfl⟩))
  go_ret2
  exact ⟨rfl, rfl⟩

end Go.Proofs.YtmohnddglmolgaaGreatDoor
namespace Go.Proofs.YtmohnddglmolgaaGreatDoor
open Go Go.RowKit Go.Lin Go.Lin.Kp

/-- A memory's blocks may turn, and no others. -/
abbrev InF (F : Nat → Prop) : Nat → Obj → Prop := fun k _ => F k

theorem keptOf_snoc (M : Mem) (l : List Int) (c : Nat) (i : Nat) : keptOf M (l ++ [(c : Int)]) i = if i = c then M.fresh i else keptOf M l i := by
  unfold keptOf
  by_cases h : i = c
  · subst h; simp
  · have : (i : Int) ≠ (c : Int) := by omega
    simp [h, this]

theorem keeps_set1 {w : World} {b i : Nat} (v : Value) (may : Nat → Obj → Prop) (hm : ∀ o, may b o) : Keeps may w (w.setCell ⟨b, i, none⟩ v) :=
  ⟨rfl, rfl, rfl, by simp, fun k o h hn => by
    by_cases e : k = b
    · subst e; exact absurd (hm o) hn
    · rw [heap_setCell_other _ _ _ _ e]; exact h⟩

set_option maxHeartbeats 1000000 in
theorem fail63_any (bm : Nat) (M : Mem) (F : Nat → Prop) (v : Value) (l : List Int) (S : Nat → Obj → Prop) (w : World) (h : IsMem w bm M F) (hsz : M.fails + M.opened < 1000000000) (hl : areEarly l = true) (hv : IsInts S w v l) (hS : ∀ k o, S k o → k ≠ bm) :
    Calls Tryz.prog 63 #[ptr bm, v] w fun e w' => e = .returned (.tuple #[]) ∧ IsMem w' bm (M.fail l) F ∧ Keeps (InF F) w w' := by
  obtain ⟨bn, sv, h⟩ := h
  obtain ⟨a, cap, rfl, hm, hc⟩ := hv
  have hcells : ∀ c ∈ l, 0 ≤ c ∧ c ≤ 63 := by
    intro c hc2
    unfold areEarly at hl
    rw [Bool.and_eq_true, List.all_eq_true] at hl
    exact isCell_iff.1 (hl.2 c hc2)
  have HC := hid hc; have HL := hid hcells; have HH := hid h; have HSS := hid hS
  clear hc hcells h hS hl
  obtain ⟨n, hn⟩ : ∃ n, l.length = n := ⟨_, rfl⟩
  rw [hn] at HC hm ⊢
  have HN := hid hn
  clear hn
  go_enter Tryz.func63, Tryz.ntmps63
  go_wp2
  go_loopg [5, 8] n (fun gk _ i wr => ∃ j : Nat, j ≤ n ∧ i = .int .i64 (j : Int) ∧ Hid (gk = n - j) ∧ Hid (wr.rowIs bm 89 135 (memAt { M with kept := keptOf M (l.take j) } bn sv)) ∧ Hid (Keeps (fun k _ => k = bm) w wr))
  case atStart => exact ⟨0, Nat.zero_le _, rfl, hid rfl, hid (HH.out.row.congr fun i _ => by simp [memAt, keptOf]), hid (Keeps.refl _ _)⟩
  case round =>
    obtain ⟨j, hj, rfl, HGK, HR, HK⟩ := hrel
    rename World => wr
    by_cases hlt : j < n
    · obtain ⟨b, off, o, rfl, hb, hso, hcj⟩ := HC.out j hlt
      have hbm := HSS.out _ _ hso
      have hb2 := HK.out.obj _ _ hb hbm
      have cv := cell_of_obj hb hb2 hcj
      have hjl : j < l.length := by rw [HN.out]; exact hlt
      rw [nth_lt hjl] at cv
      obtain ⟨c, hcc⟩ : ∃ c, l[j] = c := ⟨_, rfl⟩
      rw [hcc] at cv
      have hc2 := HL.out c (by rw [← hcc]; exact List.getElem_mem hjl)
      obtain ⟨ci, rfl⟩ : ∃ ci : Nat, c = (ci : Int) := ⟨c.toNat, by omega⟩
      have hci : ci < 64 := by omega
      have hcI : (ci : Int) < 64 := by omega
      have cf := HR.out.cell (i := 1 + ci) (by omega)
      rw [show memAt { M with kept := keptOf M (l.take j) } bn sv (1 + ci) = .int .i64 (M.fresh ci) by unfold memAt; rw [if_neg (by omega), if_pos (by omega), show 1 + ci - 1 = ci by omega]] at cf
      have ck := HR.out.cell (i := 65 + ci) (by omega)
      have fk := HR.out.frozen (65 + ci)
      have htk : l.take (j + 1) = l.take j ++ [(ci : Int)] := by rw [List.take_add_one, List.getElem?_eq_getElem hjl, hcc]; rfl
      have HTK := hid htk
      clear hb hso hcj hb2 hcc hc2 hjl hbm htk
      go_wp2
      go_region_law (fail)
      go_wp2
      go_roundg (n - (j + 1))
      case measure => have := HGK.out; omega
      case rel =>
        refine ⟨j + 1, by omega, by go_num, hid rfl, hid ((HR.out.set (65 + ci) (.int .i64 (M.fresh ci))).congr fun i hi => ?_), hid ((HK.out.trans (keeps_set1 _ _ fun _ => rfl)).drew)⟩
        rw [HTK.out]
        unfold memAt
        by_cases e : i = 65 + ci
        · subst e
          rw [if_pos rfl, if_neg (by omega), if_neg (by omega), if_pos (by omega)]
          dsimp only
          rw [keptOf_snoc, if_pos (by omega), show 65 + ci - 65 = ci by omega]
        · rw [if_neg e]
          by_cases h1 : i < 65
          · by_cases h0 : i = 0
            · rw [if_pos h0, if_pos h0]
            · rw [if_neg h0, if_neg h0, if_pos h1, if_pos h1]
          · by_cases h2 : i < 129
            · rw [if_neg (by omega), if_neg h1, if_pos h2, if_neg (by omega), if_neg h1, if_pos h2]
              dsimp only
              rw [keptOf_snoc, if_neg (by omega)]
            · have h0 : i ≠ 0 := by omega
              rw [if_neg h0, if_neg h1, if_neg h2, if_neg h0, if_neg h1, if_neg h2]
    · obtain rfl : j = n := by omega
      obtain ⟨w2, hcl, hn2, hg2, hz2⟩ := (HH.out.notes.keeps HK.out (fun es c e => HH.out.ne e)).clear Tryz.underlying85
      have hne := HH.out.ne
      have hr2 : w2.rowIs bm 89 135 (memAt { M with kept := keptOf M (l.take j) } bn sv) := HR.out.of_block (hg2.block _ HR.out.lt (by simpa using fun e => hne e.symm))
      have cN := HR.out.cell (i := 129) (by omega)
      rw [show memAt { M with kept := keptOf M (l.take j) } bn sv 129 = .map (some bn) by rfl] at cN
      have d0 := hr2.cell (i := 130) (by omega)
      have d1 := hr2.cell (i := 131) (by omega)
      have d2 := hr2.cell (i := 132) (by omega)
      have d4 := hr2.cell (i := 134) (by omega)
      rw [show memAt { M with kept := keptOf M (l.take j) } bn sv 134 = .int .i64 ((M.fails + M.opened : Nat) : Int) by rfl] at d4
      have e0 := hr2.frozen 130
      have e1 := hr2.frozen 131
      have e2 := hr2.frozen 132
      have e4 := hr2.frozen 134
      have HR2 := hid hr2; have HN2 := hid hn2; have HG2 := hid hg2; have HZ2 := hid hz2
      clear hr2 hn2 hg2 hz2 hne
      go_wp2
      go_end0
      have hne := HH.out.ne
      refine ⟨rfl, ⟨bn, .slice none 0 0, ?_, ?_, ?_, HH.out.inM, HH.out.inN, ?_⟩, ?_⟩
      · refine ((((HR2.out.set 130 (.bool true)).set 131 (.int .i64 0)).set 132 (.slice none 0 0)).set 134 (.int .i64 ((M.fails : Int) + (M.opened : Int) + 1))).congr fun i hi => ?_
        rw [List.take_of_length_le (by rw [HN.out]; exact Nat.le_refl _)]
        unfold memAt Mem.fail
        by_cases h1 : i < 129
        · rw [if_neg (by omega), if_neg (by omega), if_neg (by omega), if_neg (by omega)]
          simp only [h1, if_true]
        · have : i = 129 ∨ i = 130 ∨ i = 131 ∨ i = 132 ∨ i = 133 ∨ i = 134 := by omega
          rcases this with rfl | rfl | rfl | rfl | rfl | rfl
          · rfl
          · rfl
          · rfl
          · rfl
          · rfl
          · simp; omega
      · exact ((((HN2.out.mono (Nat.zero_le _)).setOther hne _).setOther hne _).setOther hne _).setOther hne _
      · exact Reads.nil _ _ _ _ _
      · intro k hk
        have := HH.out.lt k hk
        have := HK.out.size
        simp only [World.size_setCell, HZ2.out]; omega
      · have hk1 : Keeps (InF F) w w2 := (HK.out.mono (fun k o e => by rw [e]; exact HH.out.inM)).grown HG2.out (fun k o e _ => by cases e; exact HH.out.inN)
        have hb : ∀ (i : Nat) (u : Value) (x : World), Keeps (InF F) x (x.setCell ⟨bm, i, none⟩ u) := fun i u x => keeps_set1 u _ (fun _ => HH.out.inM)
        exact (((hk1.trans (hb _ _ _)).trans (hb _ _ _)).trans (hb _ _ _)).trans (hb _ _ _)

/-- A step is counted. -/
abbrev tick (M : Mem) : Mem := { M with plan := M.plan - 1, steps := M.steps + 1 }

/-- What a call leaves of a memory: its answer, the memory, and that nothing else of what was there has turned. -/
abbrev Left (w : World) (bm : Nat) (o : Ord) (F : Nat → Prop) (e : Ending) (w' : World) : Prop := e = .returned (.int .i64 o.1) ∧ IsMem w' bm o.2 F ∧ Keeps (InF F) w w'

/-- What is to be done in a step. -/
abbrev Does (bm : Nat) (M : Mem) (F : Nat → Prop) (g : Nat) (caps : Array Value) (f : Mem → Mem) (w : World) : Prop :=
  ∀ w1, IsMem w1 bm (tick M) F → (∀ bn sv, MemIs w1 bm bn sv (tick M) F → NMap w1 Tryz.prog 3 3 bn M.steps M.notes) → Keeps (InF F) w w1 → Calls Tryz.prog g caps w1 fun e w2 => e = .returned (.tuple #[]) ∧ IsMem w2 bm (f (tick M)) F ∧ Keeps (InF F) w1 w2

theorem MemIs.tick0 {w : World} {bm bn : Nat} {sv : Value} {M : Mem} {F : Nat → Prop} (h : MemIs w bm bn sv M F) (hp : M.plan = 0) :
    MemIs (w.setCell ⟨bm, 133, none⟩ (.int .i64 ((M.steps : Int) + 1))) bm bn sv (tick M) F ∧ Keeps (InF F) w (w.setCell ⟨bm, 133, none⟩ (.int .i64 ((M.steps : Int) + 1))) := by
  have hk : Keeps (InF F) w (w.setCell ⟨bm, 133, none⟩ (.int .i64 ((M.steps : Int) + 1))) := keeps_set1 _ _ (fun _ => h.inM)
  refine ⟨⟨(h.row.set 133 _).congr fun i hi => ?_, (h.notes.setOther h.ne _).mono (by dsimp only; omega), h.early.keeps (keeps_set1 _ (fun k _ => k = bm) (fun _ => rfl)) (fun k o hs e => hs.2.1 e), h.inM, h.inN, fun k hk2 => Nat.lt_of_lt_of_le (h.lt k hk2) hk.size⟩, hk⟩
  unfold memAt
  by_cases h1 : i < 129
  · rw [if_neg (by omega)]; simp only [h1, if_true]
  · have : i = 129 ∨ i = 130 ∨ i = 131 ∨ i = 132 ∨ i = 133 ∨ i = 134 := by omega
    rcases this with rfl | rfl | rfl | rfl | rfl | rfl
    · rfl
    · rfl
    · simp [hp]
    · rfl
    · simp
    · rfl

theorem MemIs.tick1 {w : World} {bm bn : Nat} {sv : Value} {M : Mem} {F : Nat → Prop} (h : MemIs w bm bn sv M F) (hp : 1 ≤ M.plan) :
    MemIs ((w.setCell ⟨bm, 131, none⟩ (.int .i64 ((M.plan : Int) - 1))).setCell ⟨bm, 133, none⟩ (.int .i64 ((M.steps : Int) + 1))) bm bn sv (tick M) F ∧ Keeps (InF F) w ((w.setCell ⟨bm, 131, none⟩ (.int .i64 ((M.plan : Int) - 1))).setCell ⟨bm, 133, none⟩ (.int .i64 ((M.steps : Int) + 1))) := by
  have hk : ∀ may : Nat → Obj → Prop, (∀ o, may bm o) → Keeps may w ((w.setCell ⟨bm, 131, none⟩ (.int .i64 ((M.plan : Int) - 1))).setCell ⟨bm, 133, none⟩ (.int .i64 ((M.steps : Int) + 1))) := fun may hm => (keeps_set1 _ _ hm).trans (keeps_set1 _ _ hm)
  refine ⟨⟨((h.row.set 131 _).set 133 _).congr fun i hi => ?_, ((h.notes.setOther h.ne _).setOther h.ne _).mono (by dsimp only; omega), h.early.keeps (hk (fun k _ => k = bm) (fun _ => rfl)) (fun k o hs e => hs.2.1 e), h.inM, h.inN, fun k hk2 => Nat.lt_of_lt_of_le (h.lt k hk2) (hk (InF F) (fun _ => h.inM)).size⟩, hk _ (fun _ => h.inM)⟩
  unfold memAt
  by_cases h1 : i < 129
  · rw [if_neg (by omega), if_neg (by omega)]; simp only [h1, if_true]
  · have : i = 129 ∨ i = 130 ∨ i = 131 ∨ i = 132 ∨ i = 133 ∨ i = 134 := by omega
    rcases this with rfl | rfl | rfl | rfl | rfl | rfl
    · rfl
    · rfl
    · simp; omega
    · rfl
    · simp
    · rfl

set_option maxHeartbeats 1000000 in
theorem step101_any (bm : Nat) (M : Mem) (F : Nat → Prop) (g : Nat) (caps : Array Value) (f : Mem → Mem) (w : World) (h : IsMem w bm M F) (hok : Ok M) (hsz : M.size < 1000000000) (hcf : Entered g) (hdo : Does bm M F g caps f w) :
    Calls Tryz.prog 101 #[ptr bm, .func (.func g) #[] caps] w (Left w bm (M.step f) F) := by
  have hcf' : ∀ args w, (callFunc g args).run Tryz.prog w = .ok (.enter g args) w := hcf
  have hp1000 := hok.plan
  have hF := fun sv (hv : IsInts (fun k _ => F k ∧ k ≠ bm) w sv M.early) => fail63_any bm M F sv M.early _ w h (by unfold Mem.size at hsz; omega) hok.early hv (fun k o hs => hs.2)
  obtain ⟨bn, sv, h⟩ := h
  have HF := hid (hF sv (h.early.mono fun k o hs => ⟨hs.1, hs.2.1⟩))
  have HD := hid hdo
  clear hdo hcf hF
  have cP := h.cP; have cE := h.cE; have cS := h.cS
  have fP := h.row.frozen 131; have fS := h.row.frozen 133
  unfold Mem.size at hsz
  obtain ⟨st, hst⟩ : ∃ st, M.steps = st := ⟨_, rfl⟩
  obtain ⟨p, hp⟩ : ∃ p, M.plan = p := ⟨_, rfl⟩
  by_cases h1 : p = 1
  · have he : M.step f = (101, M.fail M.early) := by unfold Mem.step; rw [if_pos (hp.trans h1)]
    rw [he]
    rw [hp, h1] at cP
    clear he h hp hst
    go_enter Tryz.func101, Tryz.ntmps101
    go_wp2_with (go_at_call 63; (with_reducible refine HF.out.mono ?_); rintro e w1 ⟨rfl, hm, hk⟩; have HM := hid hm; have HK := hid hk; clear hm hk)
    go_ret
    exact ⟨rfl, HM.out, HK.out⟩
  · have he : M.step f = (0, f (tick M)) := by unfold Mem.step; rw [if_neg (by omega)]
    rw [he]
    by_cases h0 : p = 0
    · obtain ⟨ht, hk⟩ := h.tick0 (hp.trans h0)
      have HC := hid (HD.out _ ⟨_, _, ht⟩ (fun bn' sv' h' => by rw [ht.same_map h']; exact h.notes.setOther h.ne _) hk)
      have HK0 := hid hk
      rw [hp, h0] at cP
      rw [hst] at cS HC HK0 hsz
      clear he h hp hst ht hk
      go_enter Tryz.func101, Tryz.ntmps101
      go_wp2_with (refine (show Calls _ _ _ _ _ from HC.out).mono ?_; rintro e w1 ⟨rfl, hm, hk⟩; have HM := hid hm; have HK := hid hk; clear hm hk)
      go_ret
      exact ⟨rfl, HM.out, HK0.out.trans HK.out⟩
    · obtain ⟨ht, hk⟩ := h.tick1 (by omega)
      have HC := hid (HD.out _ ⟨_, _, ht⟩ (fun bn' sv' h' => by rw [ht.same_map h']; exact (h.notes.setOther h.ne _).setOther h.ne _) hk)
      have HK0 := hid hk
      rw [hp] at cP HC HK0 hp1000
      rw [hst] at cS HC HK0 hsz
      clear he h hp hst ht hk
      have e1 : ((p : Int) == 1) = false := by rw [beq_eq_false_iff_ne]; omega
      have e2 : (0 : Int) < (p : Int) := by omega
      go_enter Tryz.func101, Tryz.ntmps101
      go_wp2_with (refine (show Calls _ _ _ _ _ from HC.out).mono ?_; rintro e w1 ⟨rfl, hm, hk⟩; have HM := hid hm; have HK := hid hk; clear hm hk)
      go_ret
      exact ⟨rfl, HM.out, HK0.out.trans HK.out⟩

theorem done58_any (bm : Nat) (M : Mem) (F : Nat → Prop) (right : Bool) (g : Nat) (caps : Array Value) (f : Mem → Mem) (w : World) (h : IsMem w bm M F) (hok : Ok M) (hsz : M.size < 1000000000) (hcf : Entered g) (hdo : right = true → Does bm M F g caps f w) :
    Calls Tryz.prog 58 #[ptr bm, .bool right, .func (.func g) #[] caps] w (Left w bm (M.done right f) F) := by
  have HA := hid (asked53_mem bm M F right w h)
  have HM0 := hid h
  unfold Mem.done
  unfold askM at HA
  cases right with
  | false =>
    simp only [Bool.false_eq_true, if_false] at HA ⊢
    clear hdo
    go_enter Tryz.func58, Tryz.ntmps58
    go_wp2_with (go_at_call 53; (with_reducible refine HA.out.mono ?_); rintro e w1 ⟨rfl, rfl⟩)
    go_ret
    exact ⟨rfl, HM0.out, Keeps.refl _ _⟩
  | true =>
    simp only [if_true] at HA ⊢
    obtain ⟨o, ho⟩ : ∃ o, M.on = o := ⟨_, rfl⟩
    rw [ho] at HA ⊢
    clear ho
    cases o with
    | false =>
      simp only [Bool.false_eq_true, if_false] at HA ⊢
      clear hdo
      go_enter Tryz.func58, Tryz.ntmps58
      go_wp2_with (go_at_call 53; (with_reducible refine HA.out.mono ?_); rintro e w1 ⟨rfl, rfl⟩)
      go_ret
      exact ⟨rfl, HM0.out, Keeps.refl _ _⟩
    | true =>
      simp only [if_true] at HA ⊢
      have HS := hid (step101_any bm M F g caps f w h hok hsz hcf (hdo rfl))
      clear hdo h
      go_enter Tryz.func58, Tryz.ntmps58
      go_wp2_with (first
        | (go_at_call 53; (with_reducible refine HA.out.mono ?_); rintro e w1 ⟨rfl, rfl⟩)
        | (go_at_call 101; (with_reducible refine HS.out.mono ?_); rintro e w1 ⟨rfl, hm, hk⟩; have HM := hid hm; have HK := hid hk; clear hm hk))
      go_ret
      exact ⟨rfl, HM.out, HK.out⟩

end Go.Proofs.YtmohnddglmolgaaGreatDoor
namespace Go.Proofs.YtmohnddglmolgaaGreatDoor
open Go Go.RowKit Go.Lin Go.Lin.Kp

theorem setF_cells {M : Mem} {bn : Nat} {sv : Value} {c : Nat} {n : Int} (hc : c < 64) (i : Nat) :
    (if i = 1 + c then .int .i64 n else memAt M bn sv i) = memAt (Mem.setF c n M) bn sv i := by
  unfold memAt Mem.setF upd
  by_cases e : i = 1 + c
  · subst e
    rw [if_pos rfl, if_neg (by omega), if_pos (by omega)]
    dsimp only
    rw [if_pos (by omega)]
  · rw [if_neg e]
    by_cases h0 : i = 0
    · rw [if_pos h0, if_pos h0]
    · by_cases h1 : i < 65
      · rw [if_neg h0, if_neg h0, if_pos h1, if_pos h1]
        dsimp only
        rw [if_neg (by omega)]
      · rw [if_neg h0, if_neg h0, if_neg h1, if_neg h1]

theorem do61_any (bm : Nat) (M : Mem) (F : Nat → Prop) (c : Nat) (n : Int) (b0 b1 b2 : Nat) (w : World) (h : IsMem w bm M F) (hc : c < 64)
    (k0 : w.cell? ⟨b0, 0, none⟩ = some (ptr bm)) (k1 : w.cell? ⟨b1, 0, none⟩ = some (.int .i64 (c : Int))) (k2 : w.cell? ⟨b2, 0, none⟩ = some (.int .i64 n)) :
    Calls Tryz.prog 61 #[ptr b2, ptr b0, ptr b1] w fun e w' => e = .returned (.tuple #[]) ∧ IsMem w' bm (Mem.setF c n M) F ∧ Keeps (InF F) w w' := by
  obtain ⟨bn, sv, h⟩ := h
  have HH := hid h
  have cf := h.cF hc
  have ff := h.row.frozen (1 + c)
  have hcI : (c : Int) < 64 := by omega
  clear h
  go_enter Tryz.func61, Tryz.ntmps61
  go_wp2
  go_region_law (fail)
  all_goals (
    go_wp2
    go_end0
    have h := HH.out
    have hk : ∀ may : Nat → Obj → Prop, (∀ o, may bm o) → Keeps may w (w.setCell ⟨bm, 1 + c, none⟩ (.int .i64 n)).drew := fun may hm => (keeps_set1 _ _ hm).drew
    exact ⟨rfl, ⟨bn, sv, (h.row.set (1 + c) _).congr fun i _ => setF_cells hc i, h.notes.setOther h.ne _, h.early.keeps (hk (fun k _ => k = bm) (fun _ => rfl)) (fun k o hs e => hs.2.1 e), h.inM, h.inN, fun k hk2 => Nat.lt_of_lt_of_le (h.lt k hk2) (hk (InF F) (fun _ => h.inM)).size⟩, hk _ (fun _ => h.inM)⟩)

theorem entered61 : Entered 61 := fun _ _ => by kernel_rfl

theorem three_new (w : World) (a b c : Value) (s t u : TypeId) : ∃ W, ((w.alloc (.cells #[a] s)).alloc (.cells #[b] t)).alloc (.cells #[c] u) = W ∧ Grew w W ∧ W.cell? ⟨w.heap.size, 0, none⟩ = some a ∧ W.cell? ⟨w.heap.size + 1, 0, none⟩ = some b ∧ W.cell? ⟨w.heap.size + 1 + 1, 0, none⟩ = some c ∧ w.heap.size + 1 + 1 < W.heap.size :=
  ⟨_, rfl, grew_alloc (grew_alloc (grew_alloc (grew_refl _) _) _) _, by go_simp, by go_simp, by go_simp, by simp⟩

theorem cell_inF {w w' : World} {F : Nat → Prop} {W : World} {bm : Nat} {M : Mem} {b o : Nat} {v : Value} (hm : IsMem W bm M F) (hk : Keeps (InF F) w w') (hb : W.heap.size ≤ b) (hc : w.cell? ⟨b, o, none⟩ = some v) : w'.cell? ⟨b, o, none⟩ = some v := by
  obtain ⟨bn, sv, hm⟩ := hm
  have hlt := World.block_lt_of_cell? w _ hc
  have ho : w.heap[b]? = some w.heap[b] := Array.getElem?_eq_getElem hlt
  exact cell_of_obj ho (hk.obj b _ ho (fun e => by have := hm.lt b e; omega)) hc

theorem still_of {P : Program} {f : FuncId} {args : Array Value} {w : World} {v : Value} (h : Calls P f args w fun e w' => e = .returned v ∧ w = w') : Calls P f args w fun e w' => e = .returned v ∧ w' = w :=
  h.mono fun _ _ ⟨a, b⟩ => ⟨a, b.symm⟩

theorem isMem_heap {w w' : World} {bm : Nat} {M : Mem} {F : Nat → Prop} (he : w'.heap = w.heap) (h : IsMem w bm M F) : IsMem w' bm M F := by
  obtain ⟨bn, sv, h⟩ := h
  refine ⟨bn, sv, h.row.of_block (by rw [he]), h.notes.of_block (by rw [he]), ?_, h.inM, h.inN, fun k hk => by rw [he]; exact h.lt k hk⟩
  obtain ⟨a, c, e, hl, hc⟩ := h.early
  exact ⟨a, c, e, hl, fun i hi => by
    obtain ⟨b, off, o, e1, e2, e3, e4⟩ := hc i hi
    exact ⟨b, off, o, e1, by rw [he]; exact e2, e3, by simp only [World.cell?, he] at e4 ⊢; exact e4⟩⟩

set_option maxHeartbeats 1000000 in
set_option maxRecDepth 20000 in
theorem write28_any (bm : Nat) (M : Mem) (F : Nat → Prop) (c n : Int) (w : World) (h : IsMem w bm M F) (hok : Ok M) (hsz : M.size < 1000000000) :
    Calls Tryz.prog 28 #[ptr bm, .int .i64 c, .int .i64 n] w (Left w bm (M.write c n) F) := by
  obtain ⟨W1, hW1, g1, k0, k1, k2, hz⟩ := three_new w (ptr bm) (.int .i64 c) (.int .i64 n) 35 3 3
  have HIC := hid (isCell59_any c)
  have HIN := hid (isNumber60_any n)
  have HG1 := hid g1
  have hdo : ∀ W2, W2.heap = W1.heap → (isCell c && isNum n) = true → Does bm M F 61 #[ptr (w.heap.size + 1 + 1), ptr w.heap.size, ptr (w.heap.size + 1)] (Mem.setF c.toNat n) W2 := by
    intro W2 he hr w2 hm _ hk
    rw [Bool.and_eq_true, isCell_iff] at hr
    have hl : ∀ b v, W1.cell? ⟨b, 0, none⟩ = some v → w.heap.size ≤ b → w2.cell? ⟨b, 0, none⟩ = some v := fun b v hv hb => cell_inF h hk hb (by simp only [World.cell?, he] at hv ⊢; exact hv)
    exact do61_any bm (tick M) F c.toNat n _ _ _ w2 hm (by omega) (hl _ _ k0 (Nat.le_refl _)) (by rw [Int.toNat_of_nonneg hr.1.1]; exact hl _ _ k1 (by omega)) (hl _ _ k2 (by omega))
  have HD := hid (fun (W2 : World) (he : W2.heap = W1.heap) => done58_any bm M F (isCell c && isNum n) 61 #[ptr (w.heap.size + 1 + 1), ptr w.heap.size, ptr (w.heap.size + 1)] _ W2 (isMem_heap he (h.grew g1)) hok hsz entered61 (hdo W2 he))
  have HM := hid (h.grew g1)
  unfold Mem.write
  obtain ⟨x, hx⟩ : ∃ x, isCell c = x := ⟨_, rfl⟩
  obtain ⟨y, hy⟩ : ∃ y, isNum n = y := ⟨_, rfl⟩
  rw [hx] at HIC HD ⊢
  rw [hy] at HIN HD ⊢
  have HMM := hid h
  clear hdo h hok hx hy g1
  cases x
  · simp only [Bool.false_and] at HD ⊢
    go_enter Tryz.func28, Tryz.ntmps28
    go_wp2
    refine wp_region_still_tail 8 (by kernel_rfl) (by kernel_rfl) ?_
    simp only [List.take_succ_cons, List.take_zero, List.drop_succ_cons, List.drop_zero]
    repeat (refine wpStill_step (fun K hK => ?_); go_simp; (first | (with_reducible refine hK _ ?_)| (with_reducible refine ⟨_, still_of (HIC.out _), hK _ ?_⟩) | (with_reducible refine ⟨_, still_of (HIN.out _), hK _ ?_⟩)); clear hK K)
    refine wpStill_nil ?_
    change wpList _ _ _ _ _ W1.drew
    go_wp2_with (go_at_call 58; (with_reducible refine (HD.out _ (heap_drew _)).mono ?_); rintro e w1 ⟨rfl, hm, hk⟩; have HM1 := hid hm; have HK1 := hid hk; clear hm hk)
    go_ret
    exact ⟨rfl, HM1.out, ((HG1.out.keeps).drew).trans HK1.out⟩
  · simp only [Bool.true_and] at HD ⊢
    cases y
    all_goals
      go_enter Tryz.func28, Tryz.ntmps28
      go_wp2
      refine wp_region_still_tail 8 (by kernel_rfl) (by kernel_rfl) ?_
      simp only [List.take_succ_cons, List.take_zero, List.drop_succ_cons, List.drop_zero]
      repeat (refine wpStill_step (fun K hK => ?_); go_simp; (first | (with_reducible refine hK _ ?_)| (with_reducible refine ⟨_, still_of (HIC.out _), hK _ ?_⟩) | (with_reducible refine ⟨_, still_of (HIN.out _), hK _ ?_⟩)); clear hK K)
      refine wpStill_nil ?_
      change wpList _ _ _ _ _ W1.drew
      go_wp2_with (go_at_call 58; (with_reducible refine (HD.out _ (heap_drew _)).mono ?_); rintro e w1 ⟨rfl, hm, hk⟩; have HM1 := hid hm; have HK1 := hid hk; clear hm hk)
      go_ret
      exact ⟨rfl, HM1.out, ((HG1.out.keeps).drew).trans HK1.out⟩

/-! ### Flush -/

theorem memIs_map {w w' : World} {bm bn : Nat} {sv : Value} {M M' : Mem} {F : Nat → Prop} (h : MemIs w bm bn sv M F) (hg : w.grownBy w' (some bn)) (hn : NMap w' Tryz.prog 3 3 bn M'.steps M'.notes) (hc : ∀ i, memAt M bn sv i = memAt M' bn sv i) (he : M.early = M'.early) :
    MemIs w' bm bn sv M' F ∧ Keeps (InF F) w w' := by
  have hk : ∀ may : Nat → Obj → Prop, (∀ o, may bn o) → Keeps may w w' := fun may hm => (Keeps.refl _ w).grown hg (fun k o e _ => by cases e; exact hm o)
  refine ⟨⟨(h.row.of_block (hg.block _ h.row.lt (fun e => h.ne (by cases e; rfl)))).congr fun i _ => hc i, hn, ?_, h.inM, h.inN, fun k hk2 => Nat.lt_of_lt_of_le (h.lt k hk2) (hk (InF F) (fun _ => h.inN)).size⟩, hk _ (fun _ => h.inN)⟩
  rw [← he]
  exact h.early.keeps (hk (fun k _ => k = bn) (fun _ => rfl)) (fun k o hs e => hs.2.2 e)

theorem wpList_note {P : Program} {w : World} {ops : Array Oper} {rest : List Oper} {o : Oper} {a : Act} {Q : Exit → Act → World → Prop} (hg : o.guard = none) (m x v : Operand) (t : TypeId) (hop : o.op = Op.mapUpdate t m x v)
    {kt et : TypeId} (hk : P.underlying kt = some (.int .i64)) (ht : P.underlying t = some (.map kt et)) (he : P.underlying et = some (.int .i64)) {b n : Nat} {S : Nat → Option Int} (hm : a.eval m = .map (some b)) (hown : NMap w P kt et b n S) (hn : n < maxLen)
    (c : Nat) (hc : c < 64) (hx : a.eval x = .int .i64 (c : Int)) (u : Int) (hv : a.eval v = .int .i64 u) (hu : (Lit.int .i64 u).wf = true)
    (hK : ∀ w', NMap w' P kt et b (n + 1) (upd S c (some u)) → w.grownBy w' (some b) → wpList P ops Q rest (a.put o.dst undef) w') : wpList P ops Q (o :: rest) a w := by
  refine wpList_plain hg fun K' hK' => ?_
  obtain ⟨w', hrun, r1, r2⟩ := hown.update hk ht he hn hc hu
  unfold Oper.wp
  simp [execOp, hop, hm, hx, hv, hrun, Result.andThen]
  exact hK' _ _ (hK w' r1 r2)

set_option maxHeartbeats 1000000 in
set_option maxRecDepth 20000 in
theorem do83_any (bm : Nat) (M : Mem) (F : Nat → Prop) (c : Nat) (b0 b1 : Nat) (w : World) (h : IsMem w bm (tick M) F) (hN : ∀ bn sv, MemIs w bm bn sv (tick M) F → NMap w Tryz.prog 3 3 bn M.steps M.notes) (hok : Ok M) (hsz : M.size < 1000000000) (hc : c < 64)
    (k0 : w.cell? ⟨b0, 0, none⟩ = some (ptr bm)) (k1 : w.cell? ⟨b1, 0, none⟩ = some (.int .i64 (c : Int))) :
    Calls Tryz.prog 83 #[ptr b0, ptr b1] w fun e w' => e = .returned (.tuple #[]) ∧ IsMem w' bm (Mem.noteF c (tick M)) F ∧ Keeps (InF F) w w' := by
  obtain ⟨bn, sv, h⟩ := h
  have HN := hid (hN bn sv h)
  have HH := hid h
  have cn := h.cN
  have cf := h.cF hc
  obtain ⟨f, hf⟩ : ∃ f, M.fresh c = f := ⟨_, rfl⟩
  have hf2 : (tick M).fresh c = f := hf
  rw [hf2] at cf
  have hfb := hok.fresh c
  rw [hf] at hfb
  have HF := hid hf
  have hcI : (c : Int) < 64 := by omega
  have hst : M.steps < 1000000000 := by unfold Mem.size at hsz; omega
  clear h hN hf hf2
  go_enter Tryz.func83, Tryz.ntmps83
  go_wp2
  go_still_tail 11, (by kernel_rfl)
  change wpList _ _ _ _ _ w.drew
  go_wp2_with (at_mapUpdate; refine wpList_note rfl _ _ _ 85 rfl Tryz.underlying3 Tryz.underlying85 Tryz.underlying3 rfl (show NMap w.drew _ _ _ _ _ _ from HN.out) (by unfold maxLen; omega) c hc rfl f rfl (WalkArith.wf_i64 (by omega)) ?_; intro w2 hn2 hg2; have HN2 := hid hn2; have HG2 := hid hg2; clear hn2 hg2)
  go_end0
  have hh := memIs_map (M' := Mem.noteF c (tick M)) (HH.out.keeps ((Keeps.refl (fun _ _ => False) w).drew) (fun _ _ _ h => h)) HG2.out (HN2.out.congr fun i => by unfold Mem.noteF; dsimp only; rw [HF.out]) (fun i => rfl) rfl
  exact ⟨rfl, ⟨bn, sv, hh.1⟩, ((Keeps.refl _ w).drew).trans hh.2⟩

theorem entered83 : Entered 83 := fun _ _ => by kernel_rfl

theorem two_new' (w : World) (a b : Value) (s t : TypeId) : ∃ W, (w.alloc (.cells #[a] s)).alloc (.cells #[b] t) = W ∧ Grew w W ∧ W.cell? ⟨w.heap.size, 0, none⟩ = some a ∧ W.cell? ⟨w.heap.size + 1, 0, none⟩ = some b ∧ w.heap.size + 1 < W.heap.size :=
  ⟨_, rfl, grew_alloc (grew_alloc (grew_refl _) _) _, by go_simp, by go_simp, by simp⟩

set_option maxHeartbeats 1000000 in
set_option maxRecDepth 20000 in
theorem flush42_any (bm : Nat) (M : Mem) (F : Nat → Prop) (c : Int) (w : World) (h : IsMem w bm M F) (hok : Ok M) (hsz : M.size < 1000000000) :
    Calls Tryz.prog 42 #[ptr bm, .int .i64 c] w (Left w bm (M.flush c) F) := by
  obtain ⟨W1, hW1, g1, k0, k1, hz⟩ := two_new' w (ptr bm) (.int .i64 c) 35 3
  have HIC := hid (isCell59_any c)
  have HG1 := hid g1
  have hdo : ∀ W2, W2.heap = W1.heap → isCell c = true → Does bm M F 83 #[ptr w.heap.size, ptr (w.heap.size + 1)] (Mem.noteF c.toNat) W2 := by
    intro W2 he hr w2 hm hN hk
    rw [isCell_iff] at hr
    have hl : ∀ b v, W1.cell? ⟨b, 0, none⟩ = some v → w.heap.size ≤ b → w2.cell? ⟨b, 0, none⟩ = some v := fun b v hv hb => cell_inF h hk hb (by simp only [World.cell?, he] at hv ⊢; exact hv)
    exact do83_any bm M F c.toNat _ _ w2 hm hN hok hsz (by omega) (hl _ _ k0 (Nat.le_refl _)) (by rw [Int.toNat_of_nonneg hr.1]; exact hl _ _ k1 (by omega))
  have HD := hid (fun (W2 : World) (he : W2.heap = W1.heap) => done58_any bm M F (isCell c) 83 #[ptr w.heap.size, ptr (w.heap.size + 1)] _ W2 (isMem_heap he (h.grew g1)) hok hsz entered83 (hdo W2 he))
  unfold Mem.flush
  obtain ⟨x, hx⟩ : ∃ x, isCell c = x := ⟨_, rfl⟩
  rw [hx] at HIC HD ⊢
  clear hdo h hok hx g1
  cases x
  all_goals
    go_enter Tryz.func42, Tryz.ntmps42
    go_wp2
    refine wp_region_still_tail 4 (by kernel_rfl) (by kernel_rfl) ?_
    simp only [List.take_succ_cons, List.take_zero, List.drop_succ_cons, List.drop_zero]
    repeat (refine wpStill_step (fun K hK => ?_); go_simp; (first | (with_reducible refine hK _ ?_)| (with_reducible refine ⟨_, still_of (HIC.out _), hK _ ?_⟩)); clear hK K)
    refine wpStill_nil ?_
    change wpList _ _ _ _ _ W1.drew
    go_wp2_with (go_at_call 58; (with_reducible refine (HD.out _ (heap_drew _)).mono ?_); rintro e w1 ⟨rfl, hm, hk⟩; have HM1 := hid hm; have HK1 := hid hk; clear hm hk)
    go_ret
    exact ⟨rfl, HM1.out, ((HG1.out.keeps).drew).trans HK1.out⟩

/-! ### Fence -/

/-- The kept numbers, once all notes are carried out but those that are still to come. -/
def doneK (M : Mem) (left : Lit → Bool) : Nat → Int := fun i => match M.notes i with
  | some v => if left (.int .i64 (i : Int)) = true then M.kept i else v
  | none => M.kept i

theorem kept_cells {M : Mem} {bn : Nat} {sv : Value} {K K' : Nat → Int} {c : Nat} {n : Int} (hc : c < 64) (hK : ∀ i, K' i = if i = c then n else K i) (i : Nat) :
    (if i = 65 + c then .int .i64 n else memAt { M with kept := K } bn sv i) = memAt { M with kept := K' } bn sv i := by
  unfold memAt
  by_cases e : i = 65 + c
  · subst e
    rw [if_pos rfl, if_neg (by omega), if_neg (by omega), if_pos (by omega)]
    dsimp only
    rw [hK, if_pos (by omega)]
  · rw [if_neg e]
    by_cases h1 : i < 65
    · by_cases h0 : i = 0
      · rw [if_pos h0, if_pos h0]
      · rw [if_neg h0, if_neg h0, if_pos h1, if_pos h1]
    · have h0 : i ≠ 0 := by omega
      by_cases h2 : i < 129
      · rw [if_neg h0, if_neg h1, if_pos h2, if_neg h0, if_neg h1, if_pos h2]
        dsimp only
        rw [hK, if_neg (by omega)]
      · rw [if_neg h0, if_neg h1, if_neg h2, if_neg h0, if_neg h1, if_neg h2]

theorem grownBy_set {w : World} {b i : Nat} (v : Value) : w.grownBy (w.setCell ⟨b, i, none⟩ v) (some b) :=
  ⟨rfl, rfl, rfl, by simp, fun k _ hk => heap_setCell_other _ _ _ _ (fun e => hk (by rw [e]))⟩

set_option maxHeartbeats 2000000 in
set_option maxRecDepth 20000 in
theorem do84_any (bm : Nat) (M : Mem) (F : Nat → Prop) (b0 : Nat) (w : World) (h : IsMem w bm M F) (hb0 : ¬ F b0)
    (k0 : w.cell? ⟨b0, 0, none⟩ = some (ptr bm)) :
    Calls Tryz.prog 84 #[ptr b0] w fun e w' => e = .returned (.tuple #[]) ∧ IsMem w' bm (Mem.fenceF M) F ∧ Keeps (InF F) w w' := by
  obtain ⟨bn, sv, h⟩ := h
  have HH := hid h
  have cn := h.cN
  have hne := h.ne
  obtain ⟨D, hown, hD, hS⟩ := h.notes
  have hlt := hown.lt
  have hb0w := World.block_lt_of_cell? w _ k0
  have hbmw := h.row.lt
  have HD := hid hD; have HS := hid hS; have HNE := hid hne
  have law : Maps.Keyed Tryz.prog 3 := Maps.int_keyed Tryz.underlying3
  have HO := hid hown
  have hb0m : b0 ≠ bm := fun e => hb0 (e ▸ HH.out.inM)
  clear h hD hS hne hown
  go_enter Tryz.func84, Tryz.ntmps84
  go_wp2_with (at_range; refine wpList_range_own _ rfl _ 85 rfl 3 3 law Tryz.underlying85 _ bn M.steps D rfl HO.out ?_; intro w0 hrg0 hg0 hs0; have HRG0 := hid hrg0; have HG0 := hid hg0; have HS0 := hid hs0; clear hrg0 hg0 hs0)
  go_loopg [1, 2] (Maps.size D) (fun gk _ _ wr => ∃ left, Hid (wr.ranges Tryz.prog 3 (plainElem Tryz.prog 3) bn w.heap.size M.steps D left gk) ∧ Hid (wr.rowIs bm 89 135 (memAt { M with kept := doneK M left } bn sv)) ∧ Hid (Keeps (fun k _ => k = bm) w wr))
  case atStart =>
    refine ⟨Maps.has D, HRG0, hid ((HH.out.row.of_block (HG0.out.block _ HH.out.row.lt (by simp))).congr fun i _ => ?_), hid ((Keeps.refl _ w).grown HG0.out (fun k o e _ => by cases e))⟩
    have : doneK M (Maps.has D) = M.kept := by
      funext j
      unfold doneK
      cases e : M.notes j with
      | none => rfl
      | some v => exact if_pos (by rw [(HS.out j).1, e]; rfl)
    rw [this]
  case round =>
    obtain ⟨left, HRG, HR, HK⟩ := hrel
    rename World => wr
    clear HRG0 HG0 HS0
    have kb := cell_of_obj (Array.getElem?_eq_getElem hb0w) (HK.out.obj b0 _ (Array.getElem?_eq_getElem hb0w) hb0m) k0
    go_wp2_with (at_next; refine wpList_next_ranges_ii _ rfl _ rfl 3 3 .i64 .i64 law Tryz.underlying3 Tryz.underlying3 bn w.heap.size M.steps D _ _ rfl HRG.out ?_ ?_)
    · intro _ hl0
      have hNm : NMap wr Tryz.prog 3 3 bn M.steps M.notes := ⟨D, HRG.out.owns, HD.out, HS.out⟩
      obtain ⟨w2, hcl, hn2, hg2, hz2⟩ := hNm.clear Tryz.underlying85
      have hr1 : wr.rowIs bm 89 135 (memAt { M with kept := fenced M } bn sv) := by
        have : doneK M left = fenced M := by
          funext j
          unfold doneK fenced
          cases e : M.notes j with
          | none => rfl
          | some v => exact if_neg (by rw [hl0]; decide)
        rw [← this]; exact HR.out
      have cn := hr1.cell (i := 129) (by omega)
      rw [show memAt { M with kept := fenced M } bn sv 129 = .map (some bn) by rfl] at cn
      have HR1 := hid hr1; have HN2 := hid hn2; have HG2 := hid hg2; have HZ2 := hid hz2
      clear hl0 hNm hr1 hn2 hg2 hz2
      go_wp2
      go_end0
      have h := HH.out
      refine ⟨rfl, ⟨bn, sv, (HR1.out.of_block (HG2.out.block _ HR1.out.lt (fun e => HNE.out (by cases e; rfl)))).congr fun i _ => rfl, HN2.out.mono (Nat.zero_le _), ?_, h.inM, h.inN, fun k hk => ?_⟩, ?_⟩
      · refine (h.early.keeps HK.out (fun k o hs e => hs.2.1 e)).keeps ((Keeps.refl (fun k _ => k = bn) _).grown HG2.out (fun k o e _ => by cases e; rfl)) (fun k o hs e => hs.2.2 e)
      · have := h.lt k hk; have := HK.out.size; rw [HZ2.out]; omega
      · exact (HK.out.mono (fun k o e => by rw [e]; exact h.inM)).grown HG2.out (fun k o e _ => by cases e; exact h.inN)
    · intro x c w1 cnt1 hwx hwc hlx hat hrg1 hlt1 hg1 hs1 hen
      obtain ⟨ci, hci, hxe⟩ := HD.out _ (Maps.has_true_of_atKey hat)
      cases hxe
      have hcI : (ci : Int) < 64 := by omega
      have hS := HS.out ci
      rw [Maps.has_true_of_atKey hat] at hS
      obtain ⟨u, hu⟩ := Option.isSome_iff_exists.1 hS.1.symm
      have huc : c = u := by
        have h1 := hS.2 u hu (.lit (.int .i64 0))
        rw [hat] at h1
        cases h1; rfl
      subst huc
      have hr1 : w1.rowIs bm 89 135 (memAt { M with kept := doneK M left } bn sv) := HR.out.of_block (hg1.block _ HR.out.lt (fun e => by cases e; omega))
      have hk1 : Keeps (fun k _ => k = bm) w w1 := ⟨hg1.os.trans HK.out.os, hg1.tape.trans HK.out.tape, hg1.output.trans HK.out.output, Nat.le_trans HK.out.size hg1.size, fun k o ho hn => by
        have h1 := HK.out.obj k o ho hn
        have hl := lt_of_obj ho
        exact (hg1.block k (lt_of_obj h1) (fun e => by cases e; omega)).trans h1⟩
      have kb1 := cell_of_obj (Array.getElem?_eq_getElem hb0w) (hk1.obj b0 _ (Array.getElem?_eq_getElem hb0w) hb0m) k0
      have cc := hr1.cell (i := 65 + ci) (by omega)
      have fc := hr1.frozen (65 + ci)
      have HU := hid hu; have HR1 := hid hr1; have HK1 := hid hk1; have HRG1 := hid hrg1; have HL1 := hid hlt1
      clear hat hS hu hr1 hk1 hrg1 hlt1 hg1 hs1 hlx HR HK HRG kb
      go_wp2
      go_roundg cnt1
      case measure => exact HL1.out
      case rel =>
        refine ⟨_, hid (HRG1.out.kept (grownBy_set _) (fun e => HNE.out (by cases e; rfl)) (fun e => by cases e; omega)), hid ((HR1.out.set (65 + ci) (.int .i64 c)).congr fun i _ => kept_cells hci (fun j => ?_) i), hid (HK1.out.trans (keeps_set1 _ _ fun _ => rfl))⟩
        unfold doneK
        by_cases e : j = ci
        · subst e
          rw [if_pos rfl, HU.out]
          dsimp only
          rw [if_neg]
          simp [WideAt.sameKey_self (law.key (Maps.keyOf_int_mk Tryz.underlying3 hwx))]
        · rw [if_neg e]
          cases M.notes j with
          | none => rfl
          | some v =>
            dsimp only
            simp [Maps.sameKey_ne (a := Lit.int .i64 (j : Int)) (b := Lit.int .i64 (ci : Int)) (fun h => e (by cases h; rfl))]

theorem entered84 : Entered 84 := fun _ _ => by kernel_rfl

set_option maxHeartbeats 1000000 in
set_option maxRecDepth 20000 in
theorem fence43_any (bm : Nat) (M : Mem) (F : Nat → Prop) (w : World) (h : IsMem w bm M F) (hok : Ok M) (hsz : M.size < 1000000000) :
    Calls Tryz.prog 43 #[ptr bm] w (Left w bm M.fence F) := by
  obtain ⟨W1, hW1, g1, k0, hz⟩ := box1 w (ptr bm) 35
  have HG1 := hid g1
  have hnF : ¬ F w.heap.size := fun e => by obtain ⟨bn, sv, h⟩ := h; have := h.lt _ e; omega
  have hdo : Does bm M F 84 #[ptr w.heap.size] Mem.fenceF W1 := by
    intro w2 hm _ hk
    exact do84_any bm (tick M) F w.heap.size w2 hm hnF (cell_inF h hk (Nat.le_refl _) k0)
  have HD := hid (done58_any bm M F true 84 #[ptr w.heap.size] _ W1 (h.grew g1) hok hsz entered84 (fun _ => hdo))
  unfold Mem.fence
  clear hdo h hok g1
  go_enter Tryz.func43, Tryz.ntmps43
  go_wp2_with (go_at_call 58; (with_reducible refine HD.out.mono ?_); rintro e w1 ⟨rfl, hm, hk⟩; have HM1 := hid hm; have HK1 := hid hk; clear hm hk)
  go_ret
  exact ⟨rfl, HM1.out, (HG1.out.keeps).trans HK1.out⟩

end Go.Proofs.YtmohnddglmolgaaGreatDoor
namespace Go.Proofs.YtmohnddglmolgaaGreatDoor
open Go Go.RowKit Go.Lin Go.Lin.Kp

theorem Tryz.info3 : (Tryz.prog.info? 3).map (fun i => (i.zero, i.size, i.bytes)) = some (some (.int .i64 0), 1, 8) := by kernel_rfl
set_option maxHeartbeats 1000000 in
set_option maxRecDepth 20000 in
theorem clone_any (v : Value) (n : Nat) (f : Nat → Value) (w : World) (hn : n ≤ 1000000) (hv : Reads Any w v n f) (h1 : ∀ i, (f i).oneCell' = true) :
    Calls Tryz.prog 52 #[v] w fun e w' => ∃ u, e = .returned u ∧ Seg w' w.heap.size 3 1 u n ((List.range n).map f) ∧ Grew w w' := by
  obtain ⟨a, cap, rfl, hm, hc⟩ := hv
  have HC := hid hc; clear hc
  rcases a with _ | ad
  · have h0 : n = 0 := by
      rcases Nat.eq_zero_or_pos n with h | h
      · exact h
      · obtain ⟨_, _, _, h2, _⟩ := HC.out 0 h; cases h2
    subst h0
    have hnil := fun w => Lib.run_eql_slice_nil (P := Tryz.prog) w 39 3 none 0 cap 0 0 Tryz.underlying39
    go_enter Tryz.func52, Tryz.ntmps52
    go_wp2
    go_ret
    exact ⟨.slice none 0 0, rfl, Seg.nil _ _ _ _, grew_refl _⟩
  · have hnil := fun w => Lib.run_eql_slice_nil (P := Tryz.prog) w 39 3 (some ad) n cap 0 0 Tryz.underlying39
    obtain ⟨i0, hi, hz0, hz1, hz2⟩ := info_parts Tryz.info3
    have hsrc : Src Tryz.prog 1 39 (.slice (some ad) n cap) n ((List.range n).map f) (w.alloc (.cells #[] 3)) := by
      refine Src.ofSlice _ Tryz.underlying39 ad n cap _ (by simp) ?_ ?_
      · intro j u hj
        have hjn : j < n := by have := (List.getElem?_eq_some_iff.1 hj).1; simpa using this
        simp only [List.getElem?_map, List.getElem?_range hjn, Option.map_some, Option.some.injEq] at hj
        obtain ⟨b, off, o, h2, h3, _, h5⟩ := HC.out j hjn
        cases h2
        rw [Addr.add_lit, World.cell?_alloc_lt (a := ⟨b, off + j, none⟩) _ _ (lt_of_obj h3), h5, hj]
      · intro u hu
        obtain ⟨i, _, rfl⟩ := List.mem_map.1 hu
        exact h1 i
    have hseg : Seg (w.alloc (.cells #[] 3)) w.heap.size 3 1 (.slice (some ⟨w.heap.size, 0, none⟩) 0 0) 0 [] :=
      ⟨by simp, .inr ⟨w.heap.size, 0, 0, #[], rfl, Nat.le_refl _, heap_alloc_new w _, Nat.le_refl _, by unfold maxLen; omega, by simp, by simp⟩⟩
    have HSRC := hid hsrc; clear hsrc
    have HSEG := hid hseg; clear hseg
    clear HC
    go_enter Tryz.func52, Tryz.ntmps52
    go_wp2_with (at_builtin; refine wpList_append_seg rfl _ _ 39 39 rfl w.heap.size 3 i0 (.int .i64 0) 1 8 Tryz.underlying39 hi hz0 hz1 hz2 rfl _ 0 [] rfl HSEG.out _ rfl n _ HSRC.out (by unfold maxLen; omega) (by omega) ?_ ?_; simp; intro v1 w1 hown1 hgrow1 hblk1)
    go_ret
    have hg : Grew w w1 := ((grew_refl w).alloc (Nat.le_refl _) _).grown hgrow1 (by simp) (fun k e => by cases e; exact Nat.le_refl _)
    exact ⟨v1, rfl, by simpa using hown1, hg⟩

theorem range_nth (x : List Int) (n : Nat) (hn : x.length = n) : (List.range n).map (fun i => Value.int .i64 (nth x i)) = x.map (.int .i64) := by
  subst hn
  apply List.ext_getElem?
  intro i
  by_cases h : i < x.length
  · simp [nth_lt h, h]
  · simp [h]

theorem clone_ints (v : Value) (n : Nat) (x : List Int) (w : World) (hn : x.length = n) (hl : n ≤ 1000000) (hv : IsInts Any w v x) :
    Calls Tryz.prog 52 #[v] w fun e w' => ∃ u, e = .returned u ∧ Seg w' w.heap.size 3 1 u n (x.map (.int .i64)) ∧ Grew w w' := by
  have := clone_any v n (fun i => .int .i64 (nth x i)) w hl (by rw [← hn]; exact hv) (fun _ => rfl)
  rw [range_nth x n hn] at this
  exact this


theorem new_cells (k : Nat) : (Tryz.zeroCells89.setIfInBounds 0 (.bool true)).setIfInBounds 129 (.map (some k)) = ((List.range 135).map (memAt Mem.new k (.slice none 0 0))).toArray := by kernel_rfl

theorem rowIs_list {w : World} {b n : Nat} {t : TypeId} {f : Nat → Value} {c : Array Value} (hb : w.heap[b]? = some (.cells c t (0, 0))) (hc : c = ((List.range n).map f).toArray) : w.rowIs b t n f :=
  ⟨c, hb, by rw [hc]; simp, fun i hi => by rw [hc]; simp [List.getElem?_range hi]⟩

theorem new17_any (w : World) : Calls Tryz.prog 17 #[] w fun e w' => e = .returned (ptr (w.heap.size + 1)) ∧ IsMem w' (w.heap.size + 1) Mem.new (fun k => k = w.heap.size ∨ k = w.heap.size + 1) ∧ Grew w w' := by
  have hmm := @run_makeMap Tryz.prog
  go_enter Tryz.func17, Tryz.ntmps17
  go_wp2
  go_ret
  refine ⟨rfl, ⟨w.heap.size, .slice none 0 0, rowIs_list (heap_alloc2_new w _ _) (new_cells _), (NMap.made w _ _ _).of_block (Deep.blk_alloc_lt _ _ _ (by simp)), Reads.nil _ _ _ _ _, .inr rfl, .inl rfl, ?_⟩, grew_alloc (grew_alloc (grew_refl _) _) _⟩
  rintro k (rfl | rfl)
  · simp only [World.size_alloc]; omega
  · simp only [World.size_alloc]; omega

/-! ### Start -/

theorem start26_none (v : Value) (w : World) (h : Calls Tryz.prog 57 #[v] w fun e w' => e = .returned (.bool true) ∧ w = w') : Calls Tryz.prog 26 #[v] w fun e w' => e = .returned (.int .i64 102) ∧ w = w' := by
  have HN := hid h
  clear h
  go_enter Tryz.func26, Tryz.ntmps26
  go_wp2_with (go_at_call 57; (with_reducible refine HN.out.mono ?_); rintro e w1 ⟨rfl, rfl⟩)
  go_ret
  exact ⟨rfl, rfl⟩

theorem keeps_setCells {b : Nat} (may : Nat → Obj → Prop) : ∀ (vs : List Value) {o : Nat} {w : World}, (∀ ob, may b ob) → Keeps may w (w.setCells b o vs)
  | [], _, _, _ => Keeps.refl _ _
  | v :: r, o, w, hm => by
    rw [World.setCells]
    exact (keeps_set1 v may hm).trans (keeps_setCells may r hm)

theorem NMap.setCells {P : Program} {kt et : TypeId} {b n g : Nat} {S : Nat → Option Int} (hb : b ≠ g) : ∀ (vs : List Value) {o : Nat} {w : World}, NMap w P kt et b n S → NMap (w.setCells g o vs) P kt et b n S
  | [], _, _, h => h
  | v :: r, o, w, h => by
    rw [World.setCells]
    exact NMap.setCells hb r (h.setOther hb v)

set_option maxHeartbeats 1000000 in
theorem start26_mem (bm : Nat) (M : Mem) (F : Nat → Prop) (w : World) (h : IsMem w bm M F) : Calls Tryz.prog 26 #[ptr bm] w (Left w bm (0, M.start) F) := by
  have HN := hid (none57_mem bm M F w h)
  have HM := hid h
  obtain ⟨bn, sv, h⟩ := h
  have HH := hid h
  have c0 := h.off
  have f0 := h.row.frozen 130
  clear h
  unfold Mem.start
  obtain ⟨o, ho⟩ : ∃ o, M.on = o := ⟨_, rfl⟩
  have HO := hid ho
  rw [ho] at c0 ⊢
  clear ho
  cases o with
  | true =>
    rw [if_pos rfl]
    go_enter Tryz.func26, Tryz.ntmps26
    go_wp2_with (go_at_call 57; (with_reducible refine HN.out.mono ?_); rintro e w1 ⟨rfl, rfl⟩)
    go_ret
    exact ⟨rfl, HM.out, Keeps.refl _ _⟩
  | false =>
    rw [if_neg (by decide)]
    have hra := rangeAt_row HH.out.row 65 64 (by omega) (fun i => .int .i64 (M.kept i)) (fun j hj => by unfold memAt; rw [if_neg (by omega), if_neg (by omega), if_pos (by omega), show 65 + j - 65 = j by omega])
    obtain ⟨cs, hcs⟩ : ∃ cs, (List.range 64).map (fun i => Value.int .i64 (M.kept i)) = cs := ⟨_, rfl⟩
    rw [hcs] at hra
    have hl : cs.length = 64 := by rw [← hcs]; simp
    have h1 : ∀ v ∈ cs, v.oneCell' = true := by
      intro v hv
      rw [← hcs] at hv
      obtain ⟨i, _, rfl⟩ := List.mem_map.1 hv
      rfl
    have HCS := hid hcs; have HL := hid hl; have H1 := hid h1
    have hsz : (Tryz.prog.info? 84).map (·.size) = some cs.length := by rw [hl]; kernel_rfl
    have hsz2 : (Tryz.prog.info? 84).map (·.size) = some cs.toArray.size := by rw [List.size_toArray, hl]; kernel_rfl
    have HSZ := hid hsz; have HSZ2 := hid hsz2
    have HRA := hid hra
    clear hcs hl h1 hsz hsz2
    have hth : (w.setCell ⟨bm, 130, none⟩ (.bool false)).there bm 1 cs.toArray.size := there_row (HH.out.row.set 130 _) 1 _ (by rw [List.size_toArray, HL.out]; omega)
    have HTH := hid hth
    clear hra hth
    go_enter Tryz.func26, Tryz.ntmps26
    go_wp2_with (first
      | (go_at_call 57; (with_reducible refine HN.out.mono ?_); rintro e w1 ⟨rfl, rfl⟩)
      | (refine wpList_load_mid rfl 84 _ rfl bm 65 rfl _ _ HRA.out Tryz.underlying84 rfl HSZ.out ?_)
      | (refine wpList_store_mid rfl 84 _ _ rfl bm 1 _ rfl rfl HTH.out HSZ2.out (all_oneCell_toArray H1.out) ?_))
    go_ret
    have h := HH.out
    have hk : ∀ may : Nat → Obj → Prop, (∀ o, may bm o) → Keeps may w ((w.setCell ⟨bm, 130, none⟩ (.bool false)).setCells bm 1 cs) := fun may hm => (keeps_set1 _ _ hm).trans (keeps_setCells _ cs hm)
    have hr := rowIs_setCells cs 1 (h.row.set 130 (.bool false))
    refine ⟨rfl, ⟨bn, sv, hr.congr fun i hi => ?_, (NMap.setCells h.ne cs (h.notes.setOther h.ne _)), h.early.keeps (hk (fun k _ => k = bm) (fun _ => rfl)) (fun k o hs e => hs.2.1 e), h.inM, h.inN, fun k hk2 => Nat.lt_of_lt_of_le (h.lt k hk2) (hk (InF F) (fun _ => h.inM)).size⟩, hk _ (fun _ => h.inM)⟩
    unfold memAt
    by_cases h0 : i = 0
    · subst h0; rfl
    · rw [if_pos (by omega), if_neg h0, if_neg h0]
      by_cases h65 : i < 65
      · rw [← HCS.out, List.getD_eq_getElem?_getD, List.getElem?_map, List.getElem?_range (by omega)]
        simp only [h65, if_true, Option.map_some, Option.getD_some]
      · rw [List.getD_eq_getElem?_getD, List.getElem?_eq_none (by rw [HL.out]; omega)]
        by_cases h1 : i < 129
        · rw [Option.getD_none, if_neg (by omega)]
          simp only [h65, h1, if_true, if_false]
        · have : i = 129 ∨ i = 130 ∨ i = 131 ∨ i = 132 ∨ i = 133 ∨ i = 134 := by omega
          rcases this with rfl | rfl | rfl | rfl | rfl | rfl <;> rfl

/-! ### Fail, Crash -/

theorem Reads.re' {S S' : Nat → Obj → Prop} {w : World} {v : Value} {n : Nat} {f : Nat → Value} (h : Reads S w v n f) (hs : ∀ k o, w.heap[k]? = some o → S k o → S' k o) : Reads S' w v n f := by
  obtain ⟨a, c, e, hl, hc⟩ := h
  exact ⟨a, c, e, hl, fun i hi => by
    obtain ⟨b, off, o, e1, e2, e3, e4⟩ := hc i hi
    exact ⟨b, off, o, e1, e2, hs b o e2 e3, e4⟩⟩

theorem memIs_plan {w : World} {bm bn : Nat} {sv sv' : Value} {M : Mem} {F : Nat → Prop} {k : Nat} {l : List Int} (h : MemIs w bm bn sv M F) (hv : IsInts (fun q _ => q ≠ bm ∧ q ≠ bn ∧ F q) w sv' l) :
    MemIs ((w.setCell ⟨bm, 131, none⟩ (.int .i64 (k : Int))).setCell ⟨bm, 132, none⟩ sv') bm bn sv' { M with plan := k, early := l } F ∧ Keeps (InF F) w ((w.setCell ⟨bm, 131, none⟩ (.int .i64 (k : Int))).setCell ⟨bm, 132, none⟩ sv') := by
  have hk : ∀ may : Nat → Obj → Prop, (∀ o, may bm o) → Keeps may w ((w.setCell ⟨bm, 131, none⟩ (.int .i64 (k : Int))).setCell ⟨bm, 132, none⟩ sv') := fun may hm => (keeps_set1 _ _ hm).trans (keeps_set1 _ _ hm)
  refine ⟨⟨((h.row.set 131 _).set 132 _).congr fun i hi => ?_, (h.notes.setOther h.ne _).setOther h.ne _, (hv.keeps (hk (fun q _ => q = bm) (fun _ => rfl)) (fun q o hs e => hs.1 e)).mono (fun q o hs => ⟨hs.2.2, hs.1, hs.2.1⟩), h.inM, h.inN, fun q hq => Nat.lt_of_lt_of_le (h.lt q hq) (hk (InF F) (fun _ => h.inM)).size⟩, hk _ (fun _ => h.inM)⟩
  unfold memAt
  by_cases h1 : i < 129
  · rw [if_neg (by omega), if_neg (by omega)]; simp only [h1, if_true]
  · have : i = 129 ∨ i = 130 ∨ i = 131 ∨ i = 132 ∨ i = 133 ∨ i = 134 := by omega
    rcases this with rfl | rfl | rfl | rfl | rfl | rfl <;> rfl

/-- More blocks are a memory's. -/
theorem MemIs.wide {w : World} {bm bn : Nat} {sv : Value} {M : Mem} {F F' : Nat → Prop} (h : MemIs w bm bn sv M F) (hF : ∀ k, F k → F' k) (hl : ∀ k, F' k → k < w.heap.size) : MemIs w bm bn sv M F' :=
  ⟨h.row, h.notes, h.early.mono (fun k _ hs => ⟨hF k hs.1, hs.2⟩), hF _ h.inM, hF _ h.inN, hl⟩

/-- The memory's blocks behind a call: those that it had, and new ones. -/
abbrev Wider (w : World) (F F' : Nat → Prop) : Prop := ∀ k, F' k → F k ∨ w.heap.size ≤ k

set_option maxHeartbeats 1000000 in
theorem fail20_any (bm : Nat) (M : Mem) (F : Nat → Prop) (k : Int) (v : Value) (l : List Int) (w : World) (h : IsMem w bm M F) (hv : IsInts Any w v l) :
    Calls Tryz.prog 20 #[ptr bm, .int .i64 k, v] w fun e w' => e = .returned (.int .i64 (M.planned k l).1) ∧ Keeps (InF F) w w' ∧ ∃ F', IsMem w' bm (M.planned k l).2 F' ∧ Wider w F F' := by
  have HM := hid h
  have HV := hid hv
  have HB := hid (fun (W : World) => between54_any 1 k 1000 W)
  have HE := hid (areEarly55_any v l w hv)
  have HA := hid (asked53_mem bm M F (mayPlan k l) w h)
  obtain ⟨b, hb⟩ : ∃ b, (decide (1 ≤ k) && decide (k ≤ 1000)) = b := ⟨_, rfl⟩
  obtain ⟨c, hc⟩ : ∃ c, areEarly l = c := ⟨_, rfl⟩
  have hmp : mayPlan k l = (b && c) := by unfold mayPlan; rw [hb, hc]
  unfold Mem.planned
  rw [hmp] at HA ⊢
  rw [hb] at HB
  rw [hc] at HE
  unfold askM at HA
  obtain ⟨o, ho⟩ : ∃ o, M.on = o := ⟨_, rfl⟩
  rw [ho] at HA ⊢
  have hlen : c = true → l.length ≤ 10 := by
    intro e
    rw [e] at hc
    unfold areEarly at hc
    rw [Bool.and_eq_true] at hc
    simpa using hc.1
  have hk0 : b = true → 1 ≤ k ∧ k ≤ 1000 := by
    intro e
    rw [e, Bool.and_eq_true] at hb
    simpa using hb
  have HO := hid ho
  clear hb hc hmp ho h hv
  cases b with
  | false =>
    simp only [Bool.false_and, Bool.false_eq_true, if_false] at HA ⊢
    clear hlen hk0
    go_enter Tryz.func20, Tryz.ntmps20
    go_wp2_with (first
      | (go_at_call 54; (with_reducible refine (HB.out _).mono ?_); rintro e w1 ⟨rfl, rfl⟩)
      | (go_at_call 55; (with_reducible refine HE.out.mono ?_); rintro e w1 ⟨rfl, rfl⟩)
      | (go_at_call 53; (with_reducible refine HA.out.mono ?_); rintro e w1 ⟨rfl, rfl⟩))
    go_ret
    exact ⟨rfl, Keeps.refl _ _, F, HM.out, fun k h => .inl h⟩
  | true =>
    cases c with
    | false =>
      simp only [Bool.and_false, Bool.false_eq_true, if_false] at HA ⊢
      clear hlen hk0
      go_enter Tryz.func20, Tryz.ntmps20
      go_wp2_with (first
        | (go_at_call 54; (with_reducible refine (HB.out _).mono ?_); rintro e w1 ⟨rfl, rfl⟩)
        | (go_at_call 55; (with_reducible refine HE.out.mono ?_); rintro e w1 ⟨rfl, rfl⟩)
        | (go_at_call 53; (with_reducible refine HA.out.mono ?_); rintro e w1 ⟨rfl, rfl⟩))
      go_ret
      exact ⟨rfl, Keeps.refl _ _, F, HM.out, fun k h => .inl h⟩
    | true =>
      cases o with
      | false =>
        simp only [Bool.true_and, Bool.false_eq_true, if_true, if_false] at HA ⊢
        clear hlen hk0
        go_enter Tryz.func20, Tryz.ntmps20
        go_wp2_with (first
          | (go_at_call 54; (with_reducible refine (HB.out _).mono ?_); rintro e w1 ⟨rfl, rfl⟩)
          | (go_at_call 55; (with_reducible refine HE.out.mono ?_); rintro e w1 ⟨rfl, rfl⟩)
          | (go_at_call 53; (with_reducible refine HA.out.mono ?_); rintro e w1 ⟨rfl, rfl⟩))
        go_ret
        exact ⟨rfl, Keeps.refl _ _, F, HM.out, fun k h => .inl h⟩
      | true =>
        simp only [Bool.true_and, if_true] at HA ⊢
        have hl := hlen rfl
        obtain ⟨h1, h2⟩ := hk0 rfl
        clear hlen hk0
        obtain ⟨kn, rfl⟩ : ∃ kn : Nat, k = (kn : Int) := ⟨k.toNat, by omega⟩
        simp only [Int.toNat_natCast]
        obtain ⟨bn, sv, h⟩ := HM.out
        have HH := hid h
        have HCL := hid (clone_ints v l.length l w rfl (by omega) HV.out)
        have cP := h.cP; have cE := h.cE; have fP := h.row.frozen 131; have fE := h.row.frozen 132
        have hbm := h.row.lt
        clear h hl h1 h2
        go_enter Tryz.func20, Tryz.ntmps20
        go_wp2_with (first
          | (go_at_call 54; (with_reducible refine (HB.out _).mono ?_); rintro e w1 ⟨rfl, rfl⟩)
          | (go_at_call 55; (with_reducible refine HE.out.mono ?_); rintro e w1 ⟨rfl, rfl⟩)
          | (go_at_call 53; (with_reducible refine HA.out.mono ?_); rintro e w1 ⟨rfl, rfl⟩)
          | (go_at_call 52; (with_reducible refine HCL.out.mono ?_); rintro e w2 ⟨u, rfl, hs, hg⟩; have HSG := hid hs; have HG := hid hg; obtain ⟨ua, uc, rfl, hul⟩ := hs.shape; have hm2 := HH.out.grew hg; have cP2 := hm2.cP; have cE2 := hm2.cE; have fP2 := hm2.row.frozen 131; have fE2 := hm2.row.frozen 132; have HM2 := hid hm2; clear hm2 hs hg hul))
        go_ret
        have hint := HSG.out.isInts
        have hres := memIs_plan (F := fun q => F q ∨ (w.heap.size ≤ q ∧ q < w2.heap.size)) (k := kn) (l := l) (HM2.out.wide (fun q h => .inl h) (fun q hq => by rcases hq with h | h; exact HM2.out.lt q h; exact h.2)) (sv' := .slice ua l.length uc) ?_
        · rw [HO.out] at hres
          refine ⟨rfl, ?_, fun q => F q ∨ (w.heap.size ≤ q ∧ q < w2.heap.size), ⟨bn, _, hres.1⟩, fun q hq => Or.imp id (fun h => h.1) hq⟩
          exact HG.out.keeps.trans ((keeps_set1 _ _ (fun _ => HH.out.inM)).trans (keeps_set1 _ _ (fun _ => HH.out.inM)))
        · refine Reads.re' hint (fun q _ ho hs => ?_)
          have hq := hs.1
          have := HH.out.lt _ HH.out.inM
          have := HH.out.lt _ HH.out.inN
          exact ⟨by omega, by omega, .inr ⟨hq, lt_of_obj ho⟩⟩

set_option maxHeartbeats 1000000 in
theorem crash30_any (bm : Nat) (M : Mem) (F : Nat → Prop) (v : Value) (l : List Int) (S : Nat → Obj → Prop) (w : World) (h : IsMem w bm M F) (hsz : M.size < 1000000000) (hv : IsInts S w v l) (hS : ∀ k o, S k o → k ≠ bm) :
    Calls Tryz.prog 30 #[ptr bm, v] w (Left w bm (M.crash l) F) := by
  have HM := hid h
  have HE := hid (areEarly55_any v l w (hv.mono fun _ _ _ => trivial))
  have HA := hid (asked53_mem bm M F (areEarly l) w h)
  have HF := hid (fun (he : areEarly l = true) => fail63_any bm M F v l S w h (by unfold Mem.size at hsz; omega) he hv hS)
  unfold Mem.crash
  unfold askM at HA
  obtain ⟨c, hc⟩ : ∃ c, areEarly l = c := ⟨_, rfl⟩
  obtain ⟨o, ho⟩ : ∃ o, M.on = o := ⟨_, rfl⟩
  rw [hc] at HE HA HF ⊢
  rw [ho] at HA ⊢
  clear hc ho h hv hS hsz
  cases c with
  | false =>
    simp only [Bool.false_eq_true, if_false] at HA ⊢
    clear HF
    go_enter Tryz.func30, Tryz.ntmps30
    go_wp2_with (first
      | (go_at_call 55; (with_reducible refine HE.out.mono ?_); rintro e w1 ⟨rfl, rfl⟩)
      | (go_at_call 53; (with_reducible refine HA.out.mono ?_); rintro e w1 ⟨rfl, rfl⟩))
    go_ret
    exact ⟨rfl, HM.out, Keeps.refl _ _⟩
  | true =>
    replace HF := hid (HF.out rfl)
    cases o with
    | false =>
      simp only [Bool.false_eq_true, if_true, if_false] at HA ⊢
      clear HF
      go_enter Tryz.func30, Tryz.ntmps30
      go_wp2_with (first
        | (go_at_call 55; (with_reducible refine HE.out.mono ?_); rintro e w1 ⟨rfl, rfl⟩)
        | (go_at_call 53; (with_reducible refine HA.out.mono ?_); rintro e w1 ⟨rfl, rfl⟩))
      go_ret
      exact ⟨rfl, HM.out, Keeps.refl _ _⟩
    | true =>
      simp only [if_true] at HA ⊢
      go_enter Tryz.func30, Tryz.ntmps30
      go_wp2_with (first
        | (go_at_call 55; (with_reducible refine HE.out.mono ?_); rintro e w1 ⟨rfl, rfl⟩)
        | (go_at_call 53; (with_reducible refine HA.out.mono ?_); rintro e w1 ⟨rfl, rfl⟩)
        | (go_at_call 63; (with_reducible refine HF.out.mono ?_); rintro e w1 ⟨rfl, hm, hk⟩; have HM1 := hid hm; have HK1 := hid hk; clear hm hk))
      go_ret
      exact ⟨rfl, HM1.out, HK1.out⟩

/-! ### A memory that is none -/

/-- No memory: whatever asks it says so. -/
def NoMem (v : Value) : Prop := ∀ w, Calls Tryz.prog 57 #[v] w fun e w' => e = .returned (.bool true) ∧ w = w'

theorem noMem_nil : NoMem (.pointer none) := none57_nil

end Go.Proofs.YtmohnddglmolgaaGreatDoor
