/- What is kept of a yard's memory, and what a store into it does. -/
import Derived.Test.YtcifpigjcfkhmaaHHeld
import Derived.Laws.Rows
namespace Go.Lin.Hz
open Go.RowKit Go.Lin

theorem keeps_store (w : World) (b j : Nat) (u : Value) : Keeps (fun k _ => k = b) w (w.setCell ⟨b, j, none⟩ u) :=
  ⟨rfl, rfl, rfl, by simp, fun k o h hn => by rw [heap_setCell_other _ _ _ _ hn]; exact h⟩

theorem IsYardAt.keeps {y t n : TypeId} {w w' : World} {b : Nat} {Y : Yd} {Fp : List Nat} {may : Nat → Obj → Prop} (h : IsYardAt y t n w b Y Fp) (hk : Keeps may w w') (hm : ∀ k o, k ∈ Fp → ¬ may k o) : IsYardAt y t n w' b Y Fp := by
  obtain ⟨tb, cap, cur, lv, h1, h2, h3, h4, h5, h6, h7, h8, rfl, h9⟩ := h
  refine ⟨tb, cap, cur, lv, hk.obj _ _ h1 (hm _ _ (by simp)), hk.obj _ _ h2 (hm _ _ (by simp)), h3, h4, h5, h6, h7, fun i hi => ?_, rfl, h9⟩
  obtain ⟨v, hv, hs⟩ := h8 i hi
  refine ⟨v, hv, hs.keeps hk (fun k o hb => hm k o ?_)⟩
  simp only [List.mem_cons, List.mem_filterMap]
  exact .inr (.inr ⟨v, List.mem_of_getElem? hv, hb⟩)

theorem IsYardAt.grew {y t n : TypeId} {w w' : World} {b : Nat} {Y : Yd} {Fp : List Nat} (h : IsYardAt y t n w b Y Fp) (hk : Grew w w') : IsYardAt y t n w' b Y Fp :=
  h.keeps (Grew.keeps (may := fun _ _ => False) hk) (fun _ _ _ h => h)

theorem IsYardAt.lt {y t n : TypeId} {w : World} {b : Nat} {Y : Yd} {Fp : List Nat} (h : IsYardAt y t n w b Y Fp) : ∀ k ∈ Fp, k < w.heap.size := by
  obtain ⟨tb, cap, cur, lv, h1, h2, h3, h4, h5, h6, h7, h8, rfl, h9⟩ := h
  intro k hk
  simp only [List.mem_cons, List.mem_filterMap] at hk
  rcases hk with rfl | rfl | ⟨v, hv, hb⟩
  · exact lt_of_obj h1
  · exact lt_of_obj h2
  · obtain ⟨i, hi, rfl⟩ := List.getElem_of_mem hv
    obtain ⟨v, hv', hs⟩ := h8 i (by omega)
    rw [List.getElem?_eq_getElem hi] at hv'
    cases hv'
    exact hs.lt hb

theorem yCells_setN {Y : Yd} {tv : Value} {k : Nat} {v : Int} (hst : Y.st.length = 8) (hk : k < 8) : (yCells Y tv).toArray.setIfInBounds (1 + k) (.int .i64 v) = (yCells (setN Y k v) tv).toArray := by
  rw [List.setIfInBounds_toArray]
  congr 1
  rw [show 1 + k = k + 1 from by omega]
  simp only [yCells, List.set_cons_succ, setN]
  rw [List.set_append_left _ _ (by simp; omega), ← List.map_set]
  simp

/-- A node's state is stored. -/
theorem IsYardAt.setN {y t n : TypeId} {w : World} {b : Nat} {Y : Yd} {Fp : List Nat} (h : IsYardAt y t n w b Y Fp) (hst : Y.st.length = 8) {k : Nat} (hk : k < 8) (v : Int) :
    IsYardAt y t n (w.setCell ⟨b, 1 + k, none⟩ (.int .i64 v)) b (Hz.setN Y k v) Fp := by
  have hkp := keeps_store w b (1 + k) (.int .i64 v)
  obtain ⟨tb, cap, cur, lv, h1, h2, h3, h4, h5, h6, h7, h8, rfl, h9⟩ := h
  have hn := h9
  simp only [List.nodup_cons, List.mem_cons, not_or] at hn
  refine ⟨tb, cap, cur, lv, ?_, hkp.obj _ _ h2 (fun e => hn.1.1 e.symm), h3, h4, h5, h6, h7, fun i hi => ?_, rfl, h9⟩
  · rw [heap_setCell_same _ _ _ _ _ _ h1, yCells_setN hst hk]; rfl
  · obtain ⟨v', hv, hs⟩ := h8 i hi
    refine ⟨v', hv, hs.keeps hkp (fun k' o hb e => hn.1.2 ?_)⟩
    rw [List.mem_filterMap]
    exact ⟨v', List.mem_of_getElem? hv, by rw [hb, e]⟩

theorem tCells_set : ∀ (th : List Th) (lv : List Value) (i : Nat) (s v : Int), th.length = lv.length → i < th.length → (s = 0 ∨ s = 1) →
    (tCells th lv).set (i * 3 + s.toNat) (.int .i64 v) = tCells (th.set i ((th.getD i noTh).put s v)) lv
  | [], _, _, _, _, _, h, _ => absurd h (by simp)
  | _ :: _, [], _, _, _, h, _, _ => absurd h (by simp)
  | t :: th, x :: lv, 0, s, v, _, _, hs => by
    rcases hs with rfl | rfl <;> simp [tCells, Th.put]
  | t :: th, x :: lv, i + 1, s, v, hl, hi, hs => by
    have := tCells_set th lv i s v (by simpa using hl) (by simpa using hi) hs
    rw [show (i + 1) * 3 + s.toNat = (i * 3 + s.toNat) + 3 from by omega]
    simp [tCells, this]

theorem tCells_length : ∀ (th : List Th) (lv : List Value), th.length = lv.length → (tCells th lv).length = th.length * 3
  | [], [], _ => rfl
  | [], _ :: _, h => absurd h (by simp)
  | _ :: _, [], h => absurd h (by simp)
  | t :: th, x :: lv, h => by
    have := tCells_length th lv (by simpa using h)
    simp [tCells, this]; omega

theorem put_l (t : Th) (s n : Int) : (t.put s n).l = t.l := by unfold Th.put; split <;> rfl

/-- A slot is stored. -/
theorem IsYardAt.setSlot {y t n : TypeId} {w : World} {b : Nat} {Y : Yd} {Fp : List Nat} (h : IsYardAt y t n w b Y Fp) {tb cap : Nat} (h9 : w.cell? ⟨b, 9, none⟩ = some (.slice (some ⟨tb, 0, none⟩) Y.th.length cap)) (hst : Y.st.length = 8) {i : Nat} (hi : i < Y.th.length) {s : Int} (hs : s = 0 ∨ s = 1) (v : Int) :
    IsYardAt y t n (w.setCell ⟨tb, i * 3 + s.toNat, none⟩ (.int .i64 v)) b (setT Y i ((thAt Y i).put s v)) Fp := by
  obtain ⟨tb', cap', cur, lv, h1, h2, h3, h4, h5, h6, h7, h8, rfl, hnd⟩ := h
  have hc := (yCells_at (Y := Y) (tv := .slice (some ⟨tb', 0, none⟩) Y.th.length cap') hst).2.2
  rw [cell_of_row w b _ _ _ _ h1] at h9
  simp [hc] at h9
  obtain ⟨rfl, rfl⟩ := h9
  have hkp := keeps_store w tb' (i * 3 + s.toNat) (.int .i64 v)
  have hn := hnd
  simp only [List.nodup_cons, List.mem_cons, not_or] at hn
  have hth : (thAt Y (i : Int)) = Y.th.getD i noTh := rfl
  refine ⟨tb', cap', _, lv, ?_, heap_setCell_same _ _ _ _ _ _ h2, by simpa [setT] using h3, h4, by simpa using h5, ?_, by simpa [setT] using h7, fun j hj => ?_, rfl, hnd⟩
  · rw [hkp.obj _ _ h1 hn.1.1]
    simp [yCells, setT]
  · show _ = tCells (Y.th.set (i : Int).toNat _) lv
    rw [Int.toNat_natCast, hth, ← tCells_set _ _ _ _ _ h7.symm hi hs, ← h6]
    simp only [setT, List.length_set, Array.toList_setIfInBounds]
    rw [List.take_set]
  · have hj' : j < Y.th.length := by simpa [setT] using hj
    obtain ⟨v', hv, hsg⟩ := h8 j hj'
    have hl : ((setT Y i ((thAt Y i).put s v)).th.getD j noTh).l = (Y.th.getD j noTh).l := by
      simp only [setT, List.getD, List.getElem?_set, Int.toNat_natCast]
      by_cases hij : i = j
      · subst hij; simp [hi, put_l, hth, List.getD]
      · simp [hij]
    rw [hl]
    refine ⟨v', hv, hsg.keeps hkp (fun k' o hb e => hn.2.1 ?_)⟩
    rw [List.mem_filterMap]
    exact ⟨v', List.mem_of_getElem? hv, by rw [hb, e]⟩

end Go.Lin.Hz
namespace Go.Proofs.Ytcifpigjcfkhmaa
open Go.RowKit Go.Lin Go.Lin.Hz

theorem IsYard.view {w : World} {b : Nat} {Y : Yd} {Fp : List Nat} (h : IsYard w b Y Fp) (hI : Inv Y) : ∃ tb cap lv, YView w b Y tb cap lv ∧ (∀ j, w.frozen? ⟨b, j, none⟩ = false) ∧ (∀ j, w.frozen? ⟨tb, j, none⟩ = false) ∧ b ∈ Fp ∧ tb ∈ Fp := by
  have hh := IsYardAt.head h hI
  obtain ⟨tb, cap, cur, lv, h1, h2, h3, h4, h5, h6, h7, h8, rfl, h9⟩ := h
  have hcell : ∀ j, j < Y.th.length * 3 → w.cell? ⟨tb, j, none⟩ = (tCells Y.th lv)[j]? := by
    intro j hj
    rw [cell_of_row w tb _ _ _ _ h2, ← h6, List.getElem?_take_of_lt hj, ← Array.getElem?_toList]
  have hc := (yCells_at (Y := Y) (tv := .slice (some ⟨tb, 0, none⟩) Y.th.length cap) hI.st).2.2
  refine ⟨tb, cap, lv, ⟨hh, ?_, lt_of_obj h2, fun i hi => ?_, fun i hi => ?_, fun i hi => ?_, h7⟩, fun j => frozen_of_row _ _ _ _ _ h1, fun j => frozen_of_row _ _ _ _ _ h2, by simp, by simp⟩
  · rw [cell_of_row w b _ _ _ _ h1]; simpa using hc
  · rw [hcell _ (by omega), Nat.mul_comm]; exact (tCells_at _ _ i h7.symm hi).1
  · rw [hcell _ (by omega), Nat.mul_comm]; exact (tCells_at _ _ i h7.symm hi).2.1
  · rw [hcell _ (by omega), Nat.mul_comm]; exact (tCells_at _ _ i h7.symm hi).2.2

end Go.Proofs.Ytcifpigjcfkhmaa
