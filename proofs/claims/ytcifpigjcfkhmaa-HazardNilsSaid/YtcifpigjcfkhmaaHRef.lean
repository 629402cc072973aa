/- The reference's yard in memory. -/
import Derived.Test.YtcifpigjcfkhmaaHDoing
namespace Go.Proofs.Ytcifpigjcfkhmaa
open Go.RowKit Go.Lin Go.Lin.Hz

/-- The cells of the reference's block. -/
def rCells (Y : Yd) (sv lv : Value) : List Value := .int .i64 (Y.th.length : Int) :: .int .i64 Y.size :: (Y.st.map (.int .i64) ++ [sv, lv])

def sCells : List Th → List Value
  | [] => []
  | t :: l => .int .i64 t.a :: .int .i64 t.b :: sCells l

theorem sCells_length : ∀ th : List Th, (sCells th).length = th.length * 2
  | [] => rfl
  | t :: l => by simp [sCells, sCells_length l]; omega

theorem sCells_at : ∀ (th : List Th) (i : Nat), i < th.length → (sCells th)[i * 2]? = some (.int .i64 (th.getD i noTh).a) ∧ (sCells th)[i * 2 + 1]? = some (.int .i64 (th.getD i noTh).b)
  | [], _, h => absurd h (by simp)
  | t :: l, 0, _ => by simp [sCells]
  | t :: l, i + 1, h => by
    have := sCells_at l i (by simpa using h)
    rw [show (i + 1) * 2 = i * 2 + 2 from by omega, show i * 2 + 2 + 1 = i * 2 + 1 + 2 from by omega]
    simpa [sCells] using this

theorem sCells_set : ∀ (th : List Th) (i : Nat) (s v : Int), i < th.length → (s = 0 ∨ s = 1) → (sCells th).set (i * 2 + s.toNat) (.int .i64 v) = sCells (th.set i ((th.getD i noTh).put s v))
  | [], _, _, _, h, _ => absurd h (by simp)
  | t :: l, 0, s, v, _, hs => by rcases hs with rfl | rfl <;> simp [sCells, Th.put]
  | t :: l, i + 1, s, v, hi, hs => by
    have := sCells_set l i s v (by simpa using hi) hs
    rw [show (i + 1) * 2 + s.toNat = (i * 2 + s.toNat) + 2 from by omega]
    simp [sCells, this]

theorem sCells_setl : ∀ (th : List Th) (i : Nat) (l : List Int), i < th.length → sCells (th.set i { th.getD i noTh with l := l }) = sCells th
  | [], _, _, h => absurd h (by simp)
  | t :: th, 0, l, _ => by simp [sCells]
  | t :: th, i + 1, l, hi => by
    have := sCells_setl th i l (by simpa using hi)
    simpa [sCells] using this

structure RAll (w : World) (b : Nat) (Y : Yd) (sb sc lb lc : Nat) (lv : List Value) (Lb : List Nat) : Prop where
  obj : w.heap[b]? = some (.cells (rCells Y (.slice (some ⟨sb, 0, none⟩) Y.th.length sc) (.slice (some ⟨lb, 0, none⟩) Y.th.length lc)).toArray 74 (0, 0))
  srow : ∃ cur : Array Value, w.heap[sb]? = some (.cells cur 75 (0, 0)) ∧ cur.toList.take (Y.th.length * 2) = sCells Y.th
  lrow : ∃ cur : Array Value, w.heap[lb]? = some (.cells cur 24 (0, 0)) ∧ cur.toList.take Y.th.length = lv
  len : lv.length = Y.th.length
  list : ∀ i, i < Y.th.length → ∃ v, lv[i]? = some v ∧ IsInts (fun k _ => k ∈ Lb) w v (Y.th.getD i noTh).l
  ne : b ≠ sb ∧ b ≠ lb ∧ sb ≠ lb
  nl : ∀ k ∈ Lb, k ≠ b ∧ k ≠ sb ∧ k ≠ lb ∧ k < w.heap.size
  st : Y.st.length = 8

def IsRef (w : World) (b : Nat) (Y : Yd) (Fp : List Nat) : Prop := ∃ sb sc lb lc lv Lb, RAll w b Y sb sc lb lc lv Lb ∧ Fp = b :: sb :: lb :: Lb

theorem RAll.keeps {w w' : World} {b : Nat} {Y : Yd} {sb sc lb lc : Nat} {lv : List Value} {Lb : List Nat} {may : Nat → Obj → Prop} (h : RAll w b Y sb sc lb lc lv Lb) (hk : Keeps may w w') (hm : ∀ k o, k ∈ b :: sb :: lb :: Lb → ¬ may k o) : RAll w' b Y sb sc lb lc lv Lb := by
  obtain ⟨c1, a1, a2⟩ := h.srow
  obtain ⟨c2, b1, b2⟩ := h.lrow
  refine ⟨hk.obj _ _ h.obj (hm _ _ (by simp)), ⟨c1, hk.obj _ _ a1 (hm _ _ (by simp)), a2⟩, ⟨c2, hk.obj _ _ b1 (hm _ _ (by simp)), b2⟩, h.len, fun i hi => ?_, h.ne, fun k hk' => ?_, h.st⟩
  · obtain ⟨v, h1, h2⟩ := h.list i hi
    exact ⟨v, h1, Reads.keeps h2 hk (fun k o hk => hm k o (by simp [hk]))⟩
  · obtain ⟨x1, x2, x3, x4⟩ := h.nl k hk'
    exact ⟨x1, x2, x3, Nat.lt_of_lt_of_le x4 hk.size⟩

theorem RAll.grew {w w' : World} {b : Nat} {Y : Yd} {sb sc lb lc : Nat} {lv : List Value} {Lb : List Nat} (h : RAll w b Y sb sc lb lc lv Lb) (hg : Grew w w') : RAll w' b Y sb sc lb lc lv Lb :=
  h.keeps (Grew.keeps (may := fun _ _ => False) hg) (fun _ _ _ h => h)

theorem IsRef.keeps {w w' : World} {b : Nat} {Y : Yd} {Fp : List Nat} {may : Nat → Obj → Prop} (h : IsRef w b Y Fp) (hk : Keeps may w w') (hm : ∀ k o, k ∈ Fp → ¬ may k o) : IsRef w' b Y Fp := by
  obtain ⟨sb, sc, lb, lc, lv, Lb, h1, rfl⟩ := h
  exact ⟨sb, sc, lb, lc, lv, Lb, h1.keeps hk hm, rfl⟩

theorem IsRef.grew {w w' : World} {b : Nat} {Y : Yd} {Fp : List Nat} (h : IsRef w b Y Fp) (hg : Grew w w') : IsRef w' b Y Fp :=
  IsRef.keeps h (Grew.keeps (may := fun _ _ => False) hg) (fun _ _ _ h => h)

/-- The reference's cells, one by one. -/
structure RCell (w : World) (b : Nat) (Y : Yd) (sb sc lb lc : Nat) (lv : List Value) : Prop where
  lt : b < w.heap.size
  slt : sb < w.heap.size
  llt : lb < w.heap.size
  c0 : w.cell? ⟨b, 0, none⟩ = some (.int .i64 (Y.th.length : Int))
  c1 : w.cell? ⟨b, 1, none⟩ = some (.int .i64 Y.size)
  cs : ∀ i, i < 8 → w.cell? ⟨b, 2 + i, none⟩ = some (.int .i64 (nth Y.st i))
  c10 : w.cell? ⟨b, 10, none⟩ = some (.slice (some ⟨sb, 0, none⟩) Y.th.length sc)
  c11 : w.cell? ⟨b, 11, none⟩ = some (.slice (some ⟨lb, 0, none⟩) Y.th.length lc)
  a : ∀ i, i < Y.th.length → w.cell? ⟨sb, i * 2, none⟩ = some (.int .i64 (Y.th.getD i noTh).a)
  b' : ∀ i, i < Y.th.length → w.cell? ⟨sb, i * 2 + 1, none⟩ = some (.int .i64 (Y.th.getD i noTh).b)
  l : ∀ i, i < Y.th.length → w.cell? ⟨lb, i, none⟩ = lv[i]?
  fb : ∀ j, w.frozen? ⟨b, j, none⟩ = false
  fs : ∀ j, w.frozen? ⟨sb, j, none⟩ = false
  fl : ∀ j, w.frozen? ⟨lb, j, none⟩ = false

theorem rCells_at {Y : Yd} {sv lv : Value} (hst : Y.st.length = 8) : (rCells Y sv lv)[0]? = some (.int .i64 (Y.th.length : Int)) ∧ (rCells Y sv lv)[1]? = some (.int .i64 Y.size) ∧ (∀ i, i < 8 → (rCells Y sv lv)[2 + i]? = some (.int .i64 (nth Y.st i))) ∧ (rCells Y sv lv)[10]? = some sv ∧ (rCells Y sv lv)[11]? = some lv := by
  refine ⟨rfl, rfl, fun i hi => ?_, ?_, ?_⟩
  · have : i < Y.st.length := by omega
    rw [show 2 + i = i + 1 + 1 from by omega]
    simp only [rCells, List.getElem?_cons_succ]
    rw [List.getElem?_append_left (by simp; omega)]
    simp [nth_lt this, this]
  all_goals
    simp only [rCells, List.getElem?_cons_succ]
    rw [List.getElem?_append_right (by simp; omega)]
    simp [hst]

theorem RAll.cell {w : World} {b : Nat} {Y : Yd} {sb sc lb lc : Nat} {lv : List Value} {Lb : List Nat} (h : RAll w b Y sb sc lb lc lv Lb) : RCell w b Y sb sc lb lc lv := by
  obtain ⟨c1, a1, a2⟩ := h.srow
  obtain ⟨c2, b1, b2⟩ := h.lrow
  obtain ⟨r0, r1, rs, r10, r11⟩ := rCells_at (Y := Y) (sv := .slice (some ⟨sb, 0, none⟩) Y.th.length sc) (lv := .slice (some ⟨lb, 0, none⟩) Y.th.length lc) h.st
  have hs : ∀ j, j < Y.th.length * 2 → w.cell? ⟨sb, j, none⟩ = (sCells Y.th)[j]? := by
    intro j hj
    rw [cell_of_row w sb _ _ _ _ a1, ← a2, List.getElem?_take_of_lt hj, ← Array.getElem?_toList]
  refine ⟨lt_of_obj h.obj, lt_of_obj a1, lt_of_obj b1, ?_, ?_, fun i hi => ?_, ?_, ?_, fun i hi => ?_, fun i hi => ?_, fun i hi => ?_, fun _ => frozen_of_row _ _ _ _ _ h.obj, fun _ => frozen_of_row _ _ _ _ _ a1, fun _ => frozen_of_row _ _ _ _ _ b1⟩
  · rw [cell_of_row w b _ _ _ _ h.obj]; simpa using r0
  · rw [cell_of_row w b _ _ _ _ h.obj]; simpa using r1
  · rw [cell_of_row w b _ _ _ _ h.obj]; simpa using rs i hi
  · rw [cell_of_row w b _ _ _ _ h.obj]; simpa using r10
  · rw [cell_of_row w b _ _ _ _ h.obj]; simpa using r11
  · rw [hs _ (by omega)]; exact (sCells_at _ i hi).1
  · rw [hs _ (by omega)]; exact (sCells_at _ i hi).2
  · rw [cell_of_row w lb _ _ _ _ b1, ← b2, List.getElem?_take_of_lt hi, ← Array.getElem?_toList]

theorem rCells_setN {Y : Yd} {sv lv : Value} {k : Nat} {v : Int} (hst : Y.st.length = 8) (hk : k < 8) : (rCells Y sv lv).toArray.setIfInBounds (2 + k) (.int .i64 v) = (rCells (setN Y k v) sv lv).toArray := by
  rw [List.setIfInBounds_toArray]
  congr 1
  rw [show 2 + k = k + 1 + 1 from by omega]
  simp only [rCells, List.set_cons_succ, Hz.setN]
  rw [List.set_append_left _ _ (by simp; omega), ← List.map_set]
  simp

/-- A node's state is stored. -/
theorem RAll.setN {w : World} {b : Nat} {Y : Yd} {sb sc lb lc : Nat} {lv : List Value} {Lb : List Nat} (h : RAll w b Y sb sc lb lc lv Lb) {k : Nat} (hk : k < 8) (v : Int) : RAll (w.setCell ⟨b, 2 + k, none⟩ (.int .i64 v)) b (Hz.setN Y k v) sb sc lb lc lv Lb := by
  have hkp := keeps_store w b (2 + k) (.int .i64 v)
  obtain ⟨c1, a1, a2⟩ := h.srow
  obtain ⟨c2, b1, b2⟩ := h.lrow
  refine ⟨?_, ⟨c1, hkp.obj _ _ a1 (fun e => h.ne.1 e.symm), a2⟩, ⟨c2, hkp.obj _ _ b1 (fun e => h.ne.2.1 e.symm), b2⟩, h.len, fun i hi => ?_, h.ne, by simpa using h.nl, by simpa [Hz.setN] using h.st⟩
  · rw [heap_setCell_same _ _ _ _ _ _ h.obj, rCells_setN h.st hk]; rfl
  · obtain ⟨x, h1, h2⟩ := h.list i hi
    exact ⟨x, h1, Reads.keeps h2 hkp (fun k o hk e => (h.nl k hk).1 e)⟩

/-- A slot is stored. -/
theorem RAll.setSlot {w : World} {b : Nat} {Y : Yd} {sb sc lb lc : Nat} {lv : List Value} {Lb : List Nat} (h : RAll w b Y sb sc lb lc lv Lb) {i : Nat} (hi : i < Y.th.length) {s : Int} (hs : s = 0 ∨ s = 1) (v : Int) :
    RAll (w.setCell ⟨sb, i * 2 + s.toNat, none⟩ (.int .i64 v)) b (setT Y i ((thAt Y i).put s v)) sb sc lb lc lv Lb := by
  have hkp := keeps_store w sb (i * 2 + s.toNat) (.int .i64 v)
  obtain ⟨c1, a1, a2⟩ := h.srow
  obtain ⟨c2, b1, b2⟩ := h.lrow
  have hth : thAt Y (i : Int) = Y.th.getD i noTh := rfl
  have hlen : (setT Y i ((thAt Y i).put s v)).th.length = Y.th.length := by simp [setT]
  refine ⟨?_, ⟨_, heap_setCell_same _ _ _ _ _ _ a1, ?_⟩, ⟨c2, hkp.obj _ _ b1 (fun e => h.ne.2.2 e.symm), by rw [hlen]; exact b2⟩, by rw [hlen]; exact h.len, fun j hj => ?_, h.ne, by simpa using h.nl, h.st⟩
  · rw [hkp.obj _ _ h.obj h.ne.1]; simp [rCells, setT]
  · rw [Array.toList_setIfInBounds, List.take_set, hlen, a2]
    show _ = sCells (Y.th.set (i : Int).toNat _)
    rw [Int.toNat_natCast, hth, sCells_set _ _ _ _ hi hs]
  · rw [hlen] at hj
    obtain ⟨x, h1, h2⟩ := h.list j hj
    have hl : ((setT Y i ((thAt Y i).put s v)).th.getD j noTh).l = (Y.th.getD j noTh).l := by
      simp only [setT, List.getD, List.getElem?_set, Int.toNat_natCast]
      by_cases hij : i = j
      · subst hij; simp [hi, put_l, hth, List.getD]
      · simp [hij]
    rw [hl]
    exact ⟨x, h1, Reads.keeps h2 hkp (fun k o hk e => (h.nl k hk).2.1 e)⟩

/-- A list is stored. -/
theorem RAll.setList {w : World} {b : Nat} {Y : Yd} {sb sc lb lc : Nat} {lv : List Value} {Lb : List Nat} (h : RAll w b Y sb sc lb lc lv Lb) {i : Nat} (hi : i < Y.th.length) {v : Value} {l : List Int} {Nb : List Nat} (hv : IsInts (fun k _ => k ∈ Nb) w v l)
    (hn : ∀ k ∈ Nb, k ≠ b ∧ k ≠ sb ∧ k ≠ lb ∧ k < w.heap.size) :
    RAll (w.setCell ⟨lb, i, none⟩ v) b (setT Y i { thAt Y i with l := l }) sb sc lb lc (lv.set i v) (Nb ++ Lb) := by
  have hkp := keeps_store w lb i v
  obtain ⟨c1, a1, a2⟩ := h.srow
  obtain ⟨c2, b1, b2⟩ := h.lrow
  have hth : thAt Y (i : Int) = Y.th.getD i noTh := rfl
  have hlen : (setT Y i { thAt Y i with l := l }).th.length = Y.th.length := by simp [setT]
  have hnl : ∀ k ∈ Nb ++ Lb, k ≠ b ∧ k ≠ sb ∧ k ≠ lb ∧ k < w.heap.size := fun k hk => (List.mem_append.1 hk).elim (hn k) (h.nl k)
  refine ⟨?_, ⟨c1, hkp.obj _ _ a1 h.ne.2.2, ?_⟩, ⟨_, heap_setCell_same _ _ _ _ _ _ b1, ?_⟩, by rw [hlen, List.length_set]; exact h.len, fun j hj => ?_, h.ne, by simpa using hnl, h.st⟩
  · rw [hkp.obj _ _ h.obj h.ne.2.1]; simp [rCells, setT]
  · show _ = sCells (Y.th.set (i : Int).toNat _)
    rw [hlen, Int.toNat_natCast, hth, sCells_setl _ _ _ hi, a2]
  · rw [Array.toList_setIfInBounds, List.take_set, hlen, b2]
  · rw [hlen] at hj
    by_cases hij : i = j
    · subst hij
      refine ⟨v, by rw [List.getElem?_set_self (by rw [h.len]; exact hi)], ?_⟩
      have hl : ((setT Y i { thAt Y i with l := l }).th.getD i noTh).l = l := by simp [setT, List.getD, hi]
      rw [hl]
      exact Reads.mono (Reads.keeps hv hkp (fun k o hk e => (hn k hk).2.2.1 e)) (fun k o hk => List.mem_append_left _ hk)
    · obtain ⟨x, h1, h2⟩ := h.list j hj
      have hl : ((setT Y i { thAt Y i with l := l }).th.getD j noTh).l = (Y.th.getD j noTh).l := by simp [setT, List.getD, hij]
      rw [hl]
      exact ⟨x, by rw [List.getElem?_set_ne hij]; exact h1, Reads.mono (Reads.keeps h2 hkp (fun k o hk e => (h.nl k hk).2.2.1 e)) (fun k o hk => List.mem_append_right _ hk)⟩

/-- What a call does to a reference's yard. -/
def RDoes (w w' : World) (b : Nat) (Fp : List Nat) (Y' : Yd) : Prop :=
  ∃ Fp', IsRef w' b Y' Fp' ∧ Keeps (fun k _ => k ∈ Fp) w w' ∧ ∀ k ∈ Fp', k ∈ Fp ∨ w.heap.size ≤ k

theorem RDoes.same {w w' : World} {b : Nat} {Y : Yd} {Fp : List Nat} (h : IsRef w b Y Fp) (hg : Grew w w') : RDoes w w' b Fp Y := ⟨Fp, IsRef.grew h hg, Grew.keeps hg, fun _ h => .inl h⟩

theorem RDoes.later {w y w' : World} {b : Nat} {Y' : Yd} {Fp : List Nat} (hg : Grew w y) (h : RDoes y w' b Fp Y') : RDoes w w' b Fp Y' := by
  obtain ⟨F, h1, h2, h3⟩ := h
  exact ⟨F, h1, (Grew.keeps hg).trans h2, fun k hk => (h3 k hk).imp id (fun h => Nat.le_trans hg.size h)⟩

theorem RDoes.trans {w w1 w2 : World} {b : Nat} {Y1 Y2 : Yd} {Fp : List Nat} (h : RDoes w w1 b Fp Y1) (h2 : ∀ Fp1, IsRef w1 b Y1 Fp1 → RDoes w1 w2 b Fp1 Y2) : RDoes w w2 b Fp Y2 := by
  obtain ⟨F1, a1, a2, a3⟩ := h
  obtain ⟨F2, b1, b2, b3⟩ := h2 F1 a1
  refine ⟨F2, b1, keeps_then a2 b2 a3, fun k hk => ?_⟩
  rcases b3 k hk with h | h
  · exact a3 k h
  · exact .inr (Nat.le_trans a2.size h)

theorem RDoes.setN {w w' : World} {b : Nat} {Y : Yd} {sb sc lb lc : Nat} {lv : List Value} {Lb : List Nat} (h : RAll w b Y sb sc lb lc lv Lb) (hg : Grew w w') {k : Nat} (hk : k < 8) (v : Int) : RDoes w (w'.setCell ⟨b, 2 + k, none⟩ (.int .i64 v)) b (b :: sb :: lb :: Lb) (Hz.setN Y k v) :=
  ⟨_, ⟨sb, sc, lb, lc, lv, Lb, (h.grew hg).setN hk v, rfl⟩, (Grew.keeps hg).trans (keeps_store_in _ _ _ _ (by simp)), fun _ h => .inl h⟩

theorem RDoes.set0 {w w' : World} {b : Nat} {Y : Yd} {sb sc lb lc : Nat} {lv : List Value} {Lb : List Nat} (h : RAll w b Y sb sc lb lc lv Lb) (hg : Grew w w') {i : Nat} (hi : i < Y.th.length) (v : Int) : RDoes w (w'.setCell ⟨sb, i * 2, none⟩ (.int .i64 v)) b (b :: sb :: lb :: Lb) (setT Y i ((thAt Y i).put 0 v)) :=
  ⟨_, ⟨sb, sc, lb, lc, lv, Lb, (h.grew hg).setSlot hi (.inl rfl) v, rfl⟩, (Grew.keeps hg).trans (keeps_store_in _ _ _ _ (by simp)), fun _ h => .inl h⟩

theorem RDoes.set1 {w w' : World} {b : Nat} {Y : Yd} {sb sc lb lc : Nat} {lv : List Value} {Lb : List Nat} (h : RAll w b Y sb sc lb lc lv Lb) (hg : Grew w w') {i : Nat} (hi : i < Y.th.length) (v : Int) : RDoes w (w'.setCell ⟨sb, i * 2 + 1, none⟩ (.int .i64 v)) b (b :: sb :: lb :: Lb) (setT Y i ((thAt Y i).put 1 v)) :=
  ⟨_, ⟨sb, sc, lb, lc, lv, Lb, (h.grew hg).setSlot hi (.inr rfl) v, rfl⟩, (Grew.keeps hg).trans (keeps_store_in _ _ _ _ (by simp)), fun _ h => .inl h⟩

end Go.Proofs.Ytcifpigjcfkhmaa
