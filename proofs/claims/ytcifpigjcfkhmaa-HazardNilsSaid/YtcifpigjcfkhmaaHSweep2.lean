/- A yard behind a sweep: its memory; the walk of a sweep. -/
import Derived.Test.YtcifpigjcfkhmaaHDelete
namespace Go.Lin.Hz
open Go.RowKit Go.Lin

theorem tCells_setl : ∀ (th : List Th) (lv : List Value) (i : Nat) (l : List Int) (v : Value), th.length = lv.length → i < th.length →
    (tCells th lv).set (i * 3 + 2) v = tCells (th.set i { th.getD i noTh with l := l }) (lv.set i v)
  | [], _, _, _, _, _, h => absurd h (by simp)
  | _ :: _, [], _, _, _, h, _ => absurd h (by simp)
  | t :: th, x :: lv, 0, l, v, _, _ => by simp [tCells]
  | t :: th, x :: lv, i + 1, l, v, hl, hi => by
    have := tCells_setl th lv i l v (by simpa using hl) (by simpa using hi)
    rw [show (i + 1) * 3 + 2 = (i * 3 + 2) + 3 from by omega]
    simp [tCells, this]

theorem filterMap_set {α β : Type} (f : α → Option β) : ∀ (l : List α) (i : Nat) (v v' : α), l[i]? = some v → f v' = f v → (l.set i v').filterMap f = l.filterMap f
  | [], _, _, _, h, _ => by simp at h
  | x :: l, 0, v, v', h, hf => by
    simp at h; subst h
    simp [List.filterMap_cons, hf]
  | x :: l, i + 1, v, v', h, hf => by
    simp only [List.set_cons_succ, List.filterMap_cons]
    rw [filterMap_set f l i v v' (by simpa using h) hf]

theorem filterMap_inj {α β : Type} (f : α → Option β) : ∀ (l : List α), (l.filterMap f).Nodup → ∀ {i j : Nat} {v x : α} {k : β}, l[i]? = some v → l[j]? = some x → f v = some k → f x = some k → i = j
  | [], _, _, _, _, _, _, h, _, _, _ => by simp at h
  | a :: l, hn, i, j, v, x, k, hi, hj, hv, hx => by
    have htl : (l.filterMap f).Nodup := by
      rw [List.filterMap_cons] at hn
      split at hn
      · exact hn
      · exact (List.nodup_cons.1 hn).2
    have hno : ∀ (y : α), f a = some k → y ∈ l → f y ≠ some k := by
      intro y ha hy e
      rw [List.filterMap_cons, ha] at hn
      exact (List.nodup_cons.1 hn).1 (List.mem_filterMap.2 ⟨y, hy, e⟩)
    cases i with
    | zero =>
      cases j with
      | zero => rfl
      | succ j =>
        simp at hi hj; subst hi
        exact absurd hx (hno x hv (List.mem_of_getElem? hj))
    | succ i =>
      cases j with
      | zero =>
        simp at hi hj; subst hj
        exact absurd hv (hno v hx (List.mem_of_getElem? hi))
      | succ j =>
        exact congrArg (· + 1) (filterMap_inj f l htl (by simpa using hi) (by simpa using hj) hv hx)

end Go.Lin.Hz
namespace Go.Proofs.Ytcifpigjcfkhmaa
open Go.RowKit Go.Lin Go.Lin.Hz

/-- All of a yard's memory. -/
structure YAll (w : World) (b : Nat) (Y : Yd) (tb cap : Nat) (lv : List Value) (Fp : List Nat) : Prop where
  run : YRun w b Y tb cap lv
  row : ∃ cur : Array Value, w.heap[tb]? = some (.cells cur 81 (0, 0)) ∧ cap * 3 ≤ cur.size ∧ cur.toList.take (Y.th.length * 3) = tCells Y.th lv
  le : Y.th.length ≤ cap
  max : cap ≤ maxLen
  list : ∀ i, i < Y.th.length → ∃ v, lv[i]? = some v ∧ Lst 3 w v (Y.th.getD i noTh).l
  fp : Fp = b :: tb :: lv.filterMap foot
  nd : Fp.Nodup

theorem thAt_of_row {w : World} {tb cap : Nat} {th : List Th} {lv : List Value} {cur : Array Value} (h2 : w.heap[tb]? = some (.cells cur 81 (0, 0))) (h6 : cur.toList.take (th.length * 3) = tCells th lv) (h7 : lv.length = th.length) (_ : cap * 3 ≤ cur.size) : ThAt w tb th lv := by
  have hcell : ∀ j, j < th.length * 3 → w.cell? ⟨tb, j, none⟩ = (tCells th lv)[j]? := by
    intro j hj
    rw [cell_of_row w tb _ _ _ _ h2, ← h6, List.getElem?_take_of_lt hj, ← Array.getElem?_toList]
  refine ⟨lt_of_obj h2, fun i hi => ?_, fun i hi => ?_, fun i hi => ?_, h7⟩
  · rw [hcell _ (by omega), Nat.mul_comm]; exact (tCells_at _ _ i h7.symm hi).1
  · rw [hcell _ (by omega), Nat.mul_comm]; exact (tCells_at _ _ i h7.symm hi).2.1
  · rw [hcell _ (by omega), Nat.mul_comm]; exact (tCells_at _ _ i h7.symm hi).2.2

theorem YAll.of {w : World} {b : Nat} {Y : Yd} {Fp : List Nat} (h : IsYard w b Y Fp) (hst : Y.st.length = 8) (h4 : Y.th.length ≤ 4) : ∃ tb cap lv, YAll w b Y tb cap lv Fp := by
  obtain ⟨tb, cap, cur, lv, g1, g2, g3, g4, g5, g6, g7, g8, rfl, hn⟩ := h
  have hn' := hn
  simp only [List.nodup_cons, List.mem_cons, not_or] at hn'
  exact ⟨tb, cap, lv, ⟨g1, hst, h4, thAt_of_row g2 g6 g7 g5, ⟨cur, g2⟩, fun e => hn'.1.1 e.symm⟩, ⟨cur, g2, g5, g6⟩, g3, g4, g8, rfl, hn⟩

theorem YAll.yard {w : World} {b : Nat} {Y : Yd} {tb cap : Nat} {lv : List Value} {Fp : List Nat} (h : YAll w b Y tb cap lv Fp) : IsYard w b Y Fp :=
  let ⟨cur, h1, h2, h3⟩ := h.row
  ⟨tb, cap, cur, lv, h.run.obj, h1, h.le, h.max, h2, h3, h.run.th.len, h.list, h.fp, h.nd⟩

/-- The yard behind a sweep of the thread i, whose list is the value v. -/
theorem YAll.swept {w w1 : World} {b : Nat} {Y : Yd} {tb cap : Nat} {lv : List Value} {Fp : List Nat} (h : YAll w b Y tb cap lv Fp) {i : Nat} (hi : i < Y.th.length) {v v' : Value} (hv : lv[i]? = some v) (hob : foot v' = foot v)
    (hr : YRun w1 b (midY Y (thAt Y i).l) tb cap lv) (hk : Keeps (fun k _ => k = b ∨ foot v = some k) w w1) (hs : Lst 3 w1 v' (stay Y (thAt Y i).l)) :
    YAll (w1.setCell ⟨tb, i * 3 + 2, none⟩ v') b (sweepY Y i) tb cap (lv.set i v') Fp := by
  have hn := h.nd
  rw [h.fp] at hn
  simp only [List.nodup_cons, List.mem_cons, not_or] at hn
  have hvm := List.mem_of_getElem? hv
  have hown : ∀ (x : Value) k, x ∈ lv → foot x = some k → k ≠ b ∧ k ≠ tb := by
    intro x k hx hb
    have : k ∈ lv.filterMap foot := List.mem_filterMap.2 ⟨x, hx, hb⟩
    exact ⟨fun e => hn.1.2 (e ▸ this), fun e => hn.2.1 (e ▸ this)⟩
  have htb : ¬ (tb = b ∨ foot v = some tb) := by
    rintro (e | e)
    · exact hn.1.1 e.symm
    · exact (hown v tb hvm e).2 rfl
  have hks := keeps_store w1 tb (i * 3 + 2) v'
  obtain ⟨cur, c1, c2, c3⟩ := h.row
  have c1' := hk.obj _ _ c1 htb
  have hlen : (sweepY Y (i : Int)).th.length = Y.th.length := by simp [sweepY]
  have hrow : (cur.setIfInBounds (i * 3 + 2) v').toList.take ((sweepY Y (i : Int)).th.length * 3) = tCells (sweepY Y i).th (lv.set i v') := by
    show _ = tCells (Y.th.set (i : Int).toNat { thAt Y i with l := _ }) _
    rw [hlen, Int.toNat_natCast, show thAt Y (i : Int) = Y.th.getD i noTh from rfl, ← tCells_setl _ _ _ _ _ h.run.th.len.symm hi, ← c3, Array.toList_setIfInBounds, List.take_set]
  have hobj2 := heap_setCell_same w1 tb (i * 3 + 2) _ _ v' c1'
  refine ⟨⟨?_, by show (freeAll _ _).length = 8; rw [freeAll_length]; exact h.run.st, by rw [hlen]; exact h.run.len, ?_, ⟨_, hobj2⟩, h.run.ne⟩, ⟨_, hobj2, by simpa using c2, hrow⟩, by rw [hlen]; exact h.le, h.max, fun j hj => ?_, ?_, h.nd⟩
  · rw [hks.obj _ _ hr.obj (fun e => h.run.ne e.symm)]
    simp [yCells, midY, sweepY]
  · exact thAt_of_row hobj2 hrow (by rw [List.length_set, hlen]; exact h.run.th.len) (by simpa using c2)
  · rw [hlen] at hj
    by_cases hij : i = j
    · subst hij
      refine ⟨v', by rw [List.getElem?_set_self (by rw [h.run.th.len]; exact hi)], ?_⟩
      have hl : ((sweepY Y (i : Int)).th.getD i noTh).l = stay Y (thAt Y i).l := by
        simp [sweepY, List.getD, hi]
      rw [hl]
      refine hs.keeps hks (fun k o hb e => ?_)
      rw [hob] at hb
      exact (hown v k hvm hb).2 e
    · obtain ⟨x, hx, hsx⟩ := h.list j hj
      refine ⟨x, by rw [List.getElem?_set_ne hij]; exact hx, ?_⟩
      have hl : ((sweepY Y (i : Int)).th.getD j noTh).l = (Y.th.getD j noTh).l := by
        simp [sweepY, List.getD, hij]
      rw [hl]
      have hxm := List.mem_of_getElem? hx
      refine (hsx.keeps hk (fun k o hb e => ?_)).keeps hks (fun k o hb e => (hown x k hxm hb).2 e)
      rcases e with e | e
      · exact (hown x k hxm hb).1 e
      · have hnd := hn.2.2
        exact hij (filterMap_inj _ _ hnd hv hx e hb)
  · rw [filterMap_set _ _ _ v v' hv hob]; exact h.fp

end Go.Proofs.Ytcifpigjcfkhmaa
