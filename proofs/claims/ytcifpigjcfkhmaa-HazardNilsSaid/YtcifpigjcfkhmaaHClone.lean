/- Walk: slices.Clone at threads; a copy of a yard, half done. -/
import Derived.Test.YtcifpigjcfkhmaaHSame3
namespace Go.Lin
open Go.RowKit
section
variable {P : Program} {w : World}

theorem run_append_new (t tx ty e : TypeId) (i : TypeInfo) (z : Value) (size bytes : Nat) (ht : P.underlying t = some (.slice e)) (hi : P.info? e = some i) (hz : i.zero = some z)
    (hsize : i.size = size) (hby : i.bytes = bytes) (hzs : z.cells.size = size)
    (a : Option Addr) (x : Value) (m : Nat) (news : List Value) (hsrc : Src P size tx x m news w) (hm0 : 0 < m)
    (h63 : m ≤ maxLen) (hbytes : m * bytes ≤ 140737488355328) :
    ∃ c w' cur, (Builtin.append_ #[t, tx] ty #[.slice a 0 0, x]).run P w = .ok (.slice (some ⟨w.heap.size, 0, none⟩) m c) w' ∧ w'.heap[w.heap.size]? = some (.cells cur e (0, 0)) ∧ m ≤ c ∧ c ≤ maxLen ∧ c * size ≤ cur.size ∧ cur.toList.take (m * size) = news ∧ Grew w w' := by
  subst hsize
  subst hby
  have hsmall : m ≤ 9223372036854775807 := by simp only [maxLen] at h63; omega
  have hfirst : (Builtin.firstCells i.size 0 (.slice a 0 0)).run P w.drew = .ok ([] : List Value).toArray w.drew := by
    cases a with
    | none => exact run_firstCells_none w.drew i.size 0 0 0
    | some ad => exact run_firstCells_some w.drew i.size 0 ad 0 0 [] (by simp) (fun j u h => by simp at h)
  have hr := run_append_grow_src (P := P) w t tx ty e i z ht hi hz a 0 0 [] hfirst x m news hsrc (by omega) (by omega) (growslice_fits (by omega) (by simpa using hbytes))
  have hge := grownCap_ge w (0 + m) 0 e
  have hcm : grownCap w (0 + m) 0 e ≤ maxLen := grownCap_le_maxLen w (0 + m) 0 e (by simpa using h63)
  simp only [List.nil_append, Nat.zero_add] at hr hge hcm
  refine ⟨_, _, _, hr, heap_alloc_new w.drew _, hge, hcm, ?_, ?_, grew_alloc (grew_drew (grew_refl w)) _⟩
  · simp only [Array.size_append, List.size_toArray, size_zeroC, hzs, hsrc.newsLen, ← Nat.add_mul]
    rw [show m + (grownCap w m 0 e - m) = grownCap w m 0 e by omega]
    omega
  · simp only [Array.toList_append]
    rw [← hsrc.newsLen]
    exact List.take_left

theorem wpList_append_new {ops : Array Oper} {rest : List Oper} {o : Oper} {act : Act} {Q : Exit → Act → World → Prop} (hgd : o.guard = none) (s y : Operand) (t tx : TypeId)
    (ho : o.op = .call { callee := .builtin .append, args := #[s, y], argTypes := #[t, tx] })
    (e : TypeId) {z : Value} {size bytes : Nat} (ht : P.underlying t = some (.slice e)) (hinfo : (P.info? e).map (fun i => (i.zero, i.size, i.bytes)) = some (some z, size, bytes)) (hzs : z.cells.size = size)
    (a : Option Addr) (hs : act.eval s = .slice a 0 0) (x : Value) (hy : act.eval y = x) (m : Nat) (news : List Value) (hsrc : Src P size tx x m news w) (hm0 : 0 < m)
    (h63 : m ≤ maxLen) (hbytes : m * bytes ≤ 140737488355328)
    (h : ∀ c w' cur, w'.heap[w.heap.size]? = some (.cells cur e (0, 0)) → m ≤ c → c ≤ maxLen → c * size ≤ cur.size → cur.toList.take (m * size) = news → Grew w w' → wpList P ops Q rest (act.put o.dst (.slice (some ⟨w.heap.size, 0, none⟩) m c)) w') : wpList P ops Q (o :: rest) act w := by
  refine wpList_plain hgd fun K hK => ?_
  obtain ⟨i, hi, hz0, hz1, hz2⟩ := info_parts hinfo
  obtain ⟨c, w', cur, hr, h1, h2, h3, h4, h5, h6⟩ := run_append_new (P := P) t tx o.type e i z size bytes ht hi hz0 hz1 hz2 hzs a x m news hsrc hm0 h63 hbytes
  unfold Oper.wp execOp
  simp only [ho, resolve, invoke, builtin, Sem.run_bind, Sem.run_pure, Result.andThen_ok, List.map_toArray, List.map_cons, List.map_nil, hs, hy, hr]
  exact hK _ _ (h c w' cur h1 h2 h3 h4 h5 h6)
end
end Go.Lin
namespace Go.Proofs.Ytcifpigjcfkhmaa
open Go.RowKit Go.Lin Go.Lin.Hz

theorem Try.info81 : (Try.prog.info? 81).map (fun i => (i.zero, i.size, i.bytes)) = some (some (.agg #[.int .i64 0, .int .i64 0, .slice none 0 0]), 3, 40) := by kernel_rfl

theorem tCells_one {w : World} : ∀ (th : List Th) (lv : List Value), (∀ v ∈ lv, v.oneCell' = true) → ∀ u ∈ tCells th lv, u.oneCell' = true
  | [], _, _, _, h => by simp [tCells] at h
  | _ :: _, [], _, _, h => by simp [tCells] at h
  | t :: th, v :: lv, hv, u, h => by
    simp only [tCells, List.mem_cons] at h
    rcases h with rfl | rfl | rfl | h
    · rfl
    · rfl
    · exact hv _ (by simp)
    · exact tCells_one (w := w) th lv (fun x hx => hv x (by simp [hx])) u h

set_option maxHeartbeats 1000000 in
theorem clone74_any (th : List Th) (lv : List Value) (tb cap : Nat) (cur : Array Value) (w : World) (h1 : w.heap[tb]? = some (.cells cur 81 (0, 0))) (h2 : cur.toList.take (th.length * 3) = tCells th lv) (h3 : lv.length = th.length) (hn0 : 0 < th.length) (h4 : th.length ≤ 4)
    (hv : ∀ v ∈ lv, v.oneCell' = true) :
    Calls Try.prog 74 #[.slice (some ⟨tb, 0, none⟩) th.length cap] w fun e w' => ∃ (g c : Nat) (cur' : Array Value), e = .returned (.slice (some ⟨g, 0, none⟩) th.length c) ∧ w.heap.size ≤ g ∧
      w'.heap[g]? = some (.cells cur' 81 (0, 0)) ∧ th.length ≤ c ∧ c ≤ maxLen ∧ c * 3 ≤ cur'.size ∧ cur'.toList.take (th.length * 3) = tCells th lv ∧ Grew w w' := by
  obtain ⟨vs, hvs⟩ : ∃ vs, tCells th lv = vs := ⟨_, rfl⟩
  have hlen : (tCells th lv).length = th.length * 3 := tCells_length _ _ h3.symm
  have hone := tCells_one (w := w) th lv hv
  rw [hvs] at h2 hlen hone ⊢
  obtain ⟨n, hn⟩ : ∃ n, th.length = n := ⟨_, rfl⟩
  rw [hn] at h2 hlen hn0 h4 ⊢
  have htl := lt_of_obj h1
  have hnil := fun w => Lib.run_eql_slice_nil (P := Try.prog) w 64 81 (some ⟨tb, 0, none⟩) n cap 0 0 Try.underlying64
  have hsrc : Src Try.prog 3 64 (.slice (some ⟨tb, 0, none⟩) n cap) n vs (w.alloc (.cells #[] 81)) := by
    refine Src.ofSlice _ Try.underlying64 ⟨tb, 0, none⟩ n cap _ hlen ?_ hone
    intro j u hj
    have hjn : j < n * 3 := by have := (List.getElem?_eq_some_iff.1 hj).1; omega
    rw [Addr.add_lit, Nat.zero_add, World.cell?_alloc_lt (a := ⟨tb, j, none⟩) _ _ htl, cell_of_row w tb _ _ _ _ h1, ← hj, ← h2, List.getElem?_take_of_lt hjn, ← Array.getElem?_toList]
  have HSRC := hid hsrc
  clear hsrc hvs hlen hone h2 h3 hn h1 hv
  go_enter Try.func74, Try.ntmps74
  go_wp2_with (at_builtin; refine wpList_append_new rfl _ _ 64 64 rfl 81 Try.underlying64 Try.info81 rfl _ rfl _ rfl n _ HSRC.out hn0 (by unfold maxLen; omega) (by omega) ?_; intro c w1 cur1 a1 a2 a3 a4 a5 a6; have HA1 := hid a1; have HA5 := hid a5; clear a1 a5)
  go_ret
  exact ⟨_, c, cur1, rfl, by simp, by simpa using HA1.out, a2, a3, a4, HA5.out, grew_trans (grew_alloc (grew_refl w) _) a6⟩

/-- A copy of a yard, of which j lists are done. -/
structure Cp (base : Nat) (wr : World) (B g c : Nat) (Y : Yd) (lv lvj : List Value) (j : Nat) : Prop where
  obj : wr.heap[B]? = some (.cells (yCells Y (.slice (some ⟨g, 0, none⟩) Y.th.length c)).toArray 66 (0, 0))
  row : ∃ cur : Array Value, wr.heap[g]? = some (.cells cur 81 (0, 0)) ∧ c * 3 ≤ cur.size ∧ cur.toList.take (Y.th.length * 3) = tCells Y.th lvj
  len : lvj.length = Y.th.length
  old : ∀ i, j ≤ i → lvj[i]? = lv[i]?
  new : ∀ i, i < j → ∃ v, lvj[i]? = some v ∧ Lst 3 wr v (Y.th.getD i noTh).l
  feet : ∀ k ∈ (lvj.take j).filterMap foot, base ≤ k ∧ k ≠ B ∧ k ≠ g ∧ k < wr.heap.size
  nd : ((lvj.take j).filterMap foot).Nodup
  ne : g ≠ B
  lo : base ≤ B ∧ base ≤ g
  cap : Y.th.length ≤ c ∧ c ≤ maxLen

theorem Cp.grew {base : Nat} {wr w1 : World} {B g c : Nat} {Y : Yd} {lv lvj : List Value} {j : Nat} (h : Cp base wr B g c Y lv lvj j) (hg : Grew wr w1) : Cp base w1 B g c Y lv lvj j :=
  let ⟨cur, c1, c2⟩ := h.row
  ⟨(hg.block _ (lt_of_obj h.obj)).trans h.obj, ⟨cur, (hg.block _ (lt_of_obj c1)).trans c1, c2⟩, h.len, h.old, fun i hi => let ⟨v, h1, h2⟩ := h.new i hi; ⟨v, h1, h2.grew hg⟩,
    fun k hk => let ⟨a, b, c, d⟩ := h.feet k hk; ⟨a, b, c, Nat.lt_of_lt_of_le d hg.size⟩, h.nd, h.ne, h.lo, h.cap⟩

theorem Cp.step {base : Nat} {wr w1 : World} {B g c : Nat} {Y : Yd} {lv lvj : List Value} {j : Nat} (h : Cp base wr B g c Y lv lvj j) (hj : j < Y.th.length) (hb : base ≤ wr.heap.size) (hg : Grew wr w1) {u : Value} (hs : Lst 3 w1 u (Y.th.getD j noTh).l) (hf : ∀ k, foot u = some k → wr.heap.size ≤ k) :
    Cp base (w1.setCell ⟨g, j * 3 + 2, none⟩ u) B g c Y lv (lvj.set j u) (j + 1) := by
  have hkp := keeps_store w1 g (j * 3 + 2) u
  have h1 := h.grew hg
  obtain ⟨cur, c1, c2, c3⟩ := h1.row
  have hgl : g < wr.heap.size := by obtain ⟨_, c1, _⟩ := h.row; exact lt_of_obj c1
  have hBl := lt_of_obj h.obj
  have hth : ({ Y.th.getD j noTh with l := (Y.th.getD j noTh).l } : Th) = Y.th.getD j noTh := rfl
  have hset : Y.th.set j (Y.th.getD j noTh) = Y.th := by
    have : Y.th.getD j noTh = Y.th[j] := by simp [List.getD, hj]
    rw [this]; simp
  have hfm : ((lvj.set j u).take (j + 1)).filterMap foot = (lvj.take j).filterMap foot ++ (foot u).toList := by
    have hjl : j < lvj.length := by rw [h.len]; exact hj
    rw [List.take_add_one, List.take_set_of_le (Nat.le_refl _), List.getElem?_set_self hjl, List.filterMap_append]
    cases hfu : foot u <;> simp [hfu]
  refine ⟨hkp.obj _ _ h1.obj (fun e => h.ne e.symm), ⟨_, heap_setCell_same _ _ _ _ _ _ c1, by simpa using c2, ?_⟩, by simpa using h.len, fun i hi => ?_, fun i hi => ?_, ?_, ?_, h.ne, h.lo, h.cap⟩
  · rw [Array.toList_setIfInBounds, List.take_set, c3, tCells_setl _ _ _ (Y.th.getD j noTh).l _ h.len.symm hj, hth, hset]
  · rw [List.getElem?_set_ne (by omega)]; exact h.old i (by omega)
  · by_cases hij : i = j
    · subst hij
      refine ⟨u, by rw [List.getElem?_set_self (by rw [h.len]; exact hj)], hs.keeps hkp (fun k o hk e => ?_)⟩
      have := hf k hk; omega
    · obtain ⟨v, hv, hl⟩ := h1.new i (by omega)
      refine ⟨v, by rw [List.getElem?_set_ne (by omega)]; exact hv, hl.keeps hkp (fun k o hk e => ?_)⟩
      have hm : k ∈ (lvj.take j).filterMap foot := List.mem_filterMap.2 ⟨v, List.mem_of_getElem? (show (lvj.take j)[i]? = some v by rw [List.getElem?_take_of_lt (by omega)]; exact hv), hk⟩
      exact (h.feet k hm).2.2.1 e
  · rw [hfm]
    intro k hk
    have hsz := hg.size
    rcases List.mem_append.1 hk with hk | hk
    · obtain ⟨a1, a2, a3, a4⟩ := h.feet k hk
      exact ⟨a1, a2, a3, by simp; omega⟩
    · have hfu : foot u = some k := by simpa using hk
      have := hf k hfu
      have := hs.lt hfu
      exact ⟨by omega, by omega, by omega, by simpa using this⟩
  · rw [hfm]
    refine List.nodup_append.2 ⟨h.nd, by cases foot u <;> simp, ?_⟩
    intro k hk k' hk' e
    subst e
    have hfu : foot u = some k := by simpa using hk'
    have := hf k hfu
    have := (h.feet k hk).2.2.2
    omega

theorem Cp.done {base : Nat} {wr : World} {B g c : Nat} {Y : Yd} {lv lvj : List Value} (h : Cp base wr B g c Y lv lvj Y.th.length) : ∃ Fp, IsYard wr B Y Fp ∧ ∀ k ∈ Fp, base ≤ k := by
  obtain ⟨cur, c1, c2, c3⟩ := h.row
  have ht : lvj.take Y.th.length = lvj := List.take_of_length_le (by rw [h.len]; omega)
  have hf := h.feet
  have hn := h.nd
  rw [ht] at hf hn
  refine ⟨B :: g :: lvj.filterMap foot, ⟨g, c, cur, lvj, h.obj, c1, h.cap.1, h.cap.2, c2, c3, h.len, h.new, rfl, ?_⟩, ?_⟩
  · simp only [List.nodup_cons, List.mem_cons, not_or]
    exact ⟨⟨fun e => h.ne e.symm, fun hm => (hf _ hm).2.1 rfl⟩, fun hm => (hf _ hm).2.2.1 rfl, hn⟩
  · intro k hk
    simp only [List.mem_cons] at hk
    rcases hk with rfl | rfl | hk
    · exact h.lo.1
    · exact h.lo.2
    · exact (hf k hk).1

end Go.Proofs.Ytcifpigjcfkhmaa
