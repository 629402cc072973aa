/- A list that is appended to, in a yard: its memory. -/
import Derived.Test.YtcifpigjcfkhmaaHList
namespace Go.Lin
open Go.RowKit
section
variable {P : Program} {w : World}

theorem run_append_zero (t tx ty e : TypeId) (i : TypeInfo) (z : Value) (size bytes : Nat) (ht : P.underlying t = some (.slice e)) (hi : P.info? e = some i) (hz : i.zero = some z)
    (hsize : i.size = size) (hby : i.bytes = bytes) (hzs : z.cells.size = size)
    (a : Option Addr) (x : Value) (m : Nat) (news : List Value) (hsrc : Src P size tx x m news w) (hm0 : 0 < m)
    (h63 : m ≤ maxLen) (hbytes : m * bytes ≤ 140737488355328) :
    ∃ v' w', (Builtin.append_ #[t, tx] ty #[.slice a 0 0, x]).run P w = .ok v' w' ∧ Seg w' w.heap.size e size v' m news ∧ w.grownBy w' none := by
  subst hsize
  subst hby
  have hsmall : m ≤ 9223372036854775807 := by simp only [maxLen] at h63; omega
  have hfirst : (Builtin.firstCells i.size 0 (.slice a 0 0)).run P w.drew = .ok ([] : List Value).toArray w.drew := by
    cases a with
    | none => exact run_firstCells_none w.drew i.size 0 0 0
    | some ad => exact run_firstCells_some w.drew i.size 0 ad 0 0 [] (by simp) (fun j u h => by simp at h)
  have hr := run_append_grow_src (P := P) w t tx ty e i z ht hi hz a 0 0 [] hfirst x m news hsrc (by omega) (by omega) (growslice_fits (by omega) (by simpa using hbytes))
  have hge := grownCap_ge w (0 + m) 0 e
  have hcm : grownCap w (0 + m) 0 e ≤ maxLen := grownCap_le_maxLen w (0 + m) 0 e (by simpa using h63)
  simp only [List.nil_append, Nat.zero_add] at hr hge hcm
  refine ⟨_, _, hr, ⟨hsrc.newsLen, .inr ⟨w.heap.size, 0, _, _, rfl, Nat.le_refl _, heap_alloc_new w.drew _, hge, hcm, ?_, ?_⟩⟩, ⟨rfl, rfl, rfl, by simp, fun k hk _ => Below.heap_alloc w.drew _ k hk⟩⟩
  · simp only [Array.size_append, List.size_toArray, size_zeroC, hzs, hsrc.newsLen, ← Nat.add_mul]
    rw [show m + (grownCap w m 0 e - m) = grownCap w m 0 e by omega]
    omega
  · simp only [Array.toList_append, List.drop_zero]
    rw [← hsrc.newsLen]
    exact List.take_left
end

theorem keeps_of_grown {w w' : World} {row : Option Nat} (h : w.grownBy w' row) : Keeps (fun k _ => row = some k) w w' :=
  (Keeps.refl _ w).grown h (fun _ _ e _ => e)

end Go.Lin
namespace Go.Lin.Hz
open Go.RowKit Go.Lin

theorem foot_own {v : Value} {k : Nat} (h : foot v = some k) : v.ownBlock = some k := by
  unfold foot at h
  split at h
  · simpa [Value.ownBlock] using h
  · cases h

/-- One number is appended to a list. -/
theorem wpList_append_lst {P : Program} {w : World} {ops : Array Oper} {rest : List Oper} {o : Oper} {a : Act} {Q : Exit → Act → World → Prop} (hgd : o.guard = none) (s x : Operand) (t : TypeId)
    (ho : o.op = .call { callee := .builtin .append, args := #[s, x], argTypes := #[t, t] })
    (e : TypeId) {z : Value} {bytes : Nat} (ht : P.underlying t = some (.slice e)) (hinfo : (P.info? e).map (fun i => (i.zero, i.size, i.bytes)) = some (some z, 1, bytes)) (hzs : z.cells.size = 1) (hb : bytes ≤ 64)
    (v : Value) (l : List Int) (hs : a.eval s = v) (hown : Lst e w v l) (b c : Nat) (u : Int) (hx : a.eval x = .slice (some ⟨b, 0, none⟩) 1 c) (hc : w.cell? ⟨b, 0, none⟩ = some (.int .i64 u))
    (hn : l.length < 1000000000)
    (h : ∀ v' w', Lst e w' v' (l ++ [u]) → Keeps (fun k _ => foot v = some k) w w' → (∀ k, foot v' = some k → foot v = some k ∨ w.heap.size ≤ k) → wpList P ops Q rest (a.put o.dst v') w') : wpList P ops Q (o :: rest) a w := by
  rcases hown with ⟨ad, rfl, rfl⟩ | ⟨hf, hseg⟩
  · refine wpList_plain hgd fun K hK => ?_
    obtain ⟨i, hi, hz0, hz1, hz2⟩ := info_parts hinfo
    have hsrc : Src P 1 t (.slice (some ⟨b, 0, none⟩) 1 c) 1 [.int .i64 u] w := Src.ofSlice _ ht ⟨b, 0, none⟩ 1 c [.int .i64 u] rfl (by
      intro j w' hj
      have : j = 0 := by
        rcases j with _ | j
        · rfl
        · simp at hj
      subst this
      simp at hj
      subst hj
      rw [Addr.add_lit]; exact hc) (by simp [Value.oneCell'])
    obtain ⟨v', w', hr, h2, h3⟩ := run_append_zero (P := P) t t o.type e i z 1 bytes ht hi hz0 hz1 hz2 hzs ad _ 1 _ hsrc (by omega) (by unfold maxLen; omega) (by omega)
    unfold Oper.wp execOp
    simp only [ho, resolve, invoke, builtin, Sem.run_bind, Sem.run_pure, Result.andThen_ok, List.map_toArray, List.map_cons, List.map_nil, hs, hx, hr]
    obtain ⟨h4, h5⟩ := Lst.of_seg (l := [u]) (n := e) h2
    refine hK _ _ (h v' w' h4 ((keeps_of_grown h3).mono (fun k _ e => by cases e)) (fun k hk => .inr (h5 k hk)))
  · refine wpList_append_one hgd s x t ho 0 e ht hinfo hzs hb v l.length _ hs hseg b c _ hx hc rfl hn (Nat.zero_le _) fun v' w' h1 h2 h3 => ?_
    have h1' : Seg w' 0 e 1 v' (l ++ [u]).length ((l ++ [u]).map (.int .i64)) := by simpa using h1
    refine h v' w' (Lst.of_seg h1').1 ((keeps_of_grown h2).mono (fun k _ e => by rw [hf]; exact e)) (fun k hk => ?_)
    have h4 := foot_own hk
    rcases h3 with h3 | h3
    · exact .inl (by rw [hf, ← h3, h4])
    · right; rw [h3] at h4; simp at h4; omega

end Go.Lin.Hz
namespace Go.Lin.Hz
open Go.RowKit Go.Lin

theorem filterMap_set_nodup {α : Type} (f : α → Option Nat) : ∀ (l : List α) (i : Nat) (v v' : α) (N : Nat), l[i]? = some v → (l.filterMap f).Nodup → (∀ k ∈ l.filterMap f, k < N) → (∀ k, f v' = some k → f v = some k ∨ N ≤ k) →
    ((l.set i v').filterMap f).Nodup ∧ ∀ k ∈ (l.set i v').filterMap f, k ∈ l.filterMap f ∨ (f v' = some k ∧ N ≤ k) := by
  intro l i v v' N h hn hlt hv
  have hmem : ∀ k ∈ (l.set i v').filterMap f, k ∈ l.filterMap f ∨ (f v' = some k ∧ N ≤ k) := by
    intro k hk
    obtain ⟨x, hx, hfx⟩ := List.mem_filterMap.1 hk
    rcases List.mem_or_eq_of_mem_set hx with h1 | rfl
    · exact .inl (List.mem_filterMap.2 ⟨x, h1, hfx⟩)
    · rcases hv k hfx with h2 | h2
      · exact .inl (List.mem_filterMap.2 ⟨v, List.mem_of_getElem? h, h2⟩)
      · exact .inr ⟨hfx, h2⟩
  refine ⟨?_, hmem⟩
  clear hmem
  induction l generalizing i with
  | nil => simp at h
  | cons x l ih =>
    cases i with
    | zero =>
      simp at h; subst h
      rw [List.set_cons_zero]
      have htl : (l.filterMap f).Nodup := by
        rw [List.filterMap_cons] at hn
        split at hn
        · exact hn
        · exact (List.nodup_cons.1 hn).2
      rw [List.filterMap_cons]
      split
      · exact htl
      · rename_i k hk
        refine List.nodup_cons.2 ⟨fun hm => ?_, htl⟩
        rcases hv k hk with h2 | h2
        · rw [List.filterMap_cons, h2] at hn
          exact (List.nodup_cons.1 hn).1 hm
        · have := hlt k (by rw [List.filterMap_cons]; split; exact hm; exact List.mem_cons_of_mem _ hm)
          omega
    | succ i =>
      rw [List.set_cons_succ, List.filterMap_cons]
      have htl : (l.filterMap f).Nodup := by
        rw [List.filterMap_cons] at hn
        split at hn
        · exact hn
        · exact (List.nodup_cons.1 hn).2
      have hltl : ∀ k ∈ l.filterMap f, k < N := fun k hk => hlt k (by rw [List.filterMap_cons]; split; exact hk; exact List.mem_cons_of_mem _ hk)
      have hi := ih i (by simpa using h) htl hltl
      split
      · exact hi
      · rename_i k hk
        refine List.nodup_cons.2 ⟨fun hm => ?_, hi⟩
        rw [List.filterMap_cons, hk] at hn
        have hno := (List.nodup_cons.1 hn).1
        obtain ⟨y, hy, hfy⟩ := List.mem_filterMap.1 hm
        rcases List.mem_or_eq_of_mem_set hy with h1 | rfl
        · exact hno (List.mem_filterMap.2 ⟨y, h1, hfy⟩)
        · rcases hv k hfy with h2 | h2
          · exact hno (List.mem_filterMap.2 ⟨v, List.mem_of_getElem? (by simpa using h), h2⟩)
          · have := hlt k (by rw [List.filterMap_cons, hk]; simp)
            omega

end Go.Lin.Hz
namespace Go.Proofs.Ytcifpigjcfkhmaa
open Go.RowKit Go.Lin Go.Lin.Hz

theorem YAll.lt {w : World} {b : Nat} {Y : Yd} {tb cap : Nat} {lv : List Value} {Fp : List Nat} (h : YAll w b Y tb cap lv Fp) : ∀ k ∈ lv.filterMap foot, k < w.heap.size := by
  intro k hk
  obtain ⟨v, hv, hf⟩ := List.mem_filterMap.1 hk
  obtain ⟨i, hi, rfl⟩ := List.getElem_of_mem hv
  obtain ⟨v, hv', hs⟩ := h.list i (by rw [← h.run.th.len]; exact hi)
  rw [List.getElem?_eq_getElem hi] at hv'
  cases hv'
  exact hs.lt hf

theorem YAll.setN {w : World} {b : Nat} {Y : Yd} {tb cap : Nat} {lv : List Value} {Fp : List Nat} (h : YAll w b Y tb cap lv Fp) {k : Nat} (hk : k < 8) (v : Int) : YAll (w.setCell ⟨b, 1 + k, none⟩ (.int .i64 v)) b (Hz.setN Y k v) tb cap lv Fp := by
  have hkp := keeps_store w b (1 + k) (.int .i64 v)
  have hn := h.nd
  rw [h.fp] at hn
  simp only [List.nodup_cons, List.mem_cons, not_or] at hn
  obtain ⟨cur, c1, c2, c3⟩ := h.row
  refine ⟨h.run.setN hk v, ⟨cur, hkp.obj _ _ c1 (fun e => h.run.ne e), c2, c3⟩, h.le, h.max, fun i hi => ?_, h.fp, h.nd⟩
  obtain ⟨x, hx, hs⟩ := h.list i hi
  refine ⟨x, hx, hs.keeps hkp (fun k' o hb e => hn.1.2 ?_)⟩
  rw [List.mem_filterMap]
  exact ⟨x, List.mem_of_getElem? hx, by rw [hb, e]⟩

/-- The yard behind a list that was changed and stored. -/
theorem YAll.setList {w w1 : World} {b : Nat} {Y : Yd} {tb cap : Nat} {lv : List Value} {Fp : List Nat} (h : YAll w b Y tb cap lv Fp) {i : Nat} (hi : i < Y.th.length) {v v' : Value} (hv : lv[i]? = some v) {l : List Int}
    (hk : Keeps (fun k _ => foot v = some k) w w1) (hs : Lst 3 w1 v' l) (hf : ∀ k, foot v' = some k → foot v = some k ∨ w.heap.size ≤ k) :
    YAll (w1.setCell ⟨tb, i * 3 + 2, none⟩ v') b (setT Y i { thAt Y i with l := l }) tb cap (lv.set i v') (b :: tb :: (lv.set i v').filterMap foot) := by
  have hn := h.nd
  rw [h.fp] at hn
  simp only [List.nodup_cons, List.mem_cons, not_or] at hn
  have hvm := List.mem_of_getElem? hv
  have hlt := h.lt
  obtain ⟨hnd', hmem'⟩ := filterMap_set_nodup foot lv i v v' w.heap.size hv hn.2.2 hlt hf
  have hblt := lt_of_obj h.run.obj
  have htlt := h.run.th.lt
  have hown : ∀ (x : Value) k, x ∈ lv → foot x = some k → k ≠ b ∧ k ≠ tb := by
    intro x k hx hb
    have : k ∈ lv.filterMap foot := List.mem_filterMap.2 ⟨x, hx, hb⟩
    exact ⟨fun e => hn.1.2 (e ▸ this), fun e => hn.2.1 (e ▸ this)⟩
  have hks := keeps_store w1 tb (i * 3 + 2) v'
  obtain ⟨cur, c1, c2, c3⟩ := h.row
  have c1' := hk.obj _ _ c1 (fun e => (hown v tb hvm e).2 rfl)
  have hlen : (setT Y i { thAt Y i with l := l }).th.length = Y.th.length := by simp [setT]
  have hrow : (cur.setIfInBounds (i * 3 + 2) v').toList.take ((setT Y i { thAt Y i with l := l }).th.length * 3) = tCells (setT Y i { thAt Y i with l := l }).th (lv.set i v') := by
    show _ = tCells (Y.th.set (i : Int).toNat { thAt Y i with l := _ }) _
    rw [hlen, Int.toNat_natCast, show thAt Y (i : Int) = Y.th.getD i noTh from rfl, ← tCells_setl _ _ _ _ _ h.run.th.len.symm hi, ← c3, Array.toList_setIfInBounds, List.take_set]
  have hobj2 := heap_setCell_same w1 tb (i * 3 + 2) _ _ v' c1'
  refine ⟨⟨?_, h.run.st, by rw [hlen]; exact h.run.len, ?_, ⟨_, hobj2⟩, h.run.ne⟩, ⟨_, hobj2, by simpa using c2, hrow⟩, by rw [hlen]; exact h.le, h.max, fun j hj => ?_, rfl, ?_⟩
  · rw [hks.obj _ _ (hk.obj _ _ h.run.obj (fun e => (hown v b hvm e).1 rfl)) (fun e => h.run.ne e.symm)]
    simp [yCells, setT]
  · exact thAt_of_row hobj2 hrow (by rw [List.length_set, hlen]; exact h.run.th.len) (by simpa using c2)
  · rw [hlen] at hj
    by_cases hij : i = j
    · subst hij
      refine ⟨v', by rw [List.getElem?_set_self (by rw [h.run.th.len]; exact hi)], ?_⟩
      have hl : ((setT Y i { thAt Y i with l := l }).th.getD i noTh).l = l := by
        simp [setT, List.getD, hi]
      rw [hl]
      refine hs.keeps hks (fun k o hb e => ?_)
      rcases hf k hb with h2 | h2
      · exact (hown v k hvm h2).2 e
      · omega
    · obtain ⟨x, hx, hsx⟩ := h.list j hj
      refine ⟨x, by rw [List.getElem?_set_ne hij]; exact hx, ?_⟩
      have hl : ((setT Y i { thAt Y i with l := l }).th.getD j noTh).l = (Y.th.getD j noTh).l := by
        simp [setT, List.getD, hij]
      rw [hl]
      have hxm := List.mem_of_getElem? hx
      refine (hsx.keeps hk (fun k o hb e => ?_)).keeps hks (fun k o hb e => (hown x k hxm hb).2 e)
      exact hij (filterMap_inj _ _ hn.2.2 hv hx e hb)
  · simp only [List.nodup_cons, List.mem_cons, not_or]
    refine ⟨⟨hn.1.1, fun hm => ?_⟩, fun hm => ?_, hnd'⟩
    · rcases hmem' _ hm with h1 | h1
      · exact hn.1.2 h1
      · omega
    · rcases hmem' _ hm with h1 | h1
      · exact hn.2.1 h1
      · omega

theorem YAll.setList_fp {w : World} {b : Nat} {Y : Yd} {tb cap : Nat} {lv : List Value} {Fp : List Nat} (h : YAll w b Y tb cap lv Fp) {i : Nat} {v v' : Value} (hv : lv[i]? = some v)
    (hf : ∀ k, foot v' = some k → foot v = some k ∨ w.heap.size ≤ k) : ∀ k ∈ b :: tb :: (lv.set i v').filterMap foot, k ∈ Fp ∨ w.heap.size ≤ k := by
  have hn := h.nd
  rw [h.fp] at hn
  simp only [List.nodup_cons, List.mem_cons, not_or] at hn
  obtain ⟨hnd', hmem'⟩ := filterMap_set_nodup foot lv i v v' w.heap.size hv hn.2.2 h.lt hf
  intro k hk
  rw [h.fp]
  simp only [List.mem_cons] at hk ⊢
  rcases hk with rfl | rfl | hk
  · exact .inl (.inl rfl)
  · exact .inl (.inr (.inl rfl))
  · rcases hmem' k hk with h1 | h1
    · exact .inl (.inr (.inr h1))
    · exact .inr h1.2

end Go.Proofs.Ytcifpigjcfkhmaa
