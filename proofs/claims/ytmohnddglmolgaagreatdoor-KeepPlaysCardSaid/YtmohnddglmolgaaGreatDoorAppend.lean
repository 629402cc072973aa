/- 'append' onto a slice that the call itself owns, wherever it begins in its block, from whatever source. Of no program. -/
import Derived.Test.YtmohnddglmolgaaGreatDoorBase
namespace Go.Lin
open Go.RowKit

section
variable {P : Program} {w : World}

theorem run_append_room_off (t tx ty e : TypeId) (i : TypeInfo) (ht : P.underlying t = some (.slice e)) (hi : P.info? e = some i) (g off sLen sCap : Nat) (cur : Array Value) (hg : w.heap[g]? = some (.cells cur e (0, 0)))
    (x : Value) (n : Nat) (news : List Value) (hs : Src P i.size tx x n news w) (hroom : sLen + n ≤ sCap) (hfit : off + sLen * i.size + news.length ≤ cur.size) :
    (Builtin.append_ #[t, tx] ty #[.slice (some ⟨g, off, none⟩) sLen sCap, x]).run P w =
      .ok (.slice (some ⟨g, off, none⟩) (sLen + n) sCap) (w.setRow g (cur.toList.take (off + sLen * i.size) ++ news ++ cur.toList.drop (off + sLen * i.size + news.length)).toArray) := by
  have hst := run_storeCells_at P g (off + sLen * i.size) e news 0 cur w hg (by simpa using hfit) hs.one
  simp only [Nat.add_zero] at hst
  rcases hs.kind with ⟨e', hk⟩ | hk <;> simp [Builtin.append_, run_underlying ht, run_underlying hk, sizeOf, typeInfo, hi, hs.len, hroom, hs.cells, Addr.add_lit, hst]

theorem size_zeroC (z : Array Value) (n : Nat) : (Builtin.zeroCells z n).size = n * z.size := by simp [Builtin.zeroCells]

/-- The cells of an owned slice, as 'append' loads them. -/
theorem Seg.firstCells {base : Nat} {e : TypeId} {size n : Nat} {v : Value} {xs : List Value} (h : Seg w base e size v n xs) :
    ∃ a cap, v = .slice a n cap ∧ (Builtin.firstCells size n (.slice a n cap)).run P w.drew = .ok xs.toArray w.drew := by
  rcases h.2 with ⟨rfl, rfl⟩ | ⟨g, off, cap, cur, rfl, hb, hg, hn, hm, hs, ht⟩
  · refine ⟨none, 0, rfl, ?_⟩
    have : xs = [] := List.eq_nil_of_length_eq_zero (by simpa using h.1)
    subst this
    exact run_firstCells_none w.drew size 0 0 0
  · refine ⟨_, _, rfl, run_firstCells_some w.drew size n ⟨g, off, none⟩ n cap xs h.1 ?_⟩
    intro j u hj
    have hjl : j < n * size := by rw [← h.1]; exact (List.getElem?_eq_some_iff.1 hj).1
    rw [Addr.add_lit]
    show w.cell? ⟨g, off + j, none⟩ = some u
    rw [cell_of_row w g (off + j) cur e _ hg, ← hj, ← ht, List.getElem?_take_of_lt hjl, List.getElem?_drop, ← Array.getElem?_toList]

theorem run_append_seg (base : Nat) (t tx ty e : TypeId) (i : TypeInfo) (z : Value) (size bytes : Nat) (ht : P.underlying t = some (.slice e)) (hi : P.info? e = some i) (hz : i.zero = some z)
    (hsize : i.size = size) (hby : i.bytes = bytes) (hzs : z.cells.size = size)
    (v : Value) (n : Nat) (xs : List Value) (hown : Seg w base e size v n xs) (x : Value) (m : Nat) (news : List Value) (hsrc : Src P size tx x m news w)
    (h63 : n + m ≤ maxLen) (hbytes : (n + m) * bytes ≤ 140737488355328) (hbase : base ≤ w.heap.size) :
    ∃ v' w', (Builtin.append_ #[t, tx] ty #[v, x]).run P w = .ok v' w' ∧ Seg w' base e size v' (n + m) (xs ++ news) ∧ w.grownBy w' v.ownBlock ∧
      (v'.ownBlock = v.ownBlock ∨ v'.ownBlock = some w.heap.size) := by
  subst hsize
  subst hby
  have hsmall : n + m ≤ 9223372036854775807 := by simp only [maxLen] at h63; omega
  have hlen : (xs ++ news).length = (n + m) * i.size := by rw [List.length_append, hown.1, hsrc.newsLen, Nat.add_mul]
  obtain ⟨a, cap, rfl, hfirst⟩ := hown.firstCells (P := P)
  by_cases hroom : n + m ≤ cap
  · rcases hown.2 with ⟨hv, rfl⟩ | ⟨g, off, cap', cur, hv, hbg, hg, hnc, hcm, hcs, htake⟩
    · simp only [Value.slice.injEq] at hv
      obtain ⟨rfl, -, rfl⟩ := hv
      obtain rfl : m = 0 := by omega
      have hn : news = [] := List.eq_nil_of_length_eq_zero (by simpa using hsrc.newsLen)
      have hx : xs = [] := List.eq_nil_of_length_eq_zero (by simpa using hown.1)
      subst hn; subst hx
      refine ⟨.slice none 0 0, w, ?_, by simpa using Seg.nil w base e i.size, World.grownBy.refl _ _, .inl rfl⟩
      rcases hsrc.kind with ⟨e', hk⟩ | hk <;> simp [Builtin.append_, run_underlying ht, run_underlying hk, sizeOf, typeInfo, hi, hsrc.len, hsrc.cells]
    · simp only [Value.slice.injEq] at hv
      obtain ⟨rfl, -, rfl⟩ := hv
      have hfit : off + n * i.size + news.length ≤ cur.size := by
        have h1 : (n + m) * i.size ≤ cap * i.size := Nat.mul_le_mul_right _ hroom
        rw [Nat.add_mul, ← hsrc.newsLen] at h1
        omega
      have hr := run_append_room_off (P := P) t tx ty e i ht hi g off n cap cur hg x m news hsrc hroom hfit
      refine ⟨_, _, hr, ⟨hlen, .inr ⟨g, off, cap, _, rfl, hbg, setRow_heap w g cur _ e _ hg, hroom, hcm, ?_, ?_⟩⟩, ⟨rfl, rfl, rfl, by simp, fun k _ hk => setRow_other w g k _ (fun e => hk (by simp [Value.ownBlock, e]))⟩, .inl (by simp [Value.ownBlock])⟩
      · simp only [List.size_toArray, List.length_append, List.length_take, List.length_drop, Array.length_toList]
        omega
      · have hto : (cur.toList.take (off + n * i.size)).drop off = xs := by
          rw [List.drop_take, show off + n * i.size - off = n * i.size by omega]; exact htake
        have hlo : off ≤ (cur.toList.take (off + n * i.size)).length := by simp; omega
        rw [List.append_assoc, List.drop_append_of_le_length hlo, hto, ← List.append_assoc, ← hlen]
        exact List.take_left
  · have hr := run_append_grow_src (P := P) w t tx ty e i z ht hi hz a n cap xs hfirst x m news hsrc (by omega) (by omega) (growslice_fits (by omega) hbytes)
    have hge := grownCap_ge w (n + m) cap e
    have hcm : grownCap w (n + m) cap e ≤ maxLen := grownCap_le_maxLen w (n + m) cap e h63
    refine ⟨_, _, hr, ⟨hlen, .inr ⟨w.heap.size, 0, _, _, rfl, hbase, heap_alloc_new w.drew _, hge, hcm, ?_, ?_⟩⟩, ⟨rfl, rfl, rfl, by simp, fun k hk _ => Below.heap_alloc w.drew _ k hk⟩, .inr rfl⟩
    · simp only [Array.size_append, List.size_toArray, size_zeroC, hzs, hlen, ← Nat.add_mul]
      rw [show n + m + (grownCap w (n + m) cap e - (n + m)) = grownCap w (n + m) cap e by omega]
      omega
    · simp only [Array.toList_append, List.drop_zero]
      rw [← hlen]
      exact List.take_left

theorem wp_append_seg {o : Oper} {a : Act} {K : Act → World → Prop} {Q : Exit → Act → World → Prop} (s x : Operand) (t tx : TypeId)
    (ho : o.op = .call { callee := .builtin .append, args := #[s, x], argTypes := #[t, tx] })
    (base : Nat) (e : TypeId) (i : TypeInfo) (z : Value) (size bytes : Nat) (ht : P.underlying t = some (.slice e)) (hi : P.info? e = some i) (hz : i.zero = some z)
    (hsize : i.size = size) (hby : i.bytes = bytes) (hzs : z.cells.size = size)
    (v : Value) (n : Nat) (xs : List Value) (hs : a.eval s = v) (hown : Seg w base e size v n xs) (y : Value) (hy : a.eval x = y) (m : Nat) (news : List Value) (hsrc : Src P size tx y m news w)
    (h63 : n + m ≤ maxLen) (hbytes : (n + m) * bytes ≤ 140737488355328) (hbase : base ≤ w.heap.size)
    (h : ∀ v' w', Seg w' base e size v' (n + m) (xs ++ news) → w.grownBy w' v.ownBlock → (v'.ownBlock = v.ownBlock ∨ v'.ownBlock = some w.heap.size) → K (a.put o.dst v') w') : o.wp P a w K Q := by
  obtain ⟨v', w', hr, h2, h3, h4⟩ := run_append_seg (P := P) base t tx o.type e i z size bytes ht hi hz hsize hby hzs v n xs hown y m news hsrc h63 hbytes hbase
  unfold Oper.wp execOp
  simp only [ho, resolve, invoke, builtin, Sem.run_bind, Sem.run_pure, Result.andThen_ok, List.map_toArray, List.map_cons, List.map_nil, hs, hy, hr]
  exact h v' w' h2 h3 h4

theorem wpList_append_seg {ops : Array Oper} {rest : List Oper} {o : Oper} {a : Act} {Q : Exit → Act → World → Prop} (hgd : o.guard = none) (s x : Operand) (t tx : TypeId)
    (ho : o.op = .call { callee := .builtin .append, args := #[s, x], argTypes := #[t, tx] })
    (base : Nat) (e : TypeId) (i : TypeInfo) (z : Value) (size bytes : Nat) (ht : P.underlying t = some (.slice e)) (hi : P.info? e = some i) (hz : i.zero = some z)
    (hsize : i.size = size) (hby : i.bytes = bytes) (hzs : z.cells.size = size)
    (v : Value) (n : Nat) (xs : List Value) (hs : a.eval s = v) (hown : Seg w base e size v n xs) (y : Value) (hy : a.eval x = y) (m : Nat) (news : List Value) (hsrc : Src P size tx y m news w)
    (h63 : n + m ≤ maxLen) (hbytes : (n + m) * bytes ≤ 140737488355328) (hbase : base ≤ w.heap.size)
    (h : ∀ v' w', Seg w' base e size v' (n + m) (xs ++ news) → w.grownBy w' v.ownBlock → (v'.ownBlock = v.ownBlock ∨ v'.ownBlock = some w.heap.size) → wpList P ops Q rest (a.put o.dst v') w') : wpList P ops Q (o :: rest) a w :=
  wpList_plain hgd fun _ hK => wp_append_seg s x t tx ho base e i z size bytes ht hi hz hsize hby hzs v n xs hs hown y hy m news hsrc h63 hbytes hbase fun v' w' h2 h3 h4 => hK _ _ (h v' w' h2 h3 h4)

/-- One new element, laid in a block of its own just before: 'append(s, u)'. -/
theorem wpList_append_one {ops : Array Oper} {rest : List Oper} {o : Oper} {a : Act} {Q : Exit → Act → World → Prop} (hgd : o.guard = none) (s x : Operand) (t : TypeId)
    (ho : o.op = .call { callee := .builtin .append, args := #[s, x], argTypes := #[t, t] })
    (base : Nat) (e : TypeId) {z : Value} {bytes : Nat} (ht : P.underlying t = some (.slice e)) (hinfo : (P.info? e).map (fun i => (i.zero, i.size, i.bytes)) = some (some z, 1, bytes)) (hzs : z.cells.size = 1) (hb : bytes ≤ 64)
    (v : Value) (n : Nat) (xs : List Value) (hs : a.eval s = v) (hown : Seg w base e 1 v n xs) (b c : Nat) (u : Value) (hx : a.eval x = .slice (some ⟨b, 0, none⟩) 1 c) (hc : w.cell? ⟨b, 0, none⟩ = some u) (h1 : u.oneCell' = true)
    (hn : n < 1000000000) (hbase : base ≤ w.heap.size)
    (h : ∀ v' w', Seg w' base e 1 v' (n + 1) (xs ++ [u]) → w.grownBy w' v.ownBlock → (v'.ownBlock = v.ownBlock ∨ v'.ownBlock = some w.heap.size) → wpList P ops Q rest (a.put o.dst v') w') : wpList P ops Q (o :: rest) a w := by
  obtain ⟨i, hi, hz0, hz1, hz2⟩ := info_parts hinfo
  refine wpList_append_seg hgd s x t t ho base e i z 1 bytes ht hi hz0 hz1 hz2 hzs v n xs hs hown _ hx 1 [u] (Src.ofSlice _ ht ⟨b, 0, none⟩ 1 c [u] rfl ?_ (by simpa using h1)) (by unfold maxLen; omega) ?_ hbase h
  · intro j w' hj
    have : j = 0 := by
      rcases j with _ | j
      · rfl
      · simp at hj
    subst this
    simp at hj
    subst hj
    rw [Addr.add_lit]; exact hc
  · calc (n + 1) * bytes ≤ 1000000000 * 64 := Nat.mul_le_mul (by omega) hb
      _ ≤ 140737488355328 := by decide

theorem one_new (w : World) (u : Value) (t : TypeId) : (w.alloc (.cells #[u] t)).cell? ⟨w.heap.size, 0, none⟩ = some u := by simp
end

/-- All cells of an owned slice that is not empty. -/
theorem Seg.at {w : World} {base : Nat} {e : TypeId} {size : Nat} {v : Value} {n : Nat} {xs : List Value} (h : Seg w base e size v n xs) (hn : 0 < n) :
    ∃ g off cap cur, v = .slice (some ⟨g, off, none⟩) n cap ∧ base ≤ g ∧ w.heap[g]? = some (.cells cur e (0, 0)) ∧ n ≤ cap ∧ cap ≤ maxLen ∧ ∀ j, j < n * size → w.cell? ⟨g, off + j, none⟩ = xs[j]? := by
  rcases h.2 with ⟨rfl, rfl⟩ | ⟨g, off, cap, cur, rfl, hb, hg, hnc, hm, hs, ht⟩
  · omega
  · refine ⟨g, off, cap, cur, rfl, hb, hg, hnc, hm, fun j hj => ?_⟩
    rw [cell_of_row w g (off + j) cur e _ hg, ← ht, List.getElem?_take_of_lt hj, List.getElem?_drop, ← Array.getElem?_toList]

/-- A new block that holds one element. -/
theorem Seg.lit (w : World) (base : Nat) (e : TypeId) (size : Nat) (cs : Array Value) (hb : base ≤ w.heap.size) (hs : cs.size = size) : Seg (w.alloc (.cells cs e)) base e size (.slice (some ⟨w.heap.size, 0, none⟩) 1 1) 1 cs.toList :=
  ⟨by simp [hs], .inr ⟨w.heap.size, 0, 1, cs, rfl, hb, heap_alloc_new w _, Nat.le_refl _, by unfold maxLen; omega, by omega, by simp only [List.drop_zero, Nat.one_mul, ← hs]; exact List.take_of_length_le (by simp)⟩⟩

/-- An int array. -/
def IntObj (e : TypeId) : Nat → Obj → Prop := fun _ o => ∃ c fr, o = .cells c e fr

theorem Seg.isNats {w : World} {base : Nat} {e : TypeId} {v : Value} {xs : List Nat} {vs : List Value} (h : Seg w base e 1 v xs.length vs) (hv : vs = xs.map (fun (x : Nat) => Value.int .i64 (x : Int))) : Reads (IntObj e) w v xs.length (fun i => .int .i64 ((xs.getD i 0 : Nat) : Int)) := by
  subst hv
  refine (h.reads _ (fun i hi => ?_)).mono (fun k o hk => ?_)
  · simp [List.getD, List.getElem?_eq_getElem hi]
  · obtain ⟨_, c, rfl⟩ := hk; exact ⟨c, _, rfl⟩
/-- One new element of 'size' cells, laid in a block of its own just before. -/
theorem wpList_append_lit {P : Program} {x : World} {ops : Array Oper} {rest : List Oper} {o : Oper} {a : Act} {Q : Exit → Act → World → Prop} (hgd : o.guard = none) (s y : Operand) (t : TypeId)
    (ho : o.op = .call { callee := .builtin .append, args := #[s, y], argTypes := #[t, t] })
    (base : Nat) (e : TypeId) {z : Value} {size bytes : Nat} (ht : P.underlying t = some (.slice e)) (hinfo : (P.info? e).map (fun i => (i.zero, i.size, i.bytes)) = some (some z, size, bytes)) (hzs : z.cells.size = size) (hb : bytes ≤ 64)
    (v : Value) (n : Nat) (xs : List Value) (hs : a.eval s = v) (hown : Seg x base e size v n xs) (cs : List Value) (e' : TypeId) (c : Nat) (hy : a.eval y = .slice (some ⟨x.heap.size, 0, none⟩) 1 c) (hcs : cs.length = size) (h1 : ∀ u ∈ cs, u.oneCell' = true)
    (hn : n < 1000000000) (hbase : base ≤ x.heap.size)
    (h : ∀ v' w', Seg w' base e size v' (n + 1) (xs ++ cs) → (x.alloc (.cells cs.toArray e')).grownBy w' v.ownBlock → (v'.ownBlock = v.ownBlock ∨ v'.ownBlock = some (x.heap.size + 1)) → wpList P ops Q rest (a.put o.dst v') w') : wpList P ops Q (o :: rest) a (x.alloc (.cells cs.toArray e')) := by
  obtain ⟨i, hi, hz0, hz1, hz2⟩ := info_parts hinfo
  refine wpList_append_seg hgd s y t t ho base e i z size bytes ht hi hz0 hz1 hz2 hzs v n xs hs (hown.alloc _) _ hy 1 cs (Src.ofSlice _ ht ⟨x.heap.size, 0, none⟩ 1 c cs (by omega) ?_ h1) (by unfold maxLen; omega) ?_ (by simp; omega) (by simpa using h)
  · intro j u hj
    rw [Addr.add_lit, Nat.zero_add]
    rw [World.cell?_alloc_new]
    simpa using hj
  · calc (n + 1) * bytes ≤ 1000000000 * 64 := Nat.mul_le_mul (by omega) hb
      _ ≤ 140737488355328 := by decide
end Go.Lin
