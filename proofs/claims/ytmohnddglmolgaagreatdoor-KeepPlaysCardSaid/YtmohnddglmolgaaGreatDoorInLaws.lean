/- Laws of append and of maps at an operation inside a fence. Of no program. -/
import Derived.Test.YtmohnddglmolgaaGreatDoorAppend
import Derived.Test.YtmohnddglmolgaaGreatDoorMaps
import Derived.OwnWalkIn
namespace Go.Lin
open Go Go.RowKit Go.Maps

section
variable {P : Program} {w : World} {F : Fence} {nF : Nat}

theorem wpListIn_append_seg {ops : Array Oper} {rest : List Oper} {o : Oper} {a : Act} {Q : Exit → Act → World → Prop} (hgd : o.guard = none) (s x : Operand) (t tx : TypeId)
    (ho : o.op = .call { callee := .builtin .append, args := #[s, x], argTypes := #[t, tx] })
    (base : Nat) (e : TypeId) (i : TypeInfo) (z : Value) (size bytes : Nat) (ht : P.underlying t = some (.slice e)) (hi : P.info? e = some i) (hz : i.zero = some z)
    (hsize : i.size = size) (hby : i.bytes = bytes) (hzs : z.cells.size = size)
    (v : Value) (n : Nat) (xs : List Value) (hs : a.eval s = v) (hown : Seg w base e size v n xs) (y : Value) (hy : a.eval x = y) (m : Nat) (news : List Value) (hsrc : Src P size tx y m news w)
    (h63 : n + m ≤ maxLen) (hbytes : (n + m) * bytes ≤ 140737488355328) (hbase : base ≤ w.heap.size)
    (h : ∀ v' w', Seg w' base e size v' (n + m) (xs ++ news) → w.grownBy w' v.ownBlock → (v'.ownBlock = v.ownBlock ∨ v'.ownBlock = some w.heap.size) → wpListIn F nF P ops Q rest (a.put o.dst v') w') : wpListIn F nF P ops Q (o :: rest) a w := by
  refine wpListIn_plain hgd fun K hK => ?_
  obtain ⟨v', w', hr, h2, h3, h4⟩ := run_append_seg (P := P) base t tx o.type e i z size bytes ht hi hz hsize hby hzs v n xs hown y m news hsrc h63 hbytes hbase
  unfold Oper.wpIn
  refine ⟨by simp [Oper.about, ho, resolve, Target.leads, Sem.run_pure], ?_⟩
  rw [Oper.semAt_plain F _ _ (by rw [ho]; intro c hc'; cases hc')]
  simp [execOp, ho, resolve, invoke, builtin, hs, hy, hr, Result.andThen]
  exact hK _ _ (h v' w' h2 h3 h4)

theorem wpListIn_append_one {ops : Array Oper} {rest : List Oper} {o : Oper} {a : Act} {Q : Exit → Act → World → Prop} (hgd : o.guard = none) (s x : Operand) (t : TypeId)
    (ho : o.op = .call { callee := .builtin .append, args := #[s, x], argTypes := #[t, t] })
    (base : Nat) (e : TypeId) {z : Value} {bytes : Nat} (ht : P.underlying t = some (.slice e)) (hinfo : (P.info? e).map (fun i => (i.zero, i.size, i.bytes)) = some (some z, 1, bytes)) (hzs : z.cells.size = 1) (hb : bytes ≤ 64)
    (v : Value) (n : Nat) (xs : List Value) (hs : a.eval s = v) (hown : Seg w base e 1 v n xs) (b c : Nat) (u : Value) (hx : a.eval x = .slice (some ⟨b, 0, none⟩) 1 c) (hc : w.cell? ⟨b, 0, none⟩ = some u) (h1 : u.oneCell' = true)
    (hn : n < 1000000000) (hbase : base ≤ w.heap.size)
    (h : ∀ v' w', Seg w' base e 1 v' (n + 1) (xs ++ [u]) → w.grownBy w' v.ownBlock → (v'.ownBlock = v.ownBlock ∨ v'.ownBlock = some w.heap.size) → wpListIn F nF P ops Q rest (a.put o.dst v') w') : wpListIn F nF P ops Q (o :: rest) a w := by
  obtain ⟨i, hi, hz0, hz1, hz2⟩ := info_parts hinfo
  refine wpListIn_append_seg hgd s x t t ho base e i z 1 bytes ht hi hz0 hz1 hz2 hzs v n xs hs hown _ hx 1 [u] (Src.ofSlice _ ht ⟨b, 0, none⟩ 1 c [u] rfl ?_ (by simpa using h1)) (by unfold maxLen; omega) ?_ hbase h
  · intro j w' hj
    have : j = 0 := by
      rcases j with _ | j
      · rfl
      · simp at hj
    subst this
    simp at hj
    subst hj
    rw [Addr.add_lit]; exact hc
  · calc (n + 1) * bytes ≤ 1000000000 * 64 := Nat.mul_le_mul (by omega) hb
      _ ≤ 140737488355328 := by decide

theorem wpListIn_lookup_bool {α : Type} {ops : Array Oper} {rest : List Oper} {o : Oper} {a : Act} {Q : Exit → Act → World → Prop}
    (hg : o.guard = none) (m x : Operand) (t : TypeId) (hop : o.op = Op.lookup t m x false) {kt et : TypeId} (K : Keyed P kt) (ht : P.underlying t = some (.map kt et)) (he : P.underlying et = some .bool) (hz : (zeroValue et).run P w = .ok (.bool false) w)
    {b n : Nat} {enc : α → Value} {S : α → Bool} (hm : a.eval m = .map (some b)) (hown : FMap w P kt et b n enc .bool false S) (y : α) (hx : a.eval x = enc y) {kl : Lit} (hkey : keyOf P kt (enc y) = some kl)
    (hK : wpListIn F nF P ops Q rest (a.put o.dst (.bool (S y))) w) : wpListIn F nF P ops Q (o :: rest) a w := by
  refine wpListIn_plain hg fun K' hK' => ?_
  have hrun := hown.lookup_bool K ht he hz hkey
  unfold Oper.wpIn
  refine ⟨by simp [Oper.about, hop], ?_⟩
  rw [Oper.semAt_plain F _ _ (by rw [hop]; intro c hc'; cases hc')]
  simp [execOp, hop, hm, hx, hrun, Result.andThen]
  exact hK' _ _ hK

theorem wpListIn_update_f {α β : Type} {ops : Array Oper} {rest : List Oper} {o : Oper} {a : Act} {Q : Exit → Act → World → Prop}
    (hg : o.guard = none) (m x v : Operand) (t : TypeId) (hop : o.op = Op.mapUpdate t m x v ∨ o.op = Op.insert t m x v) {kt et : TypeId} (K : Keyed P kt) (ht : P.underlying t = some (.map kt et))
    {b n : Nat} {enc : α → Value} {mk : β → Lit} {z : β} {S : α → β} (hm : a.eval m = .map (some b)) (hown : FMap w P kt et b n enc mk z S) (hn : n < maxLen) (y : α) (hx : a.eval x = enc y) {kl : Lit} (hkey : keyOf P kt (enc y) = some kl)
    (hinj : ∀ u, enc u = enc y → u = y) (val : Value) (hv : a.eval v = val) {e : β} (hval : plainElem (H := Unit) P et val = some (.lit (mk e), [])) (S' : α → β) (h1 : S' y = e) (h2 : ∀ u, u ≠ y → S' u = S u)
    (hK : ∀ w', FMap w' P kt et b (n + 1) enc mk z S' → w.grownBy w' (some b) → wpListIn F nF P ops Q rest (a.put o.dst undef) w') : wpListIn F nF P ops Q (o :: rest) a w := by
  refine wpListIn_plain hg fun K' hK' => ?_
  obtain ⟨w', hrun, r1, r2⟩ := hown.update K ht hn hkey hinj hval h1 h2
  unfold Oper.wpIn
  rcases hop with hop | hop
  · refine ⟨by simp [Oper.about, hop], ?_⟩
    rw [Oper.semAt_plain F _ _ (by rw [hop]; intro c hc'; cases hc')]
    simp [execOp, hop, hm, hx, hv, hrun, Result.andThen]
    exact hK' _ _ (hK w' r1 r2)
  · refine ⟨by simp [Oper.about, hop], ?_⟩
    rw [Oper.semAt_plain F _ _ (by rw [hop]; intro c hc'; cases hc')]
    simp [execOp, hop, hm, hx, hv, hrun, Result.andThen]
    exact hK' _ _ (hK w' r1 r2)

theorem wpListIn_append_lit {ops : Array Oper} {rest : List Oper} {o : Oper} {a : Act} {Q : Exit → Act → World → Prop} {x : World} (hgd : o.guard = none) (s y : Operand) (t : TypeId)
    (ho : o.op = .call { callee := .builtin .append, args := #[s, y], argTypes := #[t, t] })
    (base : Nat) (e : TypeId) {z : Value} {size bytes : Nat} (ht : P.underlying t = some (.slice e)) (hinfo : (P.info? e).map (fun i => (i.zero, i.size, i.bytes)) = some (some z, size, bytes)) (hzs : z.cells.size = size) (hb : bytes ≤ 64)
    (v : Value) (n : Nat) (xs : List Value) (hs : a.eval s = v) (hown : Seg x base e size v n xs) (cs : List Value) (e' : TypeId) (c : Nat) (hy : a.eval y = .slice (some ⟨x.heap.size, 0, none⟩) 1 c) (hcs : cs.length = size) (h1 : ∀ u ∈ cs, u.oneCell' = true)
    (hn : n < 1000000000) (hbase : base ≤ x.heap.size)
    (h : ∀ v' w', Seg w' base e size v' (n + 1) (xs ++ cs) → (x.alloc (.cells cs.toArray e')).grownBy w' v.ownBlock → (v'.ownBlock = v.ownBlock ∨ v'.ownBlock = some (x.heap.size + 1)) → wpListIn F nF P ops Q rest (a.put o.dst v') w') : wpListIn F nF P ops Q (o :: rest) a (x.alloc (.cells cs.toArray e')) := by
  obtain ⟨i, hi, hz0, hz1, hz2⟩ := info_parts hinfo
  refine wpListIn_append_seg hgd s y t t ho base e i z size bytes ht hi hz0 hz1 hz2 hzs v n xs hs (hown.alloc _) _ hy 1 cs (Src.ofSlice _ ht ⟨x.heap.size, 0, none⟩ 1 c cs (by omega) ?_ h1) (by unfold maxLen; omega) ?_ (by simp; omega) (by simpa using h)
  · intro j u hj
    rw [Addr.add_lit, Nat.zero_add]
    rw [World.cell?_alloc_new]
    simpa using hj
  · calc (n + 1) * bytes ≤ 1000000000 * 64 := Nat.mul_le_mul (by omega) hb
      _ ≤ 140737488355328 := by decide
end
end Go.Lin
