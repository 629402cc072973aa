/- A map with elements of kind bool or int that the call itself makes: what it says of each key. Of no program. -/
import Derived.Test.YtmohnddglmolgaaGreatDoorBase
import Derived.Maps.Own
import Derived.Maps.OwnOps
import Derived.Maps.Views
namespace Go.Lin
open Go.RowKit Go.Maps

/-- Block b is a map that says S x at the key enc x; z: an element's zero value; mk: elements. -/
def FMap {α β : Type} (w : World) (P : Program) (kt et : TypeId) (b n : Nat) (enc : α → Value) (mk : β → Lit) (z : β) (S : α → β) : Prop :=
  ∃ D : DataW Unit, w.ownsMap P kt (plainElem P et) b n D ∧ IsMap D ∧ ∀ x l, keyOf P kt (enc x) = some l → D.atKey l (.lit (mk z)) = .lit (mk (S x))

section
variable {α β : Type} {w : World} {P : Program} {kt et : TypeId} {b n : Nat} {enc : α → Value} {mk : β → Lit} {z : β} {S : α → β}

theorem FMap.made (w : World) (P : Program) (kt et : TypeId) (enc : α → Value) (mk : β → Lit) (z : β) : FMap (w.alloc (.map #[] 0)) P kt et w.heap.size 0 enc mk z (fun _ => z) :=
  ⟨.map [], World.ownsMap_made w P kt _, isMap_empty, fun _ _ _ => rfl⟩

theorem FMap.lt (h : FMap w P kt et b n enc mk z S) : b < w.heap.size := by
  obtain ⟨D, h1, _⟩ := h
  exact h1.lt

theorem FMap.mono (h : FMap w P kt et b n enc mk z S) {m : Nat} (hm : n ≤ m) : FMap w P kt et b m enc mk z S := by
  obtain ⟨D, h1, h2⟩ := h
  exact ⟨D, h1.mono hm, h2⟩

theorem FMap.obj (h : FMap w P kt et b n enc mk z S) : ∃ es c, w.heap[b]? = some (.map es c) := by
  obtain ⟨D, ⟨es, c, h1, _⟩, _⟩ := h
  exact ⟨es, c, h1⟩

theorem FMap.keeps {may : Nat → Obj → Prop} {w' : World} (h : FMap w P kt et b n enc mk z S) (hk : Keeps may w w') (hm : ∀ es c, ¬ may b (.map es c)) : FMap w' P kt et b n enc mk z S := by
  obtain ⟨D, ⟨es, c, h1, h2⟩, h3⟩ := h
  exact ⟨D, ⟨es, c, hk.obj b _ h1 (hm es c), h2⟩, h3⟩

theorem FMap.grew {w' : World} (h : FMap w P kt et b n enc mk z S) (hk : Grew w w') : FMap w' P kt et b n enc mk z S := by
  obtain ⟨D, ⟨es, c, h1, h2⟩, h3⟩ := h
  exact ⟨D, ⟨es, c, (hk.block b (lt_of_obj h1)).trans h1, h2⟩, h3⟩

theorem FMap.congr {S' : α → β} (h : FMap w P kt et b n enc mk z S) (hS : ∀ x, S x = S' x) : FMap w P kt et b n enc mk z S' := by
  obtain ⟨D, h1, h2, h3⟩ := h
  exact ⟨D, h1, h2, fun x l hl => by rw [h3 x l hl, hS]⟩

theorem FMap.update (h : FMap w P kt et b n enc mk z S) (K : Keyed P kt) {t : TypeId} (ht : P.underlying t = some (.map kt et)) (hn : n < maxLen) {x : α} {kl : Lit} (hkey : keyOf P kt (enc x) = some kl)
    (hinj : ∀ y, enc y = enc x → y = x) {val : Value} {e : β} (hv : plainElem (H := Unit) P et val = some (.lit (mk e), [])) {S' : α → β} (h1 : S' x = e) (h2 : ∀ y, y ≠ x → S' y = S y) :
    ∃ w', (Instr.mapUpdate t (.map (some b)) (enc x) val).run P w = .ok () w' ∧ FMap w' P kt et b (n + 1) enc mk z S' ∧ w.grownBy w' (some b) := by
  obtain ⟨D, hown, hD, hS⟩ := h
  obtain ⟨w', hrun, r1, r2⟩ := hown.update K ht hn hkey hv
  refine ⟨w', hrun, ⟨_, r1, hD.put kl _, fun y l hl => ?_⟩, r2⟩
  by_cases hy : l = kl
  · subst hy
    have hyx : y = x := hinj y (K.inj hl hkey)
    subst hyx
    rw [atKey_put_same hD (K.key hkey), h1]
  · rw [atKey_put_other hy, hS y l hl, h2 y]
    rintro rfl
    rw [hl] at hkey
    exact hy (Option.some.inj hkey)

theorem FMap.lookup_bool {S : α → Bool} (h : FMap w P kt et b n enc .bool false S) (K : Keyed P kt) {t : TypeId} (ht : P.underlying t = some (.map kt et)) (he : P.underlying et = some .bool) (hz : (zeroValue et).run P w = .ok (.bool false) w)
    {x : α} {kl : Lit} (hkey : keyOf P kt (enc x) = some kl) : (Instr.lookup t (.map (some b)) (enc x) false).run P w = .ok (.bool (S x)) w := by
  obtain ⟨D, hown, hD, hS⟩ := h
  obtain ⟨v, ps, hrun, hv⟩ := hown.lookup K ht hz (plainElem_bool he false) hkey
  rw [hS x kl hkey] at hv
  unfold plainElem at hv
  rw [he] at hv
  cases v <;> simp at hv
  rw [hrun, hv.1]

end

/-- 'm[k]' at elements of kind bool, at the operation. -/
theorem wpList_lookup_bool {α : Type} {P : Program} {w : World} {ops : Array Oper} {rest : List Oper} {o : Oper} {a : Act} {Q : Exit → Act → World → Prop}
    (hg : o.guard = none) (m x : Operand) (t : TypeId) (hop : o.op = Op.lookup t m x false) {kt et : TypeId} (K : Keyed P kt) (ht : P.underlying t = some (.map kt et)) (he : P.underlying et = some .bool) (hz : (zeroValue et).run P w = .ok (.bool false) w)
    {b n : Nat} {enc : α → Value} {S : α → Bool} (hm : a.eval m = .map (some b)) (hown : FMap w P kt et b n enc .bool false S) (y : α) (hx : a.eval x = enc y) {kl : Lit} (hkey : keyOf P kt (enc y) = some kl)
    (hK : wpList P ops Q rest (a.put o.dst (.bool (S y))) w) : wpList P ops Q (o :: rest) a w := by
  refine wpList_plain hg fun K' hK' => ?_
  have hrun := hown.lookup_bool K ht he hz hkey
  unfold Oper.wp
  simp [execOp, hop, hm, hx, hrun, Result.andThen]
  exact hK' _ _ hK

/-- 'm[k] = v', at the operation. -/
theorem wpList_update_f {α β : Type} {P : Program} {w : World} {ops : Array Oper} {rest : List Oper} {o : Oper} {a : Act} {Q : Exit → Act → World → Prop}
    (hg : o.guard = none) (m x v : Operand) (t : TypeId) (hop : o.op = Op.mapUpdate t m x v ∨ o.op = Op.insert t m x v) {kt et : TypeId} (K : Keyed P kt) (ht : P.underlying t = some (.map kt et))
    {b n : Nat} {enc : α → Value} {mk : β → Lit} {z : β} {S : α → β} (hm : a.eval m = .map (some b)) (hown : FMap w P kt et b n enc mk z S) (hn : n < maxLen) (y : α) (hx : a.eval x = enc y) {kl : Lit} (hkey : keyOf P kt (enc y) = some kl)
    (hinj : ∀ u, enc u = enc y → u = y) (val : Value) (hv : a.eval v = val) {e : β} (hval : plainElem (H := Unit) P et val = some (.lit (mk e), [])) (S' : α → β) (h1 : S' y = e) (h2 : ∀ u, u ≠ y → S' u = S u)
    (hK : ∀ w', FMap w' P kt et b (n + 1) enc mk z S' → w.grownBy w' (some b) → wpList P ops Q rest (a.put o.dst undef) w') : wpList P ops Q (o :: rest) a w := by
  refine wpList_plain hg fun K' hK' => ?_
  obtain ⟨w', hrun, r1, r2⟩ := hown.update K ht hn hkey hinj hval h1 h2
  unfold Oper.wp
  rcases hop with hop | hop <;> simp [execOp, hop, hm, hx, hv, hrun, Result.andThen] <;> exact hK' _ _ (hK w' r1 r2)
end Go.Lin
