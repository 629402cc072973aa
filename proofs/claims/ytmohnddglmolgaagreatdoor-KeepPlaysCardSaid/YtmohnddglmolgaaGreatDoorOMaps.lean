/- A map to int that the call itself makes, and which of its keys are there. Of no program. -/
import Derived.Test.YtmohnddglmolgaaGreatDoorMaps
import Derived.Maps.OwnSet
import Derived.Maps.OwnIn
namespace Go.Lin
open Go Go.RowKit Go.Maps

/-- Block b is a map that says v at the key x if 'S x' is 'some v', and has no such key if it is 'none'. -/
def OMap {α : Type} (w : World) (P : Program) (kt et : TypeId) (b n : Nat) (enc : α → Value) (S : α → Option Nat) : Prop :=
  ∃ D : DataW Unit, w.ownsMap P kt (plainElem P et) b n D ∧ IsMap D ∧ ∀ x l, keyOf P kt (enc x) = some l → (S x = none → has D l = false) ∧ ∀ v, S x = some v → ∀ z, D.atKey l z = .lit (.int .i64 (v : Int))

section
variable {α : Type} {w : World} {P : Program} {kt et : TypeId} {b n : Nat} {enc : α → Value} {S : α → Option Nat}

theorem OMap.made (w : World) (P : Program) (kt et : TypeId) (enc : α → Value) : OMap (w.alloc (.map #[] 0)) P kt et w.heap.size 0 enc (fun _ => none) :=
  ⟨.map [], World.ownsMap_made w P kt _, isMap_empty, fun _ _ _ => ⟨fun _ => rfl, fun _ h => by cases h⟩⟩

theorem OMap.obj (h : OMap w P kt et b n enc S) : ∃ es c, w.heap[b]? = some (.map es c) := by
  obtain ⟨D, ⟨es, c, h1, _⟩, _⟩ := h
  exact ⟨es, c, h1⟩

theorem OMap.lt (h : OMap w P kt et b n enc S) : b < w.heap.size := by
  obtain ⟨D, h1, _⟩ := h
  exact h1.lt

theorem OMap.mono (h : OMap w P kt et b n enc S) {m : Nat} (hm : n ≤ m) : OMap w P kt et b m enc S := by
  obtain ⟨D, h1, h2⟩ := h
  exact ⟨D, h1.mono hm, h2⟩

theorem OMap.keeps {may : Nat → Obj → Prop} {w' : World} (h : OMap w P kt et b n enc S) (hk : Keeps may w w') (hm : ∀ es c, ¬ may b (.map es c)) : OMap w' P kt et b n enc S := by
  obtain ⟨D, ⟨es, c, h1, h2⟩, h3⟩ := h
  exact ⟨D, ⟨es, c, hk.obj b _ h1 (hm es c), h2⟩, h3⟩

theorem OMap.grew {w' : World} (h : OMap w P kt et b n enc S) (hk : Grew w w') : OMap w' P kt et b n enc S := by
  obtain ⟨D, ⟨es, c, h1, h2⟩, h3⟩ := h
  exact ⟨D, ⟨es, c, (hk.block b (lt_of_obj h1)).trans h1, h2⟩, h3⟩

theorem OMap.congr {S' : α → Option Nat} (h : OMap w P kt et b n enc S) (hS : ∀ x, S x = S' x) : OMap w P kt et b n enc S' := by
  obtain ⟨D, h1, h2, h3⟩ := h
  exact ⟨D, h1, h2, fun x l hl => by rw [← hS]; exact h3 x l hl⟩

theorem OMap.update (h : OMap w P kt et b n enc S) (K : Keyed P kt) {t : TypeId} (ht : P.underlying t = some (.map kt et)) (he : P.underlying et = some (.int .i64)) (hn : n < maxLen) {x : α} {kl : Lit} (hkey : keyOf P kt (enc x) = some kl)
    (hinj : ∀ y, enc y = enc x → y = x) {e : Nat} (hlt : e < 1000000000) {S' : α → Option Nat} (h1 : S' x = some e) (h2 : ∀ y, y ≠ x → S' y = S y) :
    ∃ w', (Instr.mapUpdate t (.map (some b)) (enc x) (.int .i64 (e : Int))).run P w = .ok () w' ∧ OMap w' P kt et b (n + 1) enc S' ∧ w.grownBy w' (some b) := by
  obtain ⟨D, hown, hD, hS⟩ := h
  have hv : plainElem (H := Unit) P et (.int .i64 (e : Int)) = some (.lit (.int .i64 (e : Int)), []) := plainElem_int he (WalkArith.wf_i64 (by omega))
  obtain ⟨w', hrun, r1, r2⟩ := hown.update K ht hn hkey hv
  refine ⟨w', hrun, ⟨_, r1, hD.put kl _, fun y l hl => ?_⟩, r2⟩
  by_cases hy : l = kl
  · subst hy
    have hyx : y = x := hinj y (K.inj hl hkey)
    subst hyx
    refine ⟨fun h => by rw [h1] at h; (cases h), fun v hv z => ?_⟩
    rw [h1] at hv
    cases hv
    rw [atKey_put_same hD (K.key hkey)]
  · have hyx : y ≠ x := by
      rintro rfl
      rw [hl] at hkey
      exact hy (Option.some.inj hkey)
    rw [h2 y hyx]
    refine ⟨fun h => ?_, fun v hv z => ?_⟩
    · rw [has_put_other hy]; exact (hS y l hl).1 h
    · rw [atKey_put_other hy]; exact (hS y l hl).2 v hv z

theorem OMap.look_ok (h : OMap w P kt et b n enc S) (K : Keyed P kt) {t : TypeId} (ht : P.underlying t = some (.map kt et)) (he : P.underlying et = some (.int .i64)) (hz : (zeroValue et).run P w = .ok (.int .i64 0) w)
    {x : α} {kl : Lit} (hkey : keyOf P kt (enc x) = some kl) : (Instr.lookup t (.map (some b)) (enc x) true).run P w = .ok (.tuple #[.int .i64 (((S x).getD 0 : Nat) : Int), .bool (S x).isSome]) w := by
  obtain ⟨D, hown, hD, hS⟩ := h
  obtain ⟨v, ps, hrun, hv⟩ := hown.look_ok K ht hz (plainElem_int he (by decide)) hkey
  obtain ⟨h1, h2⟩ := hS x kl hkey
  obtain ⟨c, rfl, hc, _⟩ := plainElem_int_inv he hv
  replace hc := congrArg Prod.fst hc
  simp only [] at hc
  rw [hrun]
  cases hs : S x with
  | none =>
    have h3 := h1 hs
    rw [atKey_of_not_has h3] at hc
    cases hc
    rw [h3]; rfl
  | some e =>
    have h3 := h2 e hs
    rw [h3] at hc
    cases hc
    rw [has_true_of_atKey h3]; rfl

theorem OMap.look (h : OMap w P kt et b n enc S) (K : Keyed P kt) {t : TypeId} (ht : P.underlying t = some (.map kt et)) (he : P.underlying et = some (.int .i64)) (hz : (zeroValue et).run P w = .ok (.int .i64 0) w)
    {x : α} {kl : Lit} (hkey : keyOf P kt (enc x) = some kl) : (Instr.lookup t (.map (some b)) (enc x) false).run P w = .ok (.int .i64 (((S x).getD 0 : Nat) : Int)) w := by
  obtain ⟨D, hown, hD, hS⟩ := h
  obtain ⟨c, hrun, hc, _⟩ := hown.lookup_int K ht he hz hkey
  obtain ⟨h1, h2⟩ := hS x kl hkey
  rw [hrun]
  cases hs : S x with
  | none =>
    have h3 := h1 hs
    rw [atKey_of_not_has h3] at hc
    cases hc; rfl
  | some e =>
    have h3 := h2 e hs
    rw [h3] at hc
    cases hc; rfl
end
end Go.Lin
