/- Words as keys of a map; what the known sizes say. Walk: size. -/
import Derived.Test.YtddnpooffcjhnaaWvKeyOf
import Derived.Test.YtddnpooffcjhnaaOMaps
import Derived.Test.YtddnpooffcjhnaaRoundHeld
namespace Go.Proofs.Ytddnpooffcjhnaa
open Go Go.RowKit Go.Lin Go.Lin.Wv Go.Maps
attribute [local go_sem] Oper.semAt_some

theorem keyed98 : Keyed Try.prog 98 := Keyed.of_law (deep_law_laid Try.laidOut (m := 3) (by decide) (of_decide_eq_true (by kernel_rfl)) (by kernel_rfl) (by kernel_rfl))
theorem zero3 (w : World) : (zeroValue 3).run Try.prog w = .ok (.int .i64 0) w := by kernel_rfl

theorem key98 (xs : List Int) (hlen : xs.length ≤ 10) (hw : ∀ z ∈ xs, 0 ≤ z ∧ z < 6) : ∃ l, keyOf Try.prog 98 (keyV xs) = some l := by
  obtain ⟨a0, a1, a2, a3, a4, a5, a6, a7, a8, a9, hl, ha⟩ := keyCells_ints hlen
  have u98 := Try.underlying98
  have u3 := Try.underlying3
  have c98 : Try.prog.cellsOf 98 = 10 := by kernel_rfl
  have c3 : Try.prog.cellsOf 3 = 1 := by kernel_rfl
  have kt : Try.prog.keyType 98 = true := by kernel_rfl
  have hsz : ∃ m, Try.prog.types.size + 1 = m + 2 := ⟨Try.prog.types.size - 1, by have : 1 ≤ Try.prog.types.size := of_decide_eq_true (by kernel_rfl); omega⟩
  obtain ⟨m, hm⟩ := hsz
  have wf : ∀ a ∈ [a0, a1, a2, a3, a4, a5, a6, a7, a8, a9], (Lit.int .i64 a).wf = true := fun a h => WalkArith.wf_i64 (by
    rcases ha a h with rfl | ⟨z, hz, rfl⟩
    · omega
    · have := hw z hz; omega)
  have e1 : ∀ a ∈ [a0, a1, a2, a3, a4, a5, a6, a7, a8, a9], Try.prog.keyLits (m + 1) 3 [.int .i64 a] = some [.int .i64 a] := fun a h => by
    unfold Program.keyLits; rw [u3]; simp only [wf a h, and_self, if_true]
  have e3 : ∃ ls, Try.prog.keyLits (m + 2) 98 [.int .i64 a0, .int .i64 a1, .int .i64 a2, .int .i64 a3, .int .i64 a4, .int .i64 a5, .int .i64 a6, .int .i64 a7, .int .i64 a8, .int .i64 a9] = some ls := by
    refine ⟨[.int .i64 a0, .int .i64 a1, .int .i64 a2, .int .i64 a3, .int .i64 a4, .int .i64 a5, .int .i64 a6, .int .i64 a7, .int .i64 a8, .int .i64 a9], ?_⟩
    unfold Program.keyLits; rw [u98]
    simp only [c98, c3, List.length_cons, List.length_nil, if_true]
    rw [show List.range 10 = [0, 1, 2, 3, 4, 5, 6, 7, 8, 9] from rfl]
    simp only [List.mapM_cons, List.mapM_nil, Nat.mul_one, List.drop_zero, List.drop_succ_cons, List.take_succ_cons, List.take_zero]
    rw [e1 a0 (by simp), e1 a1 (by simp), e1 a2 (by simp), e1 a3 (by simp), e1 a4 (by simp), e1 a5 (by simp), e1 a6 (by simp), e1 a7 (by simp), e1 a8 (by simp), e1 a9 (by simp)]
    rfl
  obtain ⟨ls, e3⟩ := e3
  have hf : (keyV xs).formed Try.prog 98 = true := by
    unfold keyV Value.formed; rw [u98, hl]; simp only [c98]; rfl
  refine ⟨.string (keyBytes ls), ?_⟩
  unfold keyOf
  rw [u98]
  simp only [kt, hf, Bool.and_self, if_true, hm]
  unfold keyV
  rw [hl]
  simp only [Value.cells]
  rw [e3]
  rfl

/-- What is known is right. -/
def Known (D : Int → Int → Bool) (N : Nat) (S : Value → Option Nat) : Prop := ∀ k v, S k = some v → ∃ ys : List Int, k = keyV ys ∧ ys.length ≤ 10 ∧ (∀ z ∈ ys, 0 ≤ z ∧ z < (N : Int)) ∧ v = sizeM D N ys

theorem Known.at' {D : Int → Int → Bool} {N : Nat} {S : Value → Option Nat} (h : Known D N S) {xs : List Int} (hw : ∀ z ∈ xs, 0 ≤ z ∧ z < (N : Int)) {v : Nat} (hS : S (keyV xs) = some v) : v = sizeM D N xs := by
  obtain ⟨ys, h1, h2, h3, h4⟩ := h _ _ hS
  unfold keyV at h1
  simp only [Value.agg.injEq] at h1
  have h5 : keyCells xs = keyCells ys := by have := congrArg Array.toList h1; simpa using this
  rw [h4, ← keyCells_inj (fun z hz => (hw z hz).1) (fun z hz => (h3 z hz).1) h5]

/-- One key more. -/
noncomputable def putS (S : Value → Option Nat) (k0 : Value) (v : Nat) : Value → Option Nat := fun k => @ite _ (k = k0) (Classical.propDecidable _) (some v) (S k)

theorem putS_same (S : Value → Option Nat) (k0 : Value) (v : Nat) : putS S k0 v k0 = some v := by unfold putS; rw [if_pos rfl]
theorem putS_other (S : Value → Option Nat) (k0 : Value) (v : Nat) {k : Value} (h : k ≠ k0) : putS S k0 v k = S k := by unfold putS; rw [if_neg h]

theorem Known.put {D : Int → Int → Bool} {N : Nat} {S : Value → Option Nat} (h : Known D N S) {xs : List Int} (hl : xs.length ≤ 10) (hw : ∀ z ∈ xs, 0 ≤ z ∧ z < (N : Int)) : Known D N (putS S (keyV xs) (sizeM D N xs)) := by
  intro k v hk
  by_cases e : k = keyV xs
  · subst e
    rw [putS_same] at hk
    cases hk
    exact ⟨xs, rfl, hl, hw, rfl⟩
  · rw [putS_other _ _ _ e] at hk
    exact h k v hk

end Go.Proofs.Ytddnpooffcjhnaa
