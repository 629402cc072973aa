/- A region with a gate: a move is taken first, wherever it stands. Of no program. -/
import Derived.Test.YtojkohpniokaaaaRoundHeld
namespace Go.Lin
open Go Go.RowKit

section
variable {F : Fence} {n : Nat} {P : Program} {ops : Array Oper} {Q : Exit → Act → World → Prop} {S : World → Prop} {g : Nat}

theorem wpAnyG_firstM {i : Nat} {oi : Oper} {v : Value} (hpl : plainOps ops = true) (hi : ops[i]? = some oi) (hsel : ∀ (j : Nat) (o : Oper) cs b, ops[j]? = some o → o.op ≠ .select cs b)
    (hQ : ∀ c a w, Q (.panic c) (a.put oi.dst v) w → Q (.panic c) a w) (hgi : i ≠ g) :
    ∀ (fuel : Nat) (listed : Array Bool) (a : Act) (w : World),
      (∀ j oj, ops[j]? = some oj → j ≠ i → listed.getD j true = false → (∀ e ∈ oj.after, Region.binds .any e = true → e.on ≠ i) → oi.apart ops oj = true) →
      i ∈ Region.ready .any ops listed → YieldsS P ops (fun _ => True) oi v a → ((listed.setIfInBounds i true).getD g true = false → S w) →
      wpAnyG F n P ops Q S g fuel (listed.setIfInBounds i true) (a.put oi.dst v) w → wpAnyG F n P ops Q S g (fuel + 1) listed a w := by
  intro fuel
  induction fuel with
  | zero =>
    intro listed a w _ hr hy hS H
    refine ⟨fun h => (by rw [h] at hr; cases hr), fun j hj => ?_⟩
    by_cases hji : j = i
    · subst hji; exact hy.wpOpIn hpl hi trivial ⟨hS, H⟩
    · have := ready_mono hj hji
      rw [H.1] at this
      cases this
  | succ fuel ih =>
    intro listed a w hfree hr hy hS H
    refine ⟨fun h => (by rw [h] at hr; cases hr), fun j hj => ?_⟩
    by_cases hji : j = i
    · subst hji; exact hy.wpOpIn hpl hi trivial ⟨hS, H⟩
    · have h1 := H.2 j (ready_mono hj hji)
      obtain ⟨hjun, oj, hoj, hall⟩ := mem_ready.1 hj
      have hiun := (mem_ready.1 hr).1
      have hnot : ∀ e ∈ oj.after, Region.binds .any e = true → e.on ≠ i := fun e he hb heq => by
        have h1 := hall e he hb
        rw [heq] at h1
        rw [getD_any h1] at hiun
        cases hiun
      have h2 := wpOpIn_putS hpl hoj (hfree j oj hoj hji hjun hnot) (fun cs b => hsel i oi cs b hi) (fun cs b => hsel j oj cs b hoj) hQ hy h1
      have hfree' : ∀ k ok, ops[k]? = some ok → k ≠ i → (listed.setIfInBounds j true).getD k true = false →
          (∀ e ∈ ok.after, Region.binds .any e = true → e.on ≠ i) → oi.apart ops ok = true := fun k ok hk hki hun hno => by
        refine hfree k ok hk hki ?_ hno
        by_cases hjk : j = k
        · subst hjk; exact hjun
        · rw [getD_set_ne true hjk] at hun; exact hun
      have hsame : ((listed.setIfInBounds i true).setIfInBounds j true).getD g true = (listed.setIfInBounds j true).getD g true := by
        rw [Array.setIfInBounds_comm _ _ (Ne.symm hji), getD_set_ne true hgi]
      have hsame2 : ((listed.setIfInBounds j true).setIfInBounds i true).getD g true = (listed.setIfInBounds j true).getD g true := getD_set_ne true hgi
      refine wpOpIn_mono (fun a' w' h3 => ⟨fun hg => h3.2.1 (by rw [hsame]; exact hg), ih (listed.setIfInBounds j true) a' w' hfree' (ready_mono hr (Ne.symm hji)) h3.1 (fun hg => h3.2.1 (by rw [hsame, ← hsame2]; exact hg)) ?_⟩) h2
      rw [Array.setIfInBounds_comm _ _ hji]
      exact h3.2.2

/-- Take number i, a move, first. -/
theorem wpAnyG_move {l : List Oper} {i : Nat} {oi : Oper} {v : Value} {fuel : Nat} {listed : Array Bool} {a : Act} {w : World} (hi : l[i]? = some oi)
    (hs : Region.noSelect l.toArray = true) (hpl : plainOps l.toArray = true) (hf : Region.free .any l.toArray listed i = true) (hr : (Region.ready .any l.toArray listed).contains i = true) (hgi : decide (i ≠ g) = true)
    (hQ : ∀ c a w, Q (.panic c) (a.put oi.dst v) w → Q (.panic c) a w) (hw : ∀ y, Region.wanted oi y = true) (hy : ∀ w, (execOp a.eval oi).run P w = .ok (.value v) w) (hab : ∀ w, oi.about P w a.eval = none) (hS : S w)
    (h : wpAnyG F n P l.toArray Q S g fuel (listed.setIfInBounds i true) (a.put oi.dst v) w) : wpAnyG F n P l.toArray Q S g (fuel + 1) listed a w :=
  have hi' : l.toArray[i]? = some oi := by simpa using hi
  wpAnyG_firstM hpl hi' (Region.noSelect_spec hs) hQ (of_decide_eq_true hgi) fuel listed a w (Region.free_spec hi' hf) (by simpa using hr) ⟨.inl ⟨hw _, fun w _ => hy w⟩, hab⟩ (fun _ => hS) h

end
end Go.Lin
