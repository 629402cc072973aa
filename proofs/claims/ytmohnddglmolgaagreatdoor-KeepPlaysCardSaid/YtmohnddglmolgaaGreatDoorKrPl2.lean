/- Plain: what the reference's lines are read as. -/
import Derived.Test.YtmohnddglmolgaaGreatDoorKrPl
namespace Go.Lin.Kp
open Go Go.Lin

theorem parse_of {x w0 : List UInt8} {r : List (List UInt8)} (h : splitL 32 x = w0 :: r) : parseM x = parseW x w0 r := by unfold parseM; rw [h]

theorem parse_add1 {x a : List UInt8} (h : splitL 32 x = [wAdd, a]) : parseM x = (match numM a with | none => none | some n => some (.add n)) := by
  rw [parse_of h]; unfold parseW; rw [if_pos ⟨rfl, rfl⟩]
  unfold numsM
  cases numM a <;> rfl

theorem parse_change2 {x a b : List UInt8} (h : splitL 32 x = [wChange, a, b]) : parseM x = (match numM a, numM b with | some i, some n => some (.change i n) | _, _ => none) := by
  rw [parse_of h]; unfold parseW; rw [if_neg (fun e => absurd e.1 (by decide)), if_pos ⟨rfl, rfl⟩]
  unfold numsM numsM
  cases numM a with
  | none => rfl
  | some i => cases numM b <;> rfl

theorem parse_fail2 {x a b : List UInt8} (h : splitL 32 x = [wFail, a, b]) : parseM x = (match numM a, placesM b with | some k, some l => some (.fail k l) | _, _ => none) := by
  rw [parse_of h]; unfold parseW; rw [if_neg (fun e => absurd e.1 (by decide)), if_neg (fun e => absurd e.1 (by decide)), if_pos ⟨rfl, rfl⟩]
  show (match placesM b, numsM [a] with | some e, some l => some (Cmd.fail (nth l 0) e) | _, _ => none) = _
  unfold numsM
  cases numM a <;> cases placesM b <;> rfl

theorem parse_crash1 {x a : List UInt8} (h : splitL 32 x = [wCrash, a]) : parseM x = (match placesM a with | some l => some (.crash l) | none => none) := by
  rw [parse_of h]; unfold parseW; rw [if_neg (fun e => absurd e.1 (by decide)), if_neg (fun e => absurd e.1 (by decide)), if_neg (fun e => absurd e.1 (by decide)), if_pos ⟨rfl, rfl⟩]
  rfl

theorem parse_other {x w0 : List UInt8} {r : List (List UInt8)} (h : splitL 32 x = w0 :: r) (h1 : ¬ (w0 = wAdd ∧ r.length = 1)) (h2 : ¬ (w0 = wChange ∧ r.length = 2)) (h3 : ¬ (w0 = wFail ∧ r.length = 2)) (h4 : ¬ (w0 = wCrash ∧ r.length = 1)) (h5 : x ≠ wOpen) (h6 : x ≠ wList) :
    parseM x = some (.ask x) := by
  rw [parse_of h]; unfold parseW
  rw [if_neg h1, if_neg h2, if_neg h3, if_neg h4, if_neg ?_, if_neg ?_]
  · rintro ⟨e, el⟩
    have : r = [] := List.eq_nil_of_length_eq_zero el
    subst this
    exact h6 ((splitL_one h).trans e)
  · rintro ⟨e, el⟩
    have : r = [] := List.eq_nil_of_length_eq_zero el
    subst this
    exact h5 ((splitL_one h).trans e)

/-- A line that is read as none answers as a question. -/
theorem script_bad {D : Dk} {x w0 : List UInt8} {r : List (List UInt8)} (h : splitL 32 x = w0 :: r) (hr : r ≠ []) (hp : parseM x = none) : scriptM askA D x = (askA D.b x, D) := by
  rw [script_none hp, ask_none D.b h hr]
theorem script_ask {D : Dk} {x : List UInt8} (hp : parseM x = some (.ask x)) : scriptM askA D x = (askA D.b x, D) := by
  rw [script_some hp]; rfl

end Go.Lin.Kp
