/- Plain: numbers as texts in a script, and what its lines are read as. -/
import Derived.Test.YtmohnddglmolgaaGreatDoorKpPlayM
namespace Go.Lin.Kp
open Go Go.Lin

theorem splitL_no {c : UInt8} : ∀ {l : List UInt8}, c ∉ l → splitL c l = [l]
  | [], _ => rfl
  | b :: l, h => by
    rw [List.mem_cons, not_or] at h
    unfold splitL
    rw [if_neg (fun e => h.1 e.symm), splitL_no h.2]

theorem splitL_at {c : UInt8} : ∀ {a : List UInt8} (b : List UInt8), c ∉ a → splitL c (a ++ c :: b) = a :: splitL c b
  | [], b, _ => by
    rw [List.nil_append]
    unfold splitL
    rw [if_pos rfl]
    cases b <;> rfl
  | x :: a, b, h => by
    rw [List.mem_cons, not_or] at h
    rw [List.cons_append]
    show splitL c (x :: (a ++ c :: b)) = _
    rw [splitL, if_neg (fun e => h.1 e.symm), splitL_at b h.2]

theorem dec_step (u : Nat) (h : ¬ u < 10) : Lib.decDigits u = Lib.decDigits (u / 10) ++ [UInt8.ofNat (48 + u % 10)] := by
  rw [Lib.decDigits, dif_neg h]

theorem digit_nat (u : Nat) (h : u < 10) : (UInt8.ofNat (48 + u)).toNat = 48 + u := by
  rw [UInt8.toNat_ofNat']; omega

theorem dec_digits : ∀ (f u : Nat), u ≤ f → ∀ b ∈ Lib.decDigits u, isDig b = true
  | f, u, hf => by
    intro b hb
    by_cases h : u < 10
    · rw [Lib.decDigits_one h, List.mem_singleton] at hb
      subst hb
      unfold isDig
      rw [digit_nat u h]; simp; omega
    · rw [dec_step u h, List.mem_append, List.mem_singleton] at hb
      rcases hb with hb | hb
      · cases f with
        | zero => omega
        | succ f => exact dec_digits f (u / 10) (by omega) b hb
      · subst hb
        unfold isDig
        rw [digit_nat _ (by omega)]; simp; omega

theorem numVal_snoc (b : UInt8) : ∀ (l : List UInt8) (acc : Nat), numVal acc (l ++ [b]) = numVal acc l * 10 + (b.toNat - 48)
  | [], acc => rfl
  | x :: l, acc => by rw [List.cons_append]; unfold numVal; exact numVal_snoc b l _

theorem dec_val : ∀ (f u : Nat), u ≤ f → numVal 0 (Lib.decDigits u) = u
  | f, u, hf => by
    by_cases h : u < 10
    · rw [Lib.decDigits_one h]
      unfold numVal numVal
      rw [digit_nat u h]; omega
    · rw [dec_step u h, numVal_snoc, digit_nat _ (by omega)]
      cases f with
      | zero => omega
      | succ f => rw [dec_val f (u / 10) (by omega)]; omega

theorem dec_ne : ∀ (f u : Nat), u ≤ f → Lib.decDigits u ≠ []
  | f, u, hf => by
    by_cases h : u < 10
    · rw [Lib.decDigits_one h]; simp
    · rw [dec_step u h]; simp

theorem dec_head : ∀ (f u : Nat), u ≤ f → 1 ≤ u → (Lib.decDigits u).head? ≠ some 48
  | f, u, hf, h1 => by
    by_cases h : u < 10
    · rw [Lib.decDigits_one h]
      rw [List.head?_cons, ne_eq, Option.some.injEq]
      intro e
      have := congrArg UInt8.toNat e
      rw [digit_nat u h] at this
      change 48 + u = 48 at this
      omega
    · rw [dec_step u h]
      cases f with
      | zero => omega
      | succ f =>
        have := dec_head f (u / 10) (by omega) (by omega)
        have hn := dec_ne _ (u / 10) (Nat.le_refl _)
        cases e : Lib.decDigits (u / 10) with
        | nil => exact absurd e hn
        | cons x r => rw [e] at this; exact this

theorem dec_len (u : Nat) (h : u < 10000) : (Lib.decDigits u).length ≤ 4 := by
  by_cases h1 : u < 10
  · rw [Lib.decDigits_one h1, List.length_singleton]; omega
  · rw [dec_step u h1, List.length_append, List.length_singleton]
    by_cases h2 : u / 10 < 10
    · rw [Lib.decDigits_one h2, List.length_singleton]; omega
    · rw [dec_step _ h2, List.length_append, List.length_singleton]
      by_cases h3 : u / 10 / 10 < 10
      · rw [Lib.decDigits_one h3, List.length_singleton]; omega
      · rw [dec_step _ h3, List.length_append, List.length_singleton, Lib.decDigits_one (by omega), List.length_singleton]; omega

theorem dec_single (u : Nat) (h : 1 < (Lib.decDigits u).length) : 1 ≤ u := by
  rcases Nat.eq_zero_or_pos u with e | e
  · subst e; rw [Lib.decDigits_one (by decide)] at h; simp at h
  · exact e

theorem numM_dec (u : Nat) (h : u < 10000) : numM (Lib.decDigits u) = some (u : Int) := by
  have hne := dec_ne u u (Nat.le_refl _)
  unfold numM
  rw [if_pos ⟨List.length_pos_iff.2 hne, dec_len u h, fun e => dec_head u u (Nat.le_refl _) (dec_single u e.1) e.2, List.all_eq_true.2 (dec_digits u u (Nat.le_refl _))⟩, dec_val u u (Nat.le_refl _)]

theorem itoa_nat (u : Nat) : Lib.itoa (u : Int) = Lib.decDigits u := by unfold Lib.itoa; rw [if_neg (by omega)]; simp

theorem dec_no {u : Nat} {c : UInt8} (hc : isDig c = false) : c ∉ Lib.decDigits u := fun h => by
  rw [dec_digits u u (Nat.le_refl _) c h] at hc; cases hc

theorem split_dec {u : Nat} {c : UInt8} (hc : isDig c = false) : splitL c (Lib.decDigits u) = [Lib.decDigits u] := splitL_no (dec_no hc)

theorem parse_add (n : Nat) (h : n < 10000) : parseM (wAdd ++ 32 :: Lib.decDigits n) = some (.add n) := by
  unfold parseM
  rw [splitL_at _ (by decide), split_dec (by decide)]
  show parseW _ wAdd [Lib.decDigits n] = _
  unfold parseW
  rw [if_pos ⟨rfl, rfl⟩]
  unfold numsM numsM
  rw [numM_dec n h]
  rfl

theorem parse_change (a n : Nat) (ha : a < 10000) (h : n < 10000) : parseM (wChange ++ 32 :: (Lib.decDigits a ++ 32 :: Lib.decDigits n)) = some (.change a n) := by
  unfold parseM
  rw [splitL_at _ (by decide), splitL_at _ (dec_no (by decide)), split_dec (by decide)]
  show parseW _ wChange [Lib.decDigits a, Lib.decDigits n] = _
  unfold parseW
  rw [if_neg (fun e => by cases e.2), if_pos ⟨rfl, rfl⟩]
  unfold numsM numsM numsM
  rw [numM_dec n h, numM_dec a ha]
  rfl

theorem places_two (c : Nat) (h : c < 10000) : placesM (Lib.decDigits c ++ [44, 48]) = some [(c : Int), 0] := by
  unfold placesM
  rw [if_neg]
  · rw [splitL_at [48] (dec_no (by decide))]
    show numsM [Lib.decDigits c, [48]] = _
    unfold numsM numsM numsM
    rw [numM_dec c h]
    rfl
  · intro e
    have := congrArg List.length e
    simp at this

theorem parse_fail (k c : Nat) (hk : k < 10000) (h : c < 10000) : parseM (wFail ++ 32 :: (Lib.decDigits k ++ 32 :: (Lib.decDigits c ++ [44, 48]))) = some (.fail k [(c : Int), 0]) := by
  have hno : (32 : UInt8) ∉ Lib.decDigits c ++ [44, 48] := by
    rw [List.mem_append, not_or]
    exact ⟨dec_no (by decide), by decide⟩
  unfold parseM
  rw [splitL_at _ (by decide), splitL_at _ (dec_no (by decide)), splitL_no hno]
  show parseW _ wFail [Lib.decDigits k, Lib.decDigits c ++ [44, 48]] = _
  unfold parseW
  rw [if_neg (fun e => by cases e.2), if_neg (fun e => by cases e.1), if_pos ⟨rfl, rfl⟩]
  show (match placesM (Lib.decDigits c ++ [44, 48]), numsM [Lib.decDigits k] with | some e, some l => some (Cmd.fail (nth l 0) e) | _, _ => none) = _
  rw [places_two c h]
  unfold numsM numsM
  rw [numM_dec k hk]
  rfl

def wCount : List UInt8 := [99, 111, 117, 110, 116]
theorem parse_count : parseM wCount = some (.ask wCount) := by kernel_rfl
theorem parse_open : parseM wOpen = some .open_ := by kernel_rfl

end Go.Lin.Kp
