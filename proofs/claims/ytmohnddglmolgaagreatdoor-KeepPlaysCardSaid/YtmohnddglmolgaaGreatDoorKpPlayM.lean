/- The plain model of scripts: words, numbers, commands. Of no program. -/
import Derived.Test.YtmohnddglmolgaaGreatDoorKpM
import Derived.Lib.SplitLaws
import Derived.Lib.ItoaNum
import Derived.Lib.Atoi
import Derived.Shelf.GgClosure.StringsIndexFunc
namespace Go.Lin.Kp
open Go Go.Lin

/-- What stands between the bytes c. -/
def splitL (c : UInt8) : List UInt8 → List (List UInt8)
  | [] => [[]]
  | b :: l => if b = c then [] :: splitL c l else match splitL c l with
    | [] => [[b]]
    | x :: r => (b :: x) :: r

theorem splitL_ne (c : UInt8) (l : List UInt8) : splitL c l ≠ [] := by
  cases l with
  | nil => simp [splitL]
  | cons b l =>
    unfold splitL
    split
    · simp
    · split <;> simp

theorem splitL_len (c : UInt8) : ∀ l : List UInt8, (splitL c l).length ≤ l.length + 1
  | [] => by simp [splitL]
  | b :: l => by
    have ih := splitL_len c l
    unfold splitL
    split
    · simp; omega
    · split
      · simp
      · rename_i h; rw [h] at ih; simpa using Nat.le_succ_of_le ih

open Go.Lib in
theorem splitK_one (c : UInt8) : ∀ (l : List UInt8) (n : Nat), count l [c] = n → splitK [c] 0 n l = splitL c l
  | [], n, h => by
    have : n = 0 := by rw [← h, count_one]; rfl
    subst this; rfl
  | b :: l, n, h => by
    by_cases e : b = c
    · subst e
      rw [count_cons_eq] at h
      obtain ⟨k, rfl⟩ : ∃ k, n = k + 1 := ⟨count l [b], by omega⟩
      have ih := splitK_one b l k (by omega)
      have hix : index (b :: l) [b] = 0 := by rw [index]; simp [List.isPrefixOf]
      unfold splitK splitL
      rw [hix, if_pos rfl]
      simp [ih]
    · rw [count_cons_ne b c l e] at h
      have ih := splitK_one c l n h
      have hp : ([c] : List UInt8).isPrefixOf (b :: l) = false := by simp [List.isPrefixOf, Ne.symm e]
      have hix : index (b :: l) [c] = if index l [c] == -1 then -1 else index l [c] + 1 := by rw [index, hp]; simp
      unfold splitL
      rw [if_neg e, ← ih]
      cases n with
      | zero => rfl
      | succ k =>
        have hm : index l [c] ≠ -1 := fun hm => by rw [count_miss hm] at h; omega
        have hge := index_ge l [c]
        have hm1 : (index l [c] == -1) = false := by simpa using hm
        have hm2 : (index l [c] + 1 == -1) = false := by rw [beq_eq_false_iff_ne]; omega
        unfold splitK
        rw [hix, hm1]
        simp only [Bool.false_eq_true, if_false, hm2]
        have : (index l [c] + 1).toNat = (index l [c]).toNat + 1 := by omega
        rw [this]
        simp

theorem splitB_one (c : UInt8) (s : ByteArray) : (Go.Lib.splitB ⟨#[c]⟩ 0 (Go.Lib.countB s ⟨#[c]⟩) s).map (·.data.toList) = splitL c s.data.toList := by
  rw [Go.Lib.splitB_data]
  exact splitK_one c _ _ rfl

def isDig (b : UInt8) : Bool := decide (48 ≤ b.toNat) && decide (b.toNat ≤ 57)
/-- Is a rune no digit? -/
def noDig (r : Nat) : Bool := decide (r < 48) || decide (57 < r)

theorem decode_cases (s : ByteArray) (i : Nat) : ((s.get! i).toNat < 128 ∧ Utf8.decode s i = ((s.get! i).toNat, 1)) ∨ (128 ≤ (s.get! i).toNat ∧ 128 ≤ (Utf8.decode s i).1) := by
  by_cases h : (s.get! i).toNat < 128
  · left; exact ⟨h, by simp [Utf8.decode, h]⟩
  · right
    refine ⟨by omega, ?_⟩
    unfold Utf8.decode
    simp only [Nat.add_zero, h, if_false]
    repeat' split
    all_goals first
      | (simp [Utf8.runeError]; done)
      | (rename_i h1; simp only [Bool.and_eq_true, decide_eq_true_eq] at h1; first | exact h1 | exact Nat.le_trans (by decide) h1.1)
      | (rename_i h1; exact h1)

open Go.Proofs in
theorem idxFunc_digits (s : ByteArray) : ∀ (f pos : Nat), s.size ≤ pos + f → (0 ≤ Go.Lib.idxFuncFrom noDig true s f pos ↔ ∃ i, pos ≤ i ∧ i < s.size ∧ isDig (s.get! i) = false)
  | 0, pos, h => by
    simp only [Go.Lib.idxFuncFrom]
    constructor
    · intro h2; omega
    · rintro ⟨i, h1, h2, _⟩; omega
  | f + 1, pos, h => by
    unfold Go.Lib.idxFuncFrom
    by_cases hp : pos < s.size
    · rw [if_pos hp]
      have hd : noDig (s.get! pos).toNat = !isDig (s.get! pos) := by
        unfold noDig isDig
        rw [Bool.eq_iff_iff]; simp <;> omega
      rcases decode_cases s pos with ⟨hl, e⟩ | ⟨hl, e⟩
      · rw [e]
        simp only
        rw [hd]
        cases hc : isDig (s.get! pos) with
        | true =>
          simp only [Bool.not_true, Bool.false_eq_true, if_false]
          rw [idxFunc_digits s f (pos + 1) (by omega)]
          constructor
          · rintro ⟨i, h1, h2, h3⟩; exact ⟨i, by omega, h2, h3⟩
          · rintro ⟨i, h1, h2, h3⟩
            have : i ≠ pos := fun e => by subst e; rw [hc] at h3; cases h3
            exact ⟨i, by omega, h2, h3⟩
        | false =>
          simp only [Bool.not_false, if_true]
          exact ⟨fun _ => ⟨pos, Nat.le_refl _, hp, hc⟩, fun _ => by omega⟩
      · have hn : noDig (Utf8.decode s pos).1 = true := by unfold noDig; simp; omega
        rw [if_pos hn]
        refine ⟨fun _ => ⟨pos, Nat.le_refl _, hp, ?_⟩, fun _ => by omega⟩
        unfold isDig; simp; omega
    · rw [if_neg hp]
      constructor
      · intro h2; omega
      · rintro ⟨i, h1, h2, _⟩; omega

theorem get_list (s : ByteArray) (i : Nat) (h : i < s.size) : s.get! i = s.data.toList[i]'(by simpa using h) := by
  simp [ByteArray.get!, getElem!_pos, h]

theorem contains_digits (s : ByteArray) : decide (0 ≤ Go.Lib.idxFunc noDig true s) = !s.data.toList.all isDig := by
  unfold Go.Lib.idxFunc
  rw [Bool.eq_iff_iff, decide_eq_true_iff, idxFunc_digits s s.size 0 (by omega)]
  rw [Bool.not_eq_true', List.all_eq_false]
  constructor
  · rintro ⟨i, _, h2, h3⟩
    refine ⟨s.get! i, ?_, by simp [h3]⟩
    rw [get_list s i h2]; exact List.getElem_mem _
  · rintro ⟨x, hx, h3⟩
    obtain ⟨i, hi, rfl⟩ := List.getElem_of_mem hx
    have hi2 : i < s.size := by simpa using hi
    exact ⟨i, Nat.zero_le _, hi2, by rw [get_list s i hi2]; simpa using h3⟩

/-- The number of digits. -/
def numVal (acc : Nat) : List UInt8 → Nat
  | [] => acc
  | b :: l => numVal (acc * 10 + (b.toNat - 48)) l

/-- The number of a word. -/
def numM (s : List UInt8) : Option Int :=
  if 1 ≤ s.length ∧ s.length ≤ 4 ∧ ¬ (1 < s.length ∧ s.head? = some 48) ∧ s.all isDig = true then some (numVal 0 s) else none

theorem decFrom_digits : ∀ (l : List UInt8) (acc : Nat), l.all isDig = true → Go.Lib.decFrom acc l = some (numVal acc l)
  | [], acc, _ => rfl
  | b :: l, acc, h => by
    rw [List.all_cons, Bool.and_eq_true] at h
    unfold Go.Lib.decFrom numVal Go.Lib.digitVal
    have := h.1
    unfold isDig at this
    simp only [Bool.and_eq_true, decide_eq_true_eq] at this
    rw [if_pos this]
    exact decFrom_digits l _ h.2

theorem atoi_digits (l : List UInt8) (h : l.all isDig = true) (hne : l ≠ []) : Go.Lib.atoi l = some (numVal 0 l : Int) := by
  cases l with
  | nil => exact absurd rfl hne
  | cons b r =>
    have hb : isDig b = true := by rw [List.all_cons, Bool.and_eq_true] at h; exact h.1
    unfold isDig at hb
    simp only [Bool.and_eq_true, decide_eq_true_eq] at hb
    have h1 : (b == 45) = false := by rw [beq_eq_false_iff_ne]; rintro rfl; exact absurd hb.1 (by decide)
    have h2 : (b == 43) = false := by rw [beq_eq_false_iff_ne]; rintro rfl; exact absurd hb.1 (by decide)
    simp only [Go.Lib.atoi, h1, h2, Bool.false_eq_true, if_false]
    unfold Go.Lib.decNat
    rw [decFrom_digits _ _ h]
    rfl

theorem numVal_step (s : List UInt8) : ∀ (acc m : Nat), acc ≤ m → (∀ b ∈ s, b.toNat ≤ 57) → ∃ k, k ≤ s.length ∧ numVal acc s ≤ numVal m (List.replicate s.length 57) := by
  induction s with
  | nil => intro acc m h _; exact ⟨0, Nat.le_refl _, h⟩
  | cons a s ih =>
    intro acc m h hb
    have ha := hb a (by simp)
    have h57 : (57 : UInt8).toNat = 57 := rfl
    obtain ⟨k, hk, h2⟩ := ih (acc * 10 + (a.toNat - 48)) (m * 10 + ((57 : UInt8).toNat - 48)) (by rw [h57]; omega) (fun b hb2 => hb b (by simp [hb2]))
    exact ⟨0, Nat.zero_le _, h2⟩

theorem numVal_mono (n : Nat) (hn : n ≤ 4) : numVal 0 (List.replicate n 57) ≤ 9999 := by
  have : n = 0 ∨ n = 1 ∨ n = 2 ∨ n = 3 ∨ n = 4 := by omega
  rcases this with rfl | rfl | rfl | rfl | rfl <;> decide

theorem numVal_small (s : List UInt8) (hl : s.length ≤ 4) (hb : ∀ b ∈ s, b.toNat ≤ 57) : numVal 0 s ≤ 9999 := by
  obtain ⟨_, _, h⟩ := numVal_step s 0 0 (Nat.le_refl _) hb
  exact Nat.le_trans h (numVal_mono _ hl)

theorem numM_bound {s : List UInt8} {n : Int} (h : numM s = some n) : 0 ≤ n ∧ n ≤ 9999 := by
  unfold numM at h
  by_cases hc : 1 ≤ s.length ∧ s.length ≤ 4 ∧ ¬ (1 < s.length ∧ s.head? = some 48) ∧ s.all isDig = true
  · rw [if_pos hc] at h
    obtain ⟨_, hl, _, hd⟩ := hc
    rw [List.all_eq_true] at hd
    have hb : ∀ b ∈ s, b.toNat ≤ 57 := fun b hb => by
      have := hd b hb
      unfold isDig at this
      simp only [Bool.and_eq_true, decide_eq_true_eq] at this
      exact this.2
    have h3 := numVal_small s hl hb
    revert h h3
    generalize numVal 0 s = v
    intro h h3
    have := Option.some.inj h
    omega
  · rw [if_neg hc] at h
    cases h

def numsM : List (List UInt8) → Option (List Int)
  | [] => some []
  | w :: r => match numM w with
    | none => none
    | some n => match numsM r with
      | none => none
      | some l => some (n :: l)

theorem numsM_len : ∀ {ws : List (List UInt8)} {l : List Int}, numsM ws = some l → l.length = ws.length
  | [], l, h => by cases h; rfl
  | w :: r, l, h => by
    unfold numsM at h
    cases e : numM w with
    | none => rw [e] at h; cases h
    | some n =>
      rw [e] at h
      cases e2 : numsM r with
      | none => rw [e2] at h; cases h
      | some l' => rw [e2] at h; cases h; simp [numsM_len e2]

theorem numsM_snoc : ∀ (ws : List (List UInt8)) (w : List UInt8), numsM (ws ++ [w]) = match numsM ws with | none => none | some l => match numM w with | none => none | some n => some (l ++ [n])
  | [], w => by
    simp only [List.nil_append, numsM]
  | x :: r, w => by
    rw [List.cons_append]
    unfold numsM
    cases numM x with
    | none => rfl
    | some n =>
      simp only
      rw [numsM_snoc r w]
      cases numsM r with
      | none => rfl
      | some l => cases numM w <;> rfl

theorem numsM_take_none {ws : List (List UInt8)} {k : Nat} (hk : k < ws.length) {l : List Int} (h : numsM (ws.take k) = some l) (hn : numM ws[k] = none) : numsM ws = none := by
  have : ∀ (a b : List (List UInt8)), numsM a = none → numsM (a ++ b) = none := by
    intro a b
    induction a with
    | nil => intro h; cases h
    | cons x r ih =>
      intro h
      rw [List.cons_append]
      unfold numsM at h ⊢
      cases e : numM x with
      | none => rfl
      | some n =>
        rw [e] at h
        cases e2 : numsM r with
        | none => rw [ih e2]
        | some l' => rw [e2] at h; cases h
  rw [← List.take_append_drop (k + 1) ws]
  refine this _ _ ?_
  rw [List.take_add_one, List.getElem?_eq_getElem hk]
  show numsM (ws.take k ++ [ws[k]]) = none
  rw [numsM_snoc, h, hn]

def placesM (s : List UInt8) : Option (List Int) := if s = [45] then some [] else numsM (splitL 44 s)

/-- What a line does. -/
inductive Cmd
  | add (n : Int)
  | change (i n : Int)
  | fail (k : Int) (l : List Int)
  | crash (l : List Int)
  | open_
  | list
  | ask (line : List UInt8)

def wAdd : List UInt8 := [97, 100, 100]
def wChange : List UInt8 := [99, 104, 97, 110, 103, 101]
def wFail : List UInt8 := [102, 97, 105, 108]
def wCrash : List UInt8 := [99, 114, 97, 115, 104]
def wOpen : List UInt8 := [111, 112, 101, 110]
def wList : List UInt8 := [108, 105, 115, 116]

/-- The command of a line, by its words. -/
def parseW (line : List UInt8) (w0 : List UInt8) (r : List (List UInt8)) : Option Cmd :=
  if w0 = wAdd ∧ r.length = 1 then (match numsM r with | none => none | some l => some (.add (nth l 0)))
  else if w0 = wChange ∧ r.length = 2 then (match numsM r with | none => none | some l => some (.change (nth l 0) (nth l 1)))
  else if w0 = wFail ∧ r.length = 2 then (match placesM (r.getD 1 []), numsM (r.take 1) with | some e, some l => some (.fail (nth l 0) e) | _, _ => none)
  else if w0 = wCrash ∧ r.length = 1 then (match placesM (r.getD 0 []) with | some e => some (.crash e) | none => none)
  else if w0 = wOpen ∧ r.length = 0 then some .open_
  else if w0 = wList ∧ r.length = 0 then some .list
  else some (.ask line)

def parseM (line : List UInt8) : Option Cmd := match splitL 32 line with
  | [] => none
  | w0 :: r => parseW line w0 r

end Go.Lin.Kp
