/- The plain model of a yard of nodes: no program in sight. -/
import Derived.Test.YtcifpigjcfkhmaaBase
namespace Go.Lin.Hz

/-- A thread: its two slots, its list. -/
structure Th where
  a : Int
  b : Int
  l : List Int
deriving DecidableEq

/-- A yard: states are 0 (free), 1 (in), 2 (by). -/
structure Yd where
  size : Int
  st : List Int
  th : List Th
deriving DecidableEq

def noTh : Th := ⟨-1, -1, []⟩

def Th.slot (t : Th) (s : Int) : Int := if s = 0 then t.a else t.b
def Th.put (t : Th) (s n : Int) : Th := if s = 0 then { t with a := n } else { t with b := n }
def Th.has (t : Th) (n : Int) : Bool := t.a == n || t.b == n

def isNew (t s : Int) : Bool := (decide (1 ≤ t) && decide (t ≤ 4)) && (decide (1 ≤ s) && decide (s ≤ 4))
def new (t s : Int) : Yd := ⟨s, List.replicate 8 0, List.replicate t.toNat noTh⟩

def isT (Y : Yd) (t : Int) : Bool := decide (0 ≤ t) && decide (t ≤ (Y.th.length : Int) - 1)
def isS (s : Int) : Bool := decide (0 ≤ s) && decide (s ≤ 1)
def isN (n : Int) : Bool := decide (0 ≤ n) && decide (n ≤ 7)
def thAt (Y : Yd) (t : Int) : Th := Y.th.getD t.toNat noTh
def stAt (Y : Yd) (n : Int) : Int := nth Y.st n.toNat
def held (Y : Yd) (n : Int) : Bool := Y.th.any fun t => t.has n

def setT (Y : Yd) (t : Int) (x : Th) : Yd := { Y with th := Y.th.set t.toNat x }
def setN (Y : Yd) (n v : Int) : Yd := { Y with st := Y.st.set n.toNat v }

/-- All of a list become free. -/
def freeAll (st : List Int) (l : List Int) : List Int := l.foldl (fun st n => st.set n.toNat 0) st

def stay (Y : Yd) (l : List Int) : List Int := l.filter (held Y)
def gone (Y : Yd) (l : List Int) : List Int := l.filter (fun n => !held Y n)

/-- A sweep of a thread that there is. -/
def sweepY (Y : Yd) (t : Int) : Yd :=
  { Y with st := freeAll Y.st (gone Y (thAt Y t).l), th := Y.th.set t.toNat { thAt Y t with l := stay Y (thAt Y t).l } }
def sweepN (Y : Yd) (t : Int) : Int := ((thAt Y t).l.length : Int) - ((stay Y (thAt Y t).l).length : Int)

def take (Y : Yd) (t : Int) : Yd × Int × Int :=
  if isT Y t then
    match Y.st.findIdx? (· == 0) with
    | some n => (setN Y n 1, n, 0)
    | none => (Y, 0, 5)
  else (Y, 0, 2)

def point (Y : Yd) (t s n : Int) : Yd × Int :=
  if isT Y t && isS s && isN n then
    if stAt Y n = 1 then (setT Y t ((thAt Y t).put s n), 0) else (Y, 5)
  else (Y, 2)

def clear (Y : Yd) (t s : Int) : Yd × Int :=
  if isT Y t && isS s then (setT Y t ((thAt Y t).put s (-1)), 0) else (Y, 2)

/-- A node that is put onto a list. -/
def putY (Y : Yd) (t n : Int) : Yd := setT (setN Y n 2) t { thAt Y t with l := (thAt Y t).l ++ [n] }

def putBy (Y : Yd) (t n : Int) : Yd × Int × Int :=
  if isT Y t && isN n then
    if stAt Y n = 1 then
      if ((thAt Y t).l.length : Int) + 1 < Y.size then (putY Y t n, 0, 0) else (sweepY (putY Y t n) t, sweepN (putY Y t n) t, 0)
    else (Y, 0, 5)
  else (Y, 0, 2)

def sweep (Y : Yd) (t : Int) : Yd × Int × Int := if isT Y t then (sweepY Y t, sweepN Y t, 0) else (Y, 0, 2)

def slot (Y : Yd) (t s : Int) : Int × Int := if isT Y t && isS s then ((thAt Y t).slot s, 0) else (0, 2)

def use (Y : Yd) (t s : Int) : Int × Int :=
  if isT Y t && isS s then (if (thAt Y t).slot s = -1 then (0, 5) else ((thAt Y t).slot s, 0)) else (0, 2)

def stateOf (Y : Yd) (n : Int) : Int × Int := if isN n then (stAt Y n, 0) else (0, 2)
def listOf (Y : Yd) (t : Int) : List Int × Int := if isT Y t then ((thAt Y t).l, 0) else ([], 2)

def count (Y : Yd) (s : Int) : Int := (Y.st.filter (· == s)).length
def heldAll (Y : Yd) : List Int := ((List.range 8).map (Int.ofNat)).filter (held Y)

/-- What deeds there are. -/
def isDeed (d b c : Int) : Bool := 
  (decide (1 ≤ d) && decide (d ≤ 6)) && (d == 2 || (c == 0 && (b == 0 || !(d == 1 || d == 5))))

def doD (Y : Yd) (d a b c : Int) : Yd × Int × Int :=
  if isDeed d b c then
    if d = 1 then take Y a
    else if d = 2 then ((point Y a b c).1, 0, (point Y a b c).2)
    else if d = 3 then ((clear Y a b).1, 0, (clear Y a b).2)
    else if d = 4 then putBy Y a b
    else if d = 5 then sweep Y a
    else (Y, use Y a b)
  else (Y, 0, 2)

/-! ### What holds of each yard -/

/-- All nodes that are on lists. -/
def all (Y : Yd) : List Int := Y.th.flatMap Th.l

structure Inv (Y : Yd) : Prop where
  size : 1 ≤ Y.size ∧ Y.size ≤ 4
  st : Y.st.length = 8
  sts : ∀ x ∈ Y.st, x = 0 ∨ x = 1 ∨ x = 2
  th : 1 ≤ Y.th.length ∧ Y.th.length ≤ 4
  slots : ∀ t ∈ Y.th, ∀ n, t.has n = true → n = -1 ∨ (isN n = true ∧ stAt Y n ≠ 0)
  node : ∀ n ∈ all Y, isN n = true
  nodup : (all Y).Nodup
  by' : ∀ n, isN n = true → (n ∈ all Y ↔ stAt Y n = 2)

theorem isN_iff {n : Int} : isN n = true ↔ 0 ≤ n ∧ n ≤ 7 := by simp [isN]
theorem isS_iff {n : Int} : isS n = true ↔ 0 ≤ n ∧ n ≤ 1 := by simp [isS]
theorem isT_iff {Y : Yd} {t : Int} : isT Y t = true ↔ 0 ≤ t ∧ t ≤ (Y.th.length : Int) - 1 := by simp [isT]
theorem isT_lt {Y : Yd} {t : Int} (h : isT Y t = true) : t.toNat < Y.th.length := by have := isT_iff.1 h; omega

theorem nth_set {l : List Int} {i j : Nat} {v : Int} (hi : i < l.length) : nth (l.set i v) j = if i = j then v else nth l j := by
  simp only [nth, List.getD, List.getElem?_set]
  by_cases h : i = j
  · subst h; simp [hi]
  · simp [h]

theorem stAt_setN {Y : Yd} {n m v : Int} (hy : Y.st.length = 8) (hn : isN n = true) (hm : isN m = true) : stAt (setN Y n v) m = if n = m then v else stAt Y m := by
  have h1 := isN_iff.1 hn
  have h2 := isN_iff.1 hm
  show nth (Y.st.set n.toNat v) m.toNat = _
  rw [nth_set (by omega)]
  by_cases h : n = m
  · subst h; simp
  · have : ¬ n.toNat = m.toNat := by omega
    simp [h, this, stAt]

theorem thAt_mem {Y : Yd} {t : Int} (h : isT Y t = true) : thAt Y t ∈ Y.th := by
  have := isT_lt h
  simp [thAt, List.getD, List.getElem?_eq_getElem this]

theorem new_inv {t s : Int} (h : isNew t s = true) : Inv (new t s) := by
  simp [isNew] at h
  have hall : all (new t s) = [] := by simp [all, new, noTh]
  constructor
  · simp [new]; omega
  · simp [new]
  · intro x hx; simp [new] at hx; simp [hx]
  · simp [new]; omega
  · intro x hx n hn
    simp [new] at hx
    obtain ⟨_, rfl⟩ := hx
    simp [Th.has, noTh] at hn
    left; omega
  · simp [hall]
  · simp [hall]
  · intro n hn
    have := isN_iff.1 hn
    rw [hall]
    simp only [List.not_mem_nil, false_iff, stAt, new]
    obtain ⟨k, hk⟩ : ∃ k, n.toNat = k := ⟨_, rfl⟩
    rw [hk, nth_lt (by simp; omega), List.getElem_replicate]
    decide


/-! ### The parts of a yard behind a deed -/

theorem mem_set_th {Y : Yd} {k : Nat} {x t : Th} (h : t ∈ Y.th.set k x) : t = x ∨ t ∈ Y.th := (List.mem_or_eq_of_mem_set h).symm

theorem th_split {Y : Yd} {t : Int} (h : isT Y t = true) : ∃ p q, Y.th = p ++ thAt Y t :: q ∧ p.length = t.toNat ∧ ∀ x, Y.th.set t.toNat x = p ++ x :: q := by
  have hl := isT_lt h
  refine ⟨Y.th.take t.toNat, Y.th.drop (t.toNat + 1), ?_, by simp; omega, fun x => ?_⟩
  · simp only [thAt, List.getD, List.getElem?_eq_getElem hl, Option.getD_some]
    simp
  · rw [List.set_eq_take_append_cons_drop]; simp [hl]

theorem all_split {Y : Yd} {t : Int} (h : isT Y t = true) : ∃ P Q, all Y = P ++ (thAt Y t).l ++ Q ∧ ∀ x st s, all ⟨s, st, Y.th.set t.toNat x⟩ = P ++ x.l ++ Q := by
  obtain ⟨p, q, h1, _, h3⟩ := th_split h
  refine ⟨p.flatMap Th.l, q.flatMap Th.l, ?_, fun x st s => ?_⟩
  · conv => lhs; rw [all, h1]
    simp [List.flatMap_append, List.flatMap_cons]
  · rw [all]; simp only; rw [h3]; simp [List.flatMap_append, List.flatMap_cons]

theorem freeAll_length (st l : List Int) : (freeAll st l).length = st.length := by
  induction l generalizing st with
  | nil => rfl
  | cons n l ih => rw [show freeAll st (n :: l) = freeAll (st.set n.toNat 0) l from rfl, ih]; simp

theorem freeAll_nth (st l : List Int) (hst : st.length = 8) (hl : ∀ n ∈ l, isN n = true) (m : Int) (hm : isN m = true) :
    nth (freeAll st l) m.toNat = if m ∈ l then 0 else nth st m.toNat := by
  induction l generalizing st with
  | nil => simp [freeAll]
  | cons n l ih =>
    have hn := isN_iff.1 (hl n (by simp))
    have hm' := isN_iff.1 hm
    rw [show freeAll st (n :: l) = freeAll (st.set n.toNat 0) l from rfl, ih _ (by simpa using hst) (fun x hx => hl x (by simp [hx])), nth_set (by omega)]
    by_cases h1 : m ∈ l
    · simp [h1]
    · by_cases h2 : m = n
      · subst h2; simp
      · have : ¬ n.toNat = m.toNat := by omega
        simp [h1, h2, this]

theorem freeAll_mem {st l : List Int} {x : Int} (h : x ∈ freeAll st l) : x = 0 ∨ x ∈ st := by
  induction l generalizing st with
  | nil => exact .inr h
  | cons n l ih =>
    rcases ih (st := st.set n.toNat 0) h with h | h
    · exact .inl h
    · exact (List.mem_or_eq_of_mem_set h).symm

theorem put_has {t : Th} {s n m : Int} (h : (t.put s n).has m = true) : t.has m = true ∨ m = n := by
  unfold Th.put at h
  split at h <;> simp [Th.has] at h ⊢ <;> omega

theorem Inv.slotPut {Y : Yd} (hY : Inv Y) {t s n : Int} (ht : isT Y t = true) (hn : n = -1 ∨ (isN n = true ∧ stAt Y n ≠ 0)) : Inv (setT Y t ((thAt Y t).put s n)) := by
  have hl : ((thAt Y t).put s n).l = (thAt Y t).l := by unfold Th.put; split <;> rfl
  have hall : all (setT Y t ((thAt Y t).put s n)) = all Y := by
    obtain ⟨P, Q, h1, h2⟩ := all_split ht
    rw [setT, h2, hl, h1]
  refine ⟨hY.size, hY.st, hY.sts, by simpa [setT] using hY.th, ?_, by rw [hall]; exact hY.node, by rw [hall]; exact hY.nodup, by rw [hall]; exact hY.by'⟩
  intro x hx m hm
  rcases mem_set_th hx with rfl | hx
  · rcases put_has hm with h | rfl
    · exact hY.slots _ (thAt_mem ht) m h
    · exact hn
  · exact hY.slots x hx m hm

theorem Inv.sts' {Y : Yd} (hY : Inv Y) {n : Int} (hn : isN n = true) : stAt Y n = 0 ∨ stAt Y n = 1 ∨ stAt Y n = 2 := by
  have := isN_iff.1 hn
  have hs := hY.st
  rw [stAt, nth_lt (by omega)]
  exact hY.sts _ (List.getElem_mem _)

theorem Inv.take {Y : Yd} (hY : Inv Y) {k : Nat} (hk : Y.st.findIdx? (· == 0) = some k) : k < 8 ∧ stAt Y k = 0 ∧ Inv (setN Y k 1) := by
  obtain ⟨h1, h2, h3⟩ := List.findIdx?_eq_some_iff_getElem.1 hk
  have hs := hY.st
  have hk8 : k < 8 := by omega
  have hN : isN (k : Int) = true := isN_iff.2 (by omega)
  have h0 : stAt Y k = 0 := by
    rw [stAt, Int.toNat_natCast, nth_lt h1]; simpa using h2
  refine ⟨hk8, h0, hY.size, by simpa [setN] using hY.st, ?_, hY.th, ?_, hY.node, hY.nodup, ?_⟩
  · intro x hx
    rcases List.mem_or_eq_of_mem_set hx with h | h
    · exact hY.sts x h
    · simp [h]
  · intro t ht n hn
    rcases hY.slots t ht n hn with h | ⟨h, h'⟩
    · exact .inl h
    · refine .inr ⟨h, ?_⟩
      rw [stAt_setN hY.st hN h]
      split
      · decide
      · exact h'
  · intro n hn
    rw [stAt_setN hY.st hN hn]
    show n ∈ all Y ↔ _
    rw [hY.by' n hn]
    split
    · rename_i h; subst h; rw [h0]; decide
    · exact Iff.rfl

theorem has_list {t : Th} {l : List Int} {n : Int} : ({ t with l := l } : Th).has n = t.has n := rfl

theorem Inv.putY {Y : Yd} (hY : Inv Y) {t n : Int} (ht : isT Y t = true) (hn : isN n = true) (h1 : stAt Y n = 1) : Inv (putY Y t n) := by
  obtain ⟨P, Q, ha, hb⟩ := all_split ht
  have hall : all (Hz.putY Y t n) = P ++ ((thAt Y t).l ++ [n]) ++ Q := hb _ _ _
  have hmem : ∀ m, m ∈ all (Hz.putY Y t n) ↔ m ∈ all Y ∨ m = n := by
    intro m; rw [hall, ha]; simp; grind
  have hnot : n ∉ all Y := by rw [hY.by' n hn, h1]; decide
  have hst : ∀ m, isN m = true → stAt (Hz.putY Y t n) m = if n = m then 2 else stAt Y m := fun m hm => stAt_setN hY.st hn hm
  refine ⟨hY.size, by simpa [Hz.putY, setT, setN] using hY.st, ?_, by simpa [Hz.putY, setT, setN] using hY.th, ?_, ?_, ?_, ?_⟩
  · intro x hx
    rcases List.mem_or_eq_of_mem_set (show x ∈ Y.st.set n.toNat 2 from hx) with h | h
    · exact hY.sts x h
    · simp [h]
  · intro x hx m hm
    have : m = -1 ∨ (isN m = true ∧ stAt Y m ≠ 0) := by
      rcases mem_set_th (Y := Y) hx with rfl | hx
      · exact hY.slots _ (thAt_mem ht) m hm
      · exact hY.slots x hx m hm
    rcases this with h | ⟨h, h'⟩
    · exact .inl h
    · refine .inr ⟨h, ?_⟩
      rw [hst m h]
      split
      · decide
      · exact h'
  · intro m hm
    rcases (hmem m).1 hm with h | rfl
    · exact hY.node m h
    · exact hn
  · rw [hall]
    have hd := hY.nodup
    rw [ha] at hd hnot
    simp only [List.nodup_append, List.mem_append] at *
    grind
  · intro m hm
    rw [hmem, hst m hm, hY.by' m hm]
    split
    · rename_i h; subst h; simp
    · rename_i h; constructor
      · rintro (h' | h')
        · exact h'
        · exact absurd h'.symm h
      · exact .inl

theorem held_of_mem {Y : Yd} {t : Th} {n : Int} (ht : t ∈ Y.th) (h : t.has n = true) : held Y n = true := List.any_eq_true.2 ⟨t, ht, h⟩

theorem Inv.sweepY {Y : Yd} (hY : Inv Y) {t : Int} (ht : isT Y t = true) : Inv (sweepY Y t) := by
  obtain ⟨P, Q, ha, hb⟩ := all_split ht
  obtain ⟨l, hl⟩ : ∃ l, (thAt Y t).l = l := ⟨_, rfl⟩
  have hall : all (Hz.sweepY Y t) = P ++ stay Y l ++ Q := by
    rw [← hl]; exact hb _ _ _
  rw [hl] at ha
  have hd := hY.nodup
  have hln : ∀ n ∈ gone Y l, isN n = true := fun n hn => hY.node n (by rw [ha]; have : n ∈ l := (List.mem_filter.1 hn).1; simp [this])
  have hst : ∀ m, isN m = true → stAt (Hz.sweepY Y t) m = if m ∈ gone Y l then 0 else stAt Y m := by
    intro m hm
    have := freeAll_nth Y.st (gone Y l) hY.st hln m hm
    rw [← hl] at this ⊢
    exact this
  have hg : ∀ m, m ∈ gone Y l ↔ m ∈ l ∧ held Y m = false := by intro m; simp [gone]
  have hs : ∀ m, m ∈ stay Y l ↔ m ∈ l ∧ held Y m = true := by intro m; simp [stay]
  refine ⟨hY.size, by rw [show (Hz.sweepY Y t).st = freeAll Y.st _ from rfl, freeAll_length]; exact hY.st, ?_, by simpa [Hz.sweepY] using hY.th, ?_, ?_, ?_, ?_⟩
  · intro x hx
    rcases freeAll_mem hx with h | h
    · simp [h]
    · exact hY.sts x h
  · intro x hx m hm
    have : held Y m = true ∧ (m = -1 ∨ (isN m = true ∧ stAt Y m ≠ 0)) := by
      rcases mem_set_th (Y := Y) hx with rfl | hx
      · exact ⟨held_of_mem (thAt_mem ht) hm, hY.slots _ (thAt_mem ht) m hm⟩
      · exact ⟨held_of_mem hx hm, hY.slots x hx m hm⟩
    obtain ⟨hh, h | ⟨h, h'⟩⟩ := this
    · exact .inl h
    · refine .inr ⟨h, ?_⟩
      rw [hst m h, if_neg]
      · exact h'
      · rw [hg, hh]; simp
  · intro m hm
    rw [hall] at hm
    refine hY.node m ?_
    rw [ha]
    simp [hs] at hm ⊢
    grind
  · rw [hall]
    rw [ha] at hd
    simp only [List.nodup_append, List.mem_append] at hd ⊢
    have : (stay Y l).Nodup := (List.filter_sublist).nodup hd.1.2.1
    grind
  · intro m hm
    rw [hst m hm, hall]
    have h1 := hY.by' m hm
    rw [ha] at h1
    simp only [List.mem_append] at h1 ⊢
    rw [ha] at hd
    simp only [List.nodup_append, List.mem_append] at hd
    by_cases h2 : m ∈ gone Y l
    · have := (hg m).1 h2
      simp [h2]
      grind
    · have : m ∈ l → held Y m = true := by
        intro h3
        rw [hg] at h2
        cases h4 : held Y m
        · exact absurd ⟨h3, h4⟩ h2
        · rfl
      simp [h2]
      grind

theorem Inv.takeY {Y : Yd} (hY : Inv Y) (t : Int) : Inv (Hz.take Y t).1 := by
  unfold Hz.take
  split
  · split
    · rename_i k hk; exact (hY.take hk).2.2
    · exact hY
  · exact hY

theorem Inv.pointY {Y : Yd} (hY : Inv Y) (t s n : Int) : Inv (point Y t s n).1 := by
  unfold point
  split
  · rename_i h
    simp only [Bool.and_eq_true] at h
    split
    · rename_i h1; exact hY.slotPut h.1.1 (.inr ⟨h.2, by rw [h1]; decide⟩)
    · exact hY
  · exact hY

theorem Inv.clearY {Y : Yd} (hY : Inv Y) (t s : Int) : Inv (clear Y t s).1 := by
  unfold clear
  split
  · rename_i h
    simp only [Bool.and_eq_true] at h
    exact hY.slotPut h.1 (.inl rfl)
  · exact hY

theorem isT_putY {Y : Yd} {t n : Int} : isT (putY Y t n) t = isT Y t := by simp [isT, putY, setT, setN]

theorem Inv.putByY {Y : Yd} (hY : Inv Y) (t n : Int) : Inv (putBy Y t n).1 := by
  unfold putBy
  split
  · rename_i h
    simp only [Bool.and_eq_true] at h
    split
    · rename_i h1
      split
      · exact hY.putY h.1 h.2 h1
      · exact (hY.putY h.1 h.2 h1).sweepY (isT_putY.trans h.1)
    · exact hY
  · exact hY

theorem Inv.sweepD {Y : Yd} (hY : Inv Y) (t : Int) : Inv (sweep Y t).1 := by
  unfold sweep
  split
  · rename_i h; exact hY.sweepY h
  · exact hY

theorem Inv.doD {Y : Yd} (hY : Inv Y) (d a b c : Int) : Inv (Hz.doD Y d a b c).1 := by
  unfold Hz.doD
  split
  · split
    · exact hY.takeY a
    · split
      · exact hY.pointY a b c
      · split
        · exact hY.clearY a b
        · split
          · exact hY.putByY a b
          · split
            · exact hY.sweepD a
            · exact hY
  · exact hY

/-- A yard behind deeds, and what each gave. -/
structure Dd where
  d : Int
  a : Int
  b : Int
  c : Int

def after : Yd → List Dd → Yd
  | Y, [] => Y
  | Y, x :: l => after (doD Y x.d x.a x.b x.c).1 l

def given : Yd → List Dd → List (Int × Int)
  | _, [] => []
  | Y, x :: l => (doD Y x.d x.a x.b x.c).2 :: given (doD Y x.d x.a x.b x.c).1 l

theorem Inv.after {Y : Yd} (hY : Inv Y) (l : List Dd) : Inv (after Y l) := by
  induction l generalizing Y with
  | nil => exact hY
  | cons x l ih => exact ih (hY.doD x.d x.a x.b x.c)

theorem after_append (Y : Yd) (l m : List Dd) : after Y (l ++ m) = after (after Y l) m := by
  induction l generalizing Y with
  | nil => rfl
  | cons x l ih => exact ih _

theorem given_append (Y : Yd) (l m : List Dd) : given Y (l ++ m) = given Y l ++ given (after Y l) m := by
  induction l generalizing Y with
  | nil => rfl
  | cons x l ih => simp only [List.cons_append, given, after, ih]

/-- A deed that ends with an error changes nothing. -/
theorem doD_err {Y : Yd} {d a b c : Int} (h : (doD Y d a b c).2.2 ≠ 0) : (doD Y d a b c).1 = Y := by
  unfold doD take point clear putBy sweep at *
  grind

theorem size_doD (Y : Yd) (d a b c : Int) : (doD Y d a b c).1.size = Y.size := by
  unfold doD take point clear putBy sweep
  grind [setN, setT, sweepY, putY]

theorem threads_doD (Y : Yd) (d a b c : Int) : (doD Y d a b c).1.th.length = Y.th.length := by
  unfold doD take point clear putBy sweep
  grind [setN, setT, sweepY, putY, List.length_set]

end Go.Lin.Hz
