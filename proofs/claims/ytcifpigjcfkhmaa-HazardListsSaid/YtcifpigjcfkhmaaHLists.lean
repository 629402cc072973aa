/- Plain laws for HazardLists. -/
import Derived.Test.YtcifpigjcfkhmaaHIs
namespace Go.Lin.Hz

/-- The nodes on the lists of the threads below t, and the first k ones of t's. -/
def allTo (Y : Yd) (t : Nat) : List Int := (Y.th.take t).flatMap Th.l

theorem allTo_succ {Y : Yd} {t : Nat} (ht : t < Y.th.length) : allTo Y (t + 1) = allTo Y t ++ (thAt Y t).l := by
  unfold allTo
  rw [List.take_add_one, List.flatMap_append, List.getElem?_eq_getElem ht]
  simp [thAt, List.getD, ht]

theorem allTo_all (Y : Yd) : allTo Y Y.th.length = all Y := by unfold allTo all; rw [List.take_length]

theorem allTo_prefix {Y : Yd} {t : Nat} (ht : t < Y.th.length) : ∃ Q, all Y = allTo Y t ++ (thAt Y t).l ++ Q := by
  refine ⟨(Y.th.drop (t + 1)).flatMap Th.l, ?_⟩
  rw [← allTo_succ ht]
  unfold allTo all
  rw [← List.flatMap_append, List.take_append_drop]

/-- A node of a list is by, and on none of those ahead of it. -/
theorem list_new {Y : Yd} (hY : Inv Y) {t k : Nat} (ht : t < Y.th.length) (hk : k < (thAt Y t).l.length) :
    isN (nth (thAt Y t).l k) = true ∧ stAt Y (nth (thAt Y t).l k) = 2 ∧ nth (thAt Y t).l k ∉ allTo Y t ++ (thAt Y t).l.take k := by
  obtain ⟨Q, hQ⟩ := allTo_prefix ht
  have hm : nth (thAt Y t).l k ∈ all Y := by rw [hQ, nth_lt hk]; simp
  have hn := hY.node _ hm
  refine ⟨hn, (hY.by' _ hn).1 hm, ?_⟩
  have hd := hY.nodup
  rw [hQ, show (thAt Y t).l = (thAt Y t).l.take k ++ nth (thAt Y t).l k :: (thAt Y t).l.drop (k + 1) by
    rw [nth_lt hk]; simp] at hd
  intro hx
  rw [List.append_assoc, List.append_assoc, ← List.append_assoc, List.nodup_append] at hd
  obtain ⟨_, _, h3⟩ := hd
  exact h3 _ hx _ (by simp) rfl

theorem allTo_le {Y : Yd} (hY : Inv Y) {t : Nat} (_ht : t ≤ Y.th.length) : (allTo Y t).length ≤ 8 := by
  have h1 := count_by hY
  have h2 : count Y 2 ≤ 8 := by
    unfold count
    have := List.length_filter_le (fun x => x == (2 : Int)) Y.st
    rw [hY.st] at this; omega
  have h3 : (allTo Y t).length ≤ (all Y).length := by
    unfold allTo all
    have : (Y.th.take t).flatMap Th.l <+: Y.th.flatMap Th.l := ⟨(Y.th.drop t).flatMap Th.l, by rw [← List.flatMap_append, List.take_append_drop]⟩
    exact this.length_le
  omega

theorem list_le8 {Y : Yd} (hY : Inv Y) {t : Nat} (ht : t < Y.th.length) : (allTo Y t).length + (thAt Y t).l.length ≤ 8 := by
  have := allTo_le hY (t := t + 1) (by omega)
  rw [allTo_succ ht] at this
  simpa using this

/-- What a list has behind a sweep, and behind one that was put by. -/
theorem list_held {Y : Yd} {d a b c : Int} (h0 : (doD Y d a b c).2.2 = 0) (h : d = 5 ∨ (d = 4 ∧ (doD Y d a b c).1.size ≤ ((thAt (doD Y d a b c).1 a).l.length : Int))) :
    ∀ n ∈ (thAt (doD Y d a b c).1 a).l, held (doD Y d a b c).1 n = true := by
  have hsw : ∀ (Z : Yd) (t : Int), isT Z t = true → ∀ n ∈ (thAt (sweepY Z t) t).l, held (sweepY Z t) n = true := by
    intro Z t ht n hn
    rw [list_sweepY ht] at hn
    rw [held_sweepY ht]
    exact (List.mem_filter.1 hn).2
  have hd : isDeed d b c = true := by
    unfold doD at h0
    cases hd : isDeed d b c with
    | true => rfl
    | false => rw [hd] at h0; simp at h0
  rcases h with rfl | ⟨rfl, hsz⟩
  · have he : doD Y 5 a b c = sweep Y a := by unfold doD; simp [hd]
    rw [he] at h0 ⊢
    unfold sweep at h0 ⊢
    split at h0
    · rename_i ht; simp only [ht, if_true]; exact hsw Y a ht
    · simp at h0
  · have he : doD Y 4 a b c = putBy Y a b := by unfold doD; simp [hd]
    rw [he] at h0 hsz ⊢
    unfold putBy at h0 hsz ⊢
    split at h0
    · rename_i ht
      simp only [ht, if_true] at hsz ⊢
      split at h0
      · rename_i hs
        simp only [hs, if_true] at hsz ⊢
        rw [Bool.and_eq_true] at ht
        split at h0
        · rename_i hl
          simp only [hl, if_true] at hsz
          exfalso
          have : (thAt (putY Y a b) a).l = (thAt Y a).l ++ [b] := by
            unfold putY
            rw [thAt_setT (show isT (setN Y b 2) a = true from ht.1)]
          rw [this] at hsz
          have h2 : (putY Y a b).size = Y.size := rfl
          rw [h2] at hsz
          simp at hsz
          omega
        · rename_i hl
          simp only [hl, if_false]
          exact hsw _ a (isT_putY.trans ht.1)
      · simp at h0
    · simp at h0

theorem has_all {Y : Yd} (hY : Inv Y) {q : Nat} (hq : q < 8) : decide ((q : Int) ∈ all Y) = (stAt Y q == 2) := by
  rw [Bool.eq_iff_iff, decide_eq_true_iff]
  have := hY.by' (q : Int) (isN_iff.2 (by omega))
  rw [this]; simp

theorem counts {l : List Int} (h : ∀ x ∈ l, x = 0 ∨ x = 1 ∨ x = 2) : (l.filter (· == (0 : Int))).length + (l.filter (· == (2 : Int))).length + (l.filter (· == (1 : Int))).length = l.length := by
  induction l with
  | nil => rfl
  | cons x l ih =>
    have := ih (fun y hy => h y (by simp [hy]))
    rcases h x (by simp) with rfl | rfl | rfl <;> simp <;> omega

theorem counts_yard {Y : Yd} (hY : Inv Y) : count Y 0 + count Y 2 + count Y 1 = 8 := by
  have := counts hY.sts
  have h8 := hY.st
  unfold count
  omega

end Go.Lin.Hz
