/- Plain laws of yards: two sweeps, all empty, how many are by. -/
import Derived.Test.YtcifpigjcfkhmaaHModel
namespace Go.Lin.Hz

theorem held_sweepY {Y : Yd} {t : Int} (ht : isT Y t = true) (n : Int) : held (sweepY Y t) n = held Y n := by
  obtain ⟨p, q, h1, _, h3⟩ := th_split ht
  show (Y.th.set _ _).any _ = Y.th.any _
  rw [h3]
  conv => rhs; rw [h1]
  simp [has_list]

theorem isT_sweepY {Y : Yd} {t u : Int} : isT (sweepY Y t) u = isT Y u := by simp [isT, sweepY]

theorem thAt_set {Y : Yd} {t : Int} (ht : isT Y t = true) {x : Th} {st : List Int} {s : Int} : thAt ⟨s, st, Y.th.set t.toNat x⟩ t = x := by
  have := isT_lt ht
  simp [thAt, List.getD, this]

theorem thAt_set_ne {Y : Yd} {t u : Int} (ht : isT Y t = true) (hu : isT Y u = true) (h : t ≠ u) {x : Th} {st : List Int} {s : Int} : thAt ⟨s, st, Y.th.set t.toNat x⟩ u = thAt Y u := by
  have h1 := isT_iff.1 ht
  have h2 := isT_iff.1 hu
  have : ¬ t.toNat = u.toNat := by omega
  simp [thAt, List.getD, this]

theorem list_sweepY {Y : Yd} {t : Int} (ht : isT Y t = true) : (thAt (sweepY Y t) t).l = stay Y (thAt Y t).l := by
  show (thAt ⟨_, _, Y.th.set _ _⟩ t).l = _
  rw [thAt_set ht]

/-- A second sweep frees none. -/
theorem sweep_twice {Y : Yd} {t : Int} (ht : isT Y t = true) : sweepN (sweepY Y t) t = 0 := by
  unfold sweepN
  rw [list_sweepY ht]
  have : stay (sweepY Y t) (stay Y (thAt Y t).l) = stay Y (thAt Y t).l := by
    unfold stay
    rw [show held (sweepY Y t) = held Y from funext (held_sweepY ht)]
    simp
  rw [this]; omega

/-- How many are by. -/
theorem count_by {Y : Yd} (hY : Inv Y) : count Y 2 = ((all Y).length : Int) := by
  have hst := hY.st
  have h1 : count Y 2 = ((((List.range 8).map (Int.ofNat)).filter (fun n => stAt Y n == 2)).length : Int) := by
    unfold count
    congr 1
    have : Y.st = ((List.range 8).map (Int.ofNat)).map (fun n => stAt Y n) := by
      apply List.ext_getElem (by simp [hst])
      intro i h1 h2
      simp [stAt, nth_lt h1]
    conv => lhs; rw [this]
    rw [List.filter_map, List.length_map]
    rfl
  rw [h1]
  congr 1
  have hp : (((List.range 8).map (Int.ofNat)).filter (fun n => stAt Y n == 2)).Perm (all Y) := by
    rw [List.perm_ext_iff_of_nodup]
    · intro n
      have hN : n ∈ ((List.range 8).map (Int.ofNat)) ↔ isN n = true := by
        rw [isN_iff]; simp only [List.mem_map, List.mem_range]
        constructor
        · rintro ⟨k, hk, rfl⟩; simp; omega
        · rintro ⟨h0, h7⟩; exact ⟨n.toNat, by omega, by simp; omega⟩
      rw [List.mem_filter, hN]
      constructor
      · rintro ⟨h, h'⟩; exact (hY.by' n h).2 (by simpa using h')
      · intro h; exact ⟨hY.node n h, by simpa using (hY.by' n (hY.node n h)).1 h⟩
    · refine List.Nodup.sublist List.filter_sublist ?_
      decide
    · exact hY.nodup
  exact hp.length_eq

theorem list_le {Y : Yd} (hY : Inv Y) {t : Int} (ht : isT Y t = true) : (thAt Y t).l.length ≤ 8 := by
  have h1 := count_by hY
  have h2 : count Y 2 ≤ 8 := by
    unfold count
    have := List.length_filter_le (fun x => x == (2 : Int)) Y.st
    rw [hY.st] at this
    omega
  obtain ⟨P, Q, ha, _⟩ := all_split ht
  rw [h1, ha] at h2
  simp at h2
  omega

/-- All slots are empty. -/
def NoSlots (Y : Yd) : Prop := ∀ t ∈ Y.th, t.a = -1 ∧ t.b = -1

theorem held_noSlots {Y : Yd} (h : NoSlots Y) {n : Int} (hn : 0 ≤ n) : held Y n = false := by
  unfold held
  rw [List.any_eq_false]
  intro t ht
  obtain ⟨h1, h2⟩ := h t ht
  simp [Th.has]; omega

/-- Nodes are conserved. -/
theorem count_sweepY {Y : Yd} (hY : Inv Y) {t : Int} (ht : isT Y t = true) : sweepN Y t + count (sweepY Y t) 2 = count Y 2 := by
  rw [count_by hY, count_by (hY.sweepY ht)]
  obtain ⟨P, Q, ha, hb⟩ := all_split ht
  have hall : all (sweepY Y t) = P ++ stay Y (thAt Y t).l ++ Q := hb _ _ _
  rw [ha, hall]
  unfold sweepN
  simp
  omega

theorem list_node {Y : Yd} (hY : Inv Y) {t : Int} (ht : isT Y t = true) {n : Int} (hn : n ∈ (thAt Y t).l) : isN n = true := by
  obtain ⟨P, Q, ha, _⟩ := all_split ht
  exact hY.node n (by rw [ha]; simp [hn])

theorem stay_noSlots {Y : Yd} (hY : Inv Y) (h : NoSlots Y) {t : Int} (ht : isT Y t = true) : stay Y (thAt Y t).l = [] := by
  unfold stay
  rw [List.filter_eq_nil_iff]
  intro n hn
  rw [held_noSlots h (isN_iff.1 (list_node hY ht hn)).1]
  decide

theorem noSlots_sweepY {Y : Yd} (h : NoSlots Y) {t : Int} (ht : isT Y t = true) : NoSlots (sweepY Y t) := by
  intro x hx
  rcases mem_set_th (Y := Y) hx with rfl | hx
  · exact (h _ (thAt_mem ht) :)
  · exact h x hx

/-- Behind sweeps of the threads below k no list of them has a node. -/
theorem empty_sweepY {Y : Yd} (hY : Inv Y) (h : NoSlots Y) {k : Nat} (hk : isT Y k = true) (h0 : ∀ u : Nat, u < k → (thAt Y u).l = []) : ∀ u : Nat, u < k + 1 → (thAt (sweepY Y k) u).l = [] := by
  intro u hu
  have hk' := isT_iff.1 hk
  by_cases h1 : u = k
  · subst h1
    rw [list_sweepY hk, stay_noSlots hY h hk]
  · show (thAt ⟨_, _, Y.th.set _ _⟩ _).l = _
    rw [thAt_set_ne hk (isT_iff.2 (by omega)) (by omega)]
    exact h0 u (by omega)

theorem all_nil {Y : Yd} (h : ∀ u : Nat, u < Y.th.length → (thAt Y u).l = []) : all Y = [] := by
  unfold all
  rw [List.flatMap_eq_nil_iff]
  intro x hx
  obtain ⟨i, hi, rfl⟩ := List.getElem_of_mem hx
  have := h i hi
  simpa [thAt, List.getD, hi] using this

theorem count_nil {Y : Yd} (hY : Inv Y) (h : ∀ u : Nat, u < Y.th.length → (thAt Y u).l = []) : count Y 2 = 0 := by
  rw [count_by hY, all_nil h]; rfl

theorem heldAll_noSlots {Y : Yd} (h : NoSlots Y) : heldAll Y = [] := by
  unfold heldAll
  rw [List.filter_eq_nil_iff]
  intro n hn
  simp only [List.mem_map, List.mem_range] at hn
  obtain ⟨k, _, rfl⟩ := hn
  rw [held_noSlots h (by simp)]
  decide

theorem mem_heldAll {Y : Yd} {n : Int} : n ∈ heldAll Y ↔ isN n = true ∧ held Y n = true := by
  unfold heldAll
  rw [List.mem_filter, isN_iff]
  simp only [List.mem_map, List.mem_range]
  refine and_congr_left fun _ => ?_
  constructor
  · rintro ⟨k, hk, rfl⟩; simp; omega
  · rintro ⟨h0, h7⟩; exact ⟨n.toNat, by omega, by simp; omega⟩

theorem heldAll_up (Y : Yd) : (heldAll Y).Pairwise (· < ·) := by
  unfold heldAll
  refine List.Pairwise.sublist List.filter_sublist ?_
  decide

/-- A node that is held is not free. -/
theorem held_state {Y : Yd} (hY : Inv Y) {n : Int} (hn : isN n = true) (h : held Y n = true) : stAt Y n ≠ 0 := by
  obtain ⟨t, ht, h'⟩ := List.any_eq_true.1 h
  rcases hY.slots t ht n h' with rfl | h2
  · exact absurd (isN_iff.1 hn).1 (by decide)
  · exact h2.2

/-- What a slot has. -/
theorem slot_cases {Y : Yd} (hY : Inv Y) {t s : Int} (ht : isT Y t = true) : (thAt Y t).slot s = -1 ∨ ((thAt Y t).slot s ∈ heldAll Y ∧ 0 ≤ (thAt Y t).slot s) := by
  have h1 : (thAt Y t).has ((thAt Y t).slot s) = true := by
    unfold Th.slot Th.has; split <;> simp
  rcases hY.slots _ (thAt_mem ht) _ h1 with h | h
  · exact .inl h
  · exact .inr ⟨mem_heldAll.2 ⟨h.1, held_of_mem (thAt_mem ht) h1⟩, (isN_iff.1 h.1).1⟩

end Go.Lin.Hz
