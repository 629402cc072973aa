/- Plain laws for TopHazard. -/
import Derived.Test.YtcifpigjcfkhmaaHEnds2
namespace Go.Lin.Hz

theorem doD_use {Y : Yd} (hY : Inv Y) {a b c : Int} (h : (doD Y 6 a b c).2.2 = 0) : isN (doD Y 6 a b c).2.1 = true ∧ stAt (doD Y 6 a b c).1 (doD Y 6 a b c).2.1 ≠ 0 := by
  unfold doD at h ⊢
  by_cases hd : isDeed 6 b c = true
  · simp only [hd, if_true] at h ⊢
    simp only [show ¬ ((6 : Int) = 1) by decide, show ¬ ((6 : Int) = 2) by decide, show ¬ ((6 : Int) = 3) by decide, show ¬ ((6 : Int) = 4) by decide, show ¬ ((6 : Int) = 5) by decide, if_false] at h ⊢
    unfold use at h ⊢
    by_cases ht : (isT Y a && isS b) = true
    · simp only [ht, if_true] at h ⊢
      rw [Bool.and_eq_true] at ht
      rcases slot_cases hY ht.1 (s := b) with h1 | ⟨h1, h2⟩
      · rw [if_pos h1] at h; simp at h
      · have hne : ¬ (thAt Y a).slot b = -1 := by omega
        rw [if_neg hne]
        have h3 := mem_heldAll.1 h1
        exact ⟨h3.1, held_state hY h3.1 h3.2⟩
    · have ht' : (isT Y a && isS b) = false := by simpa using ht
      simp [ht'] at h
  · have hd' : isDeed 6 b c = false := by simpa using hd
    simp [hd'] at h

/-- The yard behind putting by the nodes below k. -/
def puts (Y : Yd) (T : Int) : Nat → Yd
  | 0 => Y
  | k + 1 => (putBy (puts Y T k) ((k : Int) % T) k).1

theorem putBy_len (Y : Yd) (t n : Int) : (putBy Y t n).1.th.length = Y.th.length := by
  unfold putBy
  grind [setN, setT, sweepY, putY, List.length_set]

theorem puts_len (Y : Yd) (T : Int) : ∀ k, (puts Y T k).th.length = Y.th.length
  | 0 => rfl
  | k + 1 => by rw [puts, putBy_len, puts_len Y T k]

theorem puts_inv {Y : Yd} (hY : Inv Y) (T : Int) : ∀ k, Inv (puts Y T k)
  | 0 => hY
  | k + 1 => (puts_inv hY T k).putByY _ _

theorem st_sweepY {Y : Yd} (hY : Inv Y) {t m : Int} (ht : isT Y t = true) (hm : isN m = true) (h1 : stAt Y m ≠ 1) : stAt (sweepY Y t) m ≠ 1 := by
  have hg : ∀ n ∈ gone Y (thAt Y t).l, isN n = true := fun n hn => list_node hY ht (List.mem_filter.1 hn).1
  have := freeAll_nth Y.st (gone Y (thAt Y t).l) hY.st hg m hm
  show nth (freeAll Y.st (gone Y (thAt Y t).l)) m.toNat ≠ 1
  rw [this]
  split
  · decide
  · exact h1

theorem putBy_f {Y : Yd} {t n : Int} (ht : isT Y t = true) (hn : isN n = true) : (stAt Y n = 1 → (putBy Y t n).2.2 = 0) ∧ (stAt Y n ≠ 1 → (putBy Y t n).2.2 = 5) := by
  unfold putBy
  simp only [ht, hn, Bool.and_self, if_true]
  constructor
  · intro h; simp only [h, if_true]; split <;> rfl
  · intro h; simp [h]

theorem putBy_st {Y : Yd} (hY : Inv Y) {t n m : Int} (ht : isT Y t = true) (hn : isN n = true) (hm : isN m = true) (h : m = n ∨ stAt Y m ≠ 1) : stAt (putBy Y t n).1 m ≠ 1 := by
  unfold putBy
  simp only [ht, hn, Bool.and_self, if_true]
  by_cases h1 : stAt Y n = 1
  · simp only [h1, if_true]
    have hp : stAt (putY Y t n) m ≠ 1 := by
      have : stAt (putY Y t n) m = if n = m then 2 else stAt Y m := stAt_setN hY.st hn hm
      rw [this]
      split
      · decide
      · rename_i hne
        rcases h with rfl | h
        · exact absurd rfl hne
        · exact h
    split
    · exact hp
    · exact st_sweepY (hY.putY ht hn h1) (isT_putY.trans ht) hm hp
  · simp only [h1, if_false]
    rcases h with rfl | h
    · exact h1
    · exact h

theorem puts_st {Y : Yd} (hY : Inv Y) {T : Int} (h0 : 0 < T) (hT : T ≤ (Y.th.length : Int)) : ∀ k : Nat, k ≤ 8 → ∀ m : Nat, m < k → stAt (puts Y T k) (m : Int) ≠ 1
  | 0, _, m, hm => by omega
  | k + 1, hk, m, hm => by
    have ht : isT (puts Y T k) ((k : Int) % T) = true := isT_iff.2 (by
      rw [puts_len]
      have := Int.emod_nonneg (k : Int) (show T ≠ 0 by omega)
      have := Int.emod_lt_of_pos (k : Int) h0
      omega)
    rw [puts]
    refine putBy_st (puts_inv hY T k) ht (isN_iff.2 (by omega)) (isN_iff.2 (by omega)) ?_
    by_cases h : m = k
    · left; rw [h]
    · right; exact puts_st hY h0 hT k (by omega) m (by omega)

theorem once_st {Y : Yd} (hY : Inv Y) {m : Int} (hm : isN m = true) (h : stAt Y m ≠ 1) : ∀ k, k ≤ Y.th.length → stAt (once Y k) m ≠ 1
  | 0, _ => h
  | k + 1, hk => st_sweepY (once_inv hY k (by omega)) (isT_iff.2 (by rw [once_len]; omega)) hm (once_st hY hm h k (by omega))

theorem emptied_st (Y : Yd) : ∀ k, (emptied Y k).st = Y.st
  | 0 => rfl
  | k + 1 => emptied_st Y k

/-- All nodes are free. -/
theorem count_free {Y : Yd} (hY : Inv Y) (h : ∀ m : Int, isN m = true → stAt Y m = 0) : count Y 0 = 8 := by
  unfold count
  have : Y.st.filter (fun x => x == (0 : Int)) = Y.st := by
    rw [List.filter_eq_self]
    intro x hx
    obtain ⟨i, hi, rfl⟩ := List.getElem_of_mem hx
    have h8 := hY.st
    have := h (i : Int) (isN_iff.2 (by omega))
    rw [stAt, Int.toNat_natCast, nth_lt hi] at this
    simpa using this
  rw [this, hY.st]; rfl

/-- The end of it all. -/
theorem top_end {Y : Yd} (hY : Inv Y) {T : Nat} (h0 : 0 < T) (hT : Y.th.length = T) :
    count (once (emptied (puts Y T 8) T) T) 0 = 8 ∧ count (once (emptied (puts Y T 8) T) T) 2 = 0 ∧ heldAll (once (emptied (puts Y T 8) T) T) = [] := by
  have hI1 := puts_inv hY (T : Int) 8
  have hl1 : (puts Y (T : Int) 8).th.length = T := by rw [puts_len, hT]
  have hI2 := emptied_inv hI1 T (by omega)
  have hl2 : (emptied (puts Y (T : Int) 8) T).th.length = T := by rw [emptied_len, hl1]
  have hno : NoSlots (emptied (puts Y (T : Int) 8) T) := by
    have := emptied_noSlots (Y := puts Y (T : Int) 8)
    rwa [hl1] at this
  have hI3 := once_inv hI2 T (by omega)
  have hby := once_by hI2 hno
  have hhe := once_held hno
  rw [hl2] at hby hhe
  refine ⟨count_free hI3 (fun m hm => ?_), hby, hhe⟩
  have h1 : stAt (once (emptied (puts Y (T : Int) 8) T) T) m ≠ 1 := by
    refine once_st hI2 hm ?_ T (by omega)
    show nth (emptied (puts Y (T : Int) 8) T).st m.toNat ≠ 1
    rw [emptied_st]
    have hm' := isN_iff.1 hm
    have := puts_st hY (T := (T : Int)) (by omega) (by omega) 8 (Nat.le_refl _) m.toNat (by omega)
    rwa [show ((m.toNat : Nat) : Int) = m by omega] at this
  have h2 : stAt (once (emptied (puts Y (T : Int) 8) T) T) m ≠ 2 := by
    intro e
    have hm2 := (hI3.by' m hm).2 e
    have hall : all (once (emptied (puts Y (T : Int) 8) T) T) = [] := all_nil (fun u hu => once_empty hI2 hno T (by omega) u (by rw [once_len, hl2] at hu; exact hu))
    rw [hall] at hm2
    cases hm2
  rcases hI3.sts' hm with h | h | h
  · exact h
  · exact absurd h h1
  · exact absurd h h2

end Go.Lin.Hz
