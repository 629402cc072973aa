/- The law HazardEnds, walked: it answers true. -/
import Derived.Test.YtcifpigjcfkhmaaHSafes
namespace Go.Lin.Hz

/-- A yard behind two sweeps of each thread below k. -/
def twice (Y : Yd) : Nat → Yd
  | 0 => Y
  | k + 1 => sweepY (sweepY (twice Y k) k) k

def once (Y : Yd) : Nat → Yd
  | 0 => Y
  | k + 1 => sweepY (once Y k) k

/-- A yard whose slots are emptied: of the threads below k both, of k the slots below s. -/
def emptied (Y : Yd) : Nat → Yd
  | 0 => Y
  | k + 1 => setT (setT (emptied Y k) k ((thAt (emptied Y k) k).put 0 (-1))) k ((thAt (setT (emptied Y k) k ((thAt (emptied Y k) k).put 0 (-1))) k).put 1 (-1))

theorem twice_len (Y : Yd) : ∀ k, (twice Y k).th.length = Y.th.length
  | 0 => rfl
  | k + 1 => by rw [twice]; simp [sweepY, twice_len Y k]

theorem once_len (Y : Yd) : ∀ k, (once Y k).th.length = Y.th.length
  | 0 => rfl
  | k + 1 => by rw [once]; simp [sweepY, once_len Y k]

theorem emptied_len (Y : Yd) : ∀ k, (emptied Y k).th.length = Y.th.length
  | 0 => rfl
  | k + 1 => by rw [emptied]; simp [setT, emptied_len Y k]

theorem twice_inv {Y : Yd} (hY : Inv Y) : ∀ k, k ≤ Y.th.length → Inv (twice Y k)
  | 0, _ => hY
  | k + 1, hk => by
    have h := twice_inv hY k (by omega)
    have ht : isT (twice Y k) (k : Int) = true := isT_iff.2 (by rw [twice_len]; omega)
    exact (h.sweepY ht).sweepY (by rw [isT_sweepY]; exact ht)

theorem once_inv {Y : Yd} (hY : Inv Y) : ∀ k, k ≤ Y.th.length → Inv (once Y k)
  | 0, _ => hY
  | k + 1, hk => (once_inv hY k (by omega)).sweepY (isT_iff.2 (by rw [once_len]; omega))

theorem isT_setT {Y : Yd} {t u : Int} {x : Th} : isT (setT Y t x) u = isT Y u := by simp [isT, setT]

theorem emptied_inv {Y : Yd} (hY : Inv Y) : ∀ k, k ≤ Y.th.length → Inv (emptied Y k)
  | 0, _ => hY
  | k + 1, hk => by
    have ht : isT (emptied Y k) (k : Int) = true := isT_iff.2 (by rw [emptied_len]; omega)
    exact ((emptied_inv hY k (by omega)).slotPut ht (.inl rfl)).slotPut (by rw [isT_setT]; exact ht) (.inl rfl)

theorem thAt_setT {Y : Yd} {t : Int} (ht : isT Y t = true) {x : Th} : thAt (setT Y t x) t = x := thAt_set ht
theorem thAt_setT_ne {Y : Yd} {t u : Int} (ht : isT Y t = true) (hu : isT Y u = true) (h : t ≠ u) {x : Th} : thAt (setT Y t x) u = thAt Y u := thAt_set_ne ht hu h

theorem put_both (t : Th) : ((t.put 0 (-1)).put 1 (-1)).a = -1 ∧ ((t.put 0 (-1)).put 1 (-1)).b = -1 := by simp [Th.put]

theorem emptied_at {Y : Yd} : ∀ k, k ≤ Y.th.length → ∀ u : Nat, u < k → (thAt (emptied Y k) u).a = -1 ∧ (thAt (emptied Y k) u).b = -1
  | 0, _, u, hu => by omega
  | k + 1, hk, u, hu => by
    have ht : isT (emptied Y k) (k : Int) = true := isT_iff.2 (by rw [emptied_len]; omega)
    have ht2 : isT (setT (emptied Y k) k ((thAt (emptied Y k) k).put 0 (-1))) (k : Int) = true := by rw [isT_setT]; exact ht
    rw [emptied]
    by_cases h : u = k
    · subst h
      rw [thAt_setT ht2, thAt_setT ht]
      exact put_both _
    · have hu' : isT (emptied Y k) (u : Int) = true := isT_iff.2 (by rw [emptied_len]; omega)
      rw [thAt_setT_ne ht2 (by rw [isT_setT]; exact hu') (by omega), thAt_setT_ne ht hu' (by omega)]
      exact emptied_at k (by omega) u (by omega)

theorem emptied_noSlots {Y : Yd} : NoSlots (emptied Y Y.th.length) := by
  intro t ht
  obtain ⟨i, hi, rfl⟩ := List.getElem_of_mem ht
  rw [emptied_len] at hi
  have h := emptied_at (Y := Y) Y.th.length (Nat.le_refl _) i hi
  have he : thAt (emptied Y Y.th.length) (i : Int) = (emptied Y Y.th.length).th[i]'(by rw [emptied_len]; exact hi) := by
    simp [thAt, List.getD, emptied_len, hi]
  rw [he] at h
  exact h

theorem once_noSlots {Y : Yd} (h : NoSlots Y) : ∀ k, k ≤ Y.th.length → NoSlots (once Y k)
  | 0, _ => h
  | k + 1, hk => noSlots_sweepY (once_noSlots h k (by omega)) (isT_iff.2 (by rw [once_len]; omega))

theorem once_empty {Y : Yd} (hY : Inv Y) (h : NoSlots Y) : ∀ k, k ≤ Y.th.length → ∀ u : Nat, u < k → (thAt (once Y k) u).l = []
  | 0, _, u, hu => by omega
  | k + 1, hk, u, hu => empty_sweepY (once_inv hY k (by omega)) (once_noSlots h k (by omega)) (isT_iff.2 (by rw [once_len]; omega)) (fun u hu => once_empty hY h k (by omega) u hu) u hu

/-- How many sweeps of the threads below k free. -/
def freed (Y : Yd) : Nat → Int
  | 0 => 0
  | k + 1 => freed Y k + sweepN (once Y k) k

theorem freed_count {Y : Yd} (hY : Inv Y) : ∀ k, k ≤ Y.th.length → freed Y k + count (once Y k) 2 = count Y 2
  | 0, _ => by simp [freed, once]
  | k + 1, hk => by
    have h1 := freed_count hY k (by omega)
    have h2 := count_sweepY (once_inv hY k (by omega)) (t := (k : Int)) (isT_iff.2 (by rw [once_len]; omega))
    rw [freed, once]; omega

theorem once_by {Y : Yd} (hY : Inv Y) (h : NoSlots Y) : count (once Y Y.th.length) 2 = 0 :=
  count_nil (once_inv hY _ (Nat.le_refl _)) (fun u hu => once_empty hY h _ (Nat.le_refl _) u (by rwa [once_len] at hu))

theorem once_held {Y : Yd} (h : NoSlots Y) : heldAll (once Y Y.th.length) = [] := heldAll_noSlots (once_noSlots h _ (Nat.le_refl _))

theorem sweepN_range {Y : Yd} (hY : Inv Y) {t : Int} (ht : isT Y t = true) : 0 ≤ sweepN Y t ∧ sweepN Y t ≤ 8 := by
  have h1 := list_le hY ht
  have h2 : (stay Y (thAt Y t).l).length ≤ (thAt Y t).l.length := List.length_filter_le _ _
  unfold sweepN; omega

theorem freed_range {Y : Yd} (hY : Inv Y) : ∀ k, k ≤ Y.th.length → 0 ≤ freed Y k ∧ freed Y k ≤ 8 * k
  | 0, _ => by simp [freed]
  | k + 1, hk => by
    have h1 := freed_range hY k (by omega)
    have h2 := sweepN_range (once_inv hY k (by omega)) (t := (k : Int)) (isT_iff.2 (by rw [once_len]; omega))
    rw [freed]; omega

end Go.Lin.Hz
namespace Go.Proofs.Ytcifpigjcfkhmaa
open Go.RowKit Go.Lin Go.Lin.Hz

/-- The calls on a yard in new blocks. -/
def YPost (base : Nat) (w : World) (B : Nat) (v : Value) (Y' : Yd) (e : Ending) (w' : World) : Prop := e = .returned v ∧ (∃ Fp', YNew base w' B Y' Fp') ∧ Below base w w'

theorem YNew.view {base : Nat} {w : World} {B : Nat} {Y : Yd} {Fp : List Nat} (h : YNew base w B Y Fp) : ∃ tb cap lv, YView w B Y tb cap lv :=
  let ⟨tb, cap, lv, hv, _⟩ := IsYard.view h.yard h.inv
  ⟨tb, cap, lv, hv⟩

theorem doW {base : Nat} {w : World} {B : Nat} {Y Y' : Yd} {Fp : List Nat} {d a bb c n f : Int} (h : YNew base w B Y Fp) (hb : base ≤ w.heap.size) (hr : doD Y d a bb c = (Y', n, f)) :
    Calls Try.prog 18 #[.pointer (some ⟨B, 0, none⟩), .agg #[.int .i64 d, .int .i64 a, .int .i64 bb, .int .i64 c]] w (YPost base w B (.tuple #[.int .i64 n, .int .i64 f]) Y') := by
  refine (do_any Y h.inv B Fp d a bb c w h.yard).mono ?_
  intro e w' hd
  unfold DoPost at hd
  have hI := h.inv.doD d a bb c
  rw [hr] at hd hI
  obtain ⟨he, hd⟩ := hd
  obtain ⟨F, h1, h2, -, -⟩ := h.does hb hd hI
  exact ⟨he, ⟨F, h1⟩, h2⟩

theorem sweepW {base : Nat} {w : World} {B : Nat} {Y : Yd} {Fp : List Nat} {t : Int} (h : YNew base w B Y Fp) (hb : base ≤ w.heap.size) (ht : isT Y t = true) :
    Calls Try.prog 24 #[.pointer (some ⟨B, 0, none⟩), .int .i64 t] w (YPost base w B (.tuple #[.int .i64 (sweepN Y t), .int .i64 0]) (sweepY Y t)) := by
  refine (sweepD_any Y h.inv B Fp t w h.yard).mono ?_
  rintro e w' ⟨he, hd⟩
  have hr : sweep Y t = (sweepY Y t, sweepN Y t, 0) := by simp only [sweep, ht, if_true]
  rw [hr] at he hd
  obtain ⟨F, h1, h2, -, -⟩ := h.does hb hd (h.inv.sweepY ht)
  exact ⟨he, ⟨F, h1⟩, h2⟩

theorem clearW {base : Nat} {w : World} {B : Nat} {Y : Yd} {Fp : List Nat} {t s : Int} (h : YNew base w B Y Fp) (hb : base ≤ w.heap.size) (ht : isT Y t = true) (hs : isS s = true) :
    Calls Try.prog 25 #[.pointer (some ⟨B, 0, none⟩), .int .i64 t, .int .i64 s] w (YPost base w B (.int .i64 0) (setT Y t ((thAt Y t).put s (-1)))) := by
  refine (clear_any Y h.inv B Fp t s w h.yard).mono ?_
  rintro e w' ⟨he, hd⟩
  have hr : clear Y t s = (setT Y t ((thAt Y t).put s (-1)), 0) := by simp only [clear, ht, hs, Bool.and_self, if_true]
  rw [hr] at he hd
  obtain ⟨F, h1, h2, -, -⟩ := h.does hb hd (h.inv.slotPut ht (.inl rfl))
  exact ⟨he, ⟨F, h1⟩, h2⟩

theorem putByW {base : Nat} {w : World} {B : Nat} {Y Y' : Yd} {Fp : List Nat} {t n r f : Int} (h : YNew base w B Y Fp) (hb : base ≤ w.heap.size) (hr : putBy Y t n = (Y', r, f)) :
    Calls Try.prog 28 #[.pointer (some ⟨B, 0, none⟩), .int .i64 t, .int .i64 n] w (YPost base w B (.tuple #[.int .i64 r, .int .i64 f]) Y') := by
  refine (putBy_any Y h.inv B Fp t n w h.yard).mono ?_
  rintro e w' ⟨he, hd⟩
  have hI := h.inv.putByY t n
  rw [hr] at he hd hI
  obtain ⟨F, h1, h2, -, -⟩ := h.does hb hd hI
  exact ⟨he, ⟨F, h1⟩, h2⟩

theorem byW {base : Nat} {w : World} {B : Nat} {Y : Yd} {Fp : List Nat} (h : YNew base w B Y Fp) : Calls Try.prog 26 #[.pointer (some ⟨B, 0, none⟩)] w fun e w' => e = .returned (.int .i64 (count Y 2)) ∧ Grew w w' :=
  let ⟨_, _, _, hv⟩ := h.view
  by26_any Y h.inv B w hv.head

theorem freeW {base : Nat} {w : World} {B : Nat} {Y : Yd} {Fp : List Nat} (h : YNew base w B Y Fp) : Calls Try.prog 29 #[.pointer (some ⟨B, 0, none⟩)] w fun e w' => e = .returned (.int .i64 (count Y 0)) ∧ Grew w w' :=
  let ⟨_, _, _, hv⟩ := h.view
  free29_any Y h.inv B w hv.head

theorem heldW {base : Nat} {w : World} {B : Nat} {Y : Yd} {Fp : List Nat} (h : YNew base w B Y Fp) : Calls Try.prog 19 #[.pointer (some ⟨B, 0, none⟩)] w fun e w' => ∃ a c, e = .returned (.slice a (heldAll Y).length c) ∧ IsInts Any w' (.slice a (heldAll Y).length c) (heldAll Y) ∧ Grew w w' := by
  obtain ⟨tb, cap, lv, hv⟩ := h.view
  refine (held19_any Y h.inv B tb cap lv w hv).mono ?_
  rintro e w' ⟨u, rfl, hs, hg⟩
  obtain ⟨a, c, rfl, -⟩ := hs.shape
  exact ⟨a, c, rfl, seg_ints hs, hg⟩

theorem stateW {base : Nat} {w : World} {B : Nat} {Y : Yd} {Fp : List Nat} {n : Int} (h : YNew base w B Y Fp) (hn : isN n = true) : Calls Try.prog 20 #[.pointer (some ⟨B, 0, none⟩), .int .i64 n] w fun e w' => e = .returned (.tuple #[.int .i64 (stAt Y n), .int .i64 0]) ∧ Grew w w' := by
  obtain ⟨tb, cap, lv, hv⟩ := h.view
  have := state_any h.inv B n w hv.head
  simpa [stateOf, hn] using this

end Go.Proofs.Ytcifpigjcfkhmaa
