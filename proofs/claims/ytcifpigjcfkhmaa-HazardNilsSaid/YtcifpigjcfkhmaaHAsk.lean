/- Walks: what a yard is asked, and the first error. -/
import Derived.Test.YtcifpigjcfkhmaaHLeaf
namespace Go.Lin.Hz

/-- A yard's own block. -/
structure YHead (w : World) (b : Nat) (Y : Yd) : Prop where
  lt : b < w.heap.size
  c0 : w.cell? ⟨b, 0, none⟩ = some (.int .i64 Y.size)
  cs : ∀ i, i < 8 → w.cell? ⟨b, 1 + i, none⟩ = some (.int .i64 (nth Y.st i))
  c9 : ∃ tb cap, w.cell? ⟨b, 9, none⟩ = some (.slice (some ⟨tb, 0, none⟩) Y.th.length cap)

theorem YHead.grew {w w' : World} {b : Nat} {Y : Yd} (h : YHead w b Y) (hg : Grew w w') : YHead w' b Y :=
  ⟨Nat.lt_of_lt_of_le h.lt hg.size, (hg.cell (p := ⟨b, 0, none⟩) h.lt).trans h.c0, fun i hi => (hg.cell (p := ⟨b, 1 + i, none⟩) h.lt).trans (h.cs i hi),
   let ⟨tb, cap, h9⟩ := h.c9; ⟨tb, cap, (hg.cell (p := ⟨b, 9, none⟩) h.lt).trans h9⟩⟩

theorem yCells_at {Y : Yd} {tv : Value} (hst : Y.st.length = 8) : (yCells Y tv)[0]? = some (.int .i64 Y.size) ∧ (∀ i, i < 8 → (yCells Y tv)[1 + i]? = some (.int .i64 (nth Y.st i))) ∧ (yCells Y tv)[9]? = some tv := by
  refine ⟨rfl, fun i hi => ?_, ?_⟩
  · have : i < Y.st.length := by omega
    rw [show 1 + i = i + 1 from by omega]
    simp only [yCells, List.getElem?_cons_succ]
    rw [List.getElem?_append_left (by simp; omega)]
    simp [nth_lt this, this]
  · simp only [yCells, List.getElem?_cons_succ]
    rw [List.getElem?_append_right (by simp; omega)]
    simp [hst]

theorem IsYardAt.head {y t n : TypeId} {w : World} {b : Nat} {Y : Yd} {Fp : List Nat} (h : IsYardAt y t n w b Y Fp) (hI : Inv Y) : YHead w b Y := by
  obtain ⟨tb, cap, cur, lv, h1, _⟩ := h
  obtain ⟨c0, cs, c9⟩ := yCells_at (Y := Y) (tv := .slice (some ⟨tb, 0, none⟩) Y.th.length cap) hI.st
  refine ⟨lt_of_obj h1, ?_, fun i hi => ?_, tb, cap, ?_⟩
  all_goals rw [cell_of_row w b _ _ _ _ h1]
  · simpa using c0
  · simpa using cs i hi
  · simpa using c9

end Go.Lin.Hz
namespace Go.Proofs.Ytcifpigjcfkhmaa
open Go.RowKit Go.Lin Go.Lin.Hz

theorem none_head {Y : Yd} (hI : Inv Y) {b : Nat} {w : World} (hh : YHead w b Y) : ∀ y, Grew w y → Calls Try.prog 56 #[.pointer (some ⟨b, 0, none⟩)] y fun e w' => e = .returned (.bool false) ∧ Grew y w' := by
  intro y hy
  refine (none_at b Y.size y (hh.grew hy).c0).mono ?_
  rintro e w' ⟨rfl, hg⟩
  refine ⟨ret_bool ?_, hg⟩
  have := hI.size
  simp; omega

theorem isThreadY {Y : Yd} (hI : Inv Y) (b : Nat) (t : Int) (w : World) (hh : YHead w b Y) :
    Calls Try.prog 59 #[.pointer (some ⟨b, 0, none⟩), .int .i64 t] w fun e w' => ∃ caps, e = .returned (.func (.func 80) #[] caps) ∧ Says0 80 caps (isT Y t) w' ∧ Grew w w' := by
  refine (isThread_any _ _ _).mono ?_
  rintro e w' ⟨B, rfl, h1, h2, h3, h4, hg⟩
  have hh' := hh.grew hg
  obtain ⟨tb, cap, h9⟩ := hh'.c9
  exact ⟨_, rfl, isThread1_any _ _ b t _ _ _ w' h4 h1 (by omega) h2 hh'.lt h9 hI.th.2, hg⟩

theorem isSlotY (pa : Value) (s : Int) (w : World) : Calls Try.prog 60 #[pa, .int .i64 s] w fun e w' => ∃ caps, e = .returned (.func (.func 81) #[] caps) ∧ Says0 81 caps (isS s) w' ∧ Grew w w' := by
  refine (isSlot_any _ _ _).mono ?_
  rintro e w' ⟨B, rfl, h1, h2, h3, hg⟩
  exact ⟨_, rfl, isSlot1_any _ _ w' h3 h1, hg⟩

theorem isNodeY (pa : Value) (s : Int) (w : World) : Calls Try.prog 58 #[pa, .int .i64 s] w fun e w' => ∃ caps, e = .returned (.func (.func 79) #[] caps) ∧ Says0 79 caps (isN s) w' ∧ Grew w w' := by
  refine (isNode_any _ _ _).mono ?_
  rintro e w' ⟨B, rfl, h1, h2, h3, hg⟩
  exact ⟨_, rfl, isNode1_any _ _ w' h3 h1, hg⟩

def Asks (g : Nat) : Prop := ∀ args w, (callFunc g args).run Try.prog w = .ok (.enter g args) w
theorem asks80 : Asks 80 := fun _ _ => by kernel_rfl
theorem asks81 : Asks 81 := fun _ _ => by kernel_rfl
theorem asks79 : Asks 79 := fun _ _ => by kernel_rfl

theorem ask1 {Y : Yd} (hI : Inv Y) {b : Nat} {w : World} (hh : YHead w b Y) {g1 : Nat} {c1 : Array Value} {p1 : Bool} (e1 : Asks g1) {w1 : World} (hg : Grew w w1) (s1 : Says0 g1 c1 p1 w1) :
    Calls Try.prog 49 #[.pointer (some ⟨b, 0, none⟩), .slice (some ⟨w1.heap.size, 0, none⟩) 1 1] (w1.alloc (.cells #[.func (.func g1) #[] c1] 23)) fun e w' => e = .returned (.int .i64 (if p1 then 0 else 2)) ∧ Grew w1 w' := by
  have hg1 := grew_alloc (grew_refl w1) (.cells #[.func (.func g1) #[] c1] 23)
  refine (asked_some _ _ [⟨g1, c1, p1⟩] _ (none_head hI (hh.grew (grew_trans hg hg1))) ?_ ?_ ?_).mono ?_
  · exact ⟨_, _, rfl, by simp, fun i hi => ⟨_, _, _, rfl, Array.getElem?_eq_getElem (by simp), trivial, by
      obtain rfl : i = 0 := by simp at hi; omega
      simp [Qn.val]⟩⟩
  · intro i hi; obtain rfl : i = 0 := by simp at hi; omega
    exact e1
  · intro i hi _; obtain rfl : i = 0 := by simp at hi; omega
    exact s1.grew hg1
  · rintro e w' ⟨rfl, hx⟩
    exact ⟨by simp, grew_trans hg1 hx⟩

theorem ask2 {Y : Yd} (hI : Inv Y) {b : Nat} {w : World} (hh : YHead w b Y) {g1 g2 : Nat} {c1 c2 : Array Value} {p1 p2 : Bool} (e1 : Asks g1) (e2 : Asks g2) {w1 : World} (hg : Grew w w1) (s1 : Says0 g1 c1 p1 w1) (s2 : p1 = true → Says0 g2 c2 p2 w1) :
    Calls Try.prog 49 #[.pointer (some ⟨b, 0, none⟩), .slice (some ⟨w1.heap.size, 0, none⟩) 2 2] (w1.alloc (.cells #[.func (.func g1) #[] c1, .func (.func g2) #[] c2] 23)) fun e w' => e = .returned (.int .i64 (if p1 && p2 then 0 else 2)) ∧ Grew w1 w' := by
  have hg1 := grew_alloc (grew_refl w1) (.cells #[.func (.func g1) #[] c1, .func (.func g2) #[] c2] 23)
  refine (asked_some _ _ [⟨g1, c1, p1⟩, ⟨g2, c2, p2⟩] _ (none_head hI (hh.grew (grew_trans hg hg1))) ?_ ?_ ?_).mono ?_
  · exact ⟨_, _, rfl, by simp, fun i hi => ⟨_, _, _, rfl, Array.getElem?_eq_getElem (by simp), trivial, by
      obtain rfl | rfl : i = 0 ∨ i = 1 := by simp at hi; omega
      all_goals simp [Qn.val]⟩⟩
  · intro i hi; obtain rfl | rfl : i = 0 ∨ i = 1 := by simp at hi; omega
    · exact e1
    · exact e2
  · intro i hi hj; obtain rfl | rfl : i = 0 ∨ i = 1 := by simp at hi; omega
    · exact s1.grew hg1
    · exact (s2 (hj 0 (by omega))).grew hg1
  · rintro e w' ⟨rfl, hx⟩
    exact ⟨by simp, grew_trans hg1 hx⟩

theorem ask3 {Y : Yd} (hI : Inv Y) {b : Nat} {w : World} (hh : YHead w b Y) {g1 g2 g3 : Nat} {c1 c2 c3 : Array Value} {p1 p2 p3 : Bool} (e1 : Asks g1) (e2 : Asks g2) (e3 : Asks g3) {w1 : World} (hg : Grew w w1) (s1 : Says0 g1 c1 p1 w1) (s2 : Says0 g2 c2 p2 w1) (s3 : Says0 g3 c3 p3 w1) :
    Calls Try.prog 49 #[.pointer (some ⟨b, 0, none⟩), .slice (some ⟨w1.heap.size, 0, none⟩) 3 3] (w1.alloc (.cells #[.func (.func g1) #[] c1, .func (.func g2) #[] c2, .func (.func g3) #[] c3] 23)) fun e w' => e = .returned (.int .i64 (if p1 && p2 && p3 then 0 else 2)) ∧ Grew w1 w' := by
  have hg1 := grew_alloc (grew_refl w1) (.cells #[.func (.func g1) #[] c1, .func (.func g2) #[] c2, .func (.func g3) #[] c3] 23)
  refine (asked_some _ _ [⟨g1, c1, p1⟩, ⟨g2, c2, p2⟩, ⟨g3, c3, p3⟩] _ (none_head hI (hh.grew (grew_trans hg hg1))) ?_ ?_ ?_).mono ?_
  · exact ⟨_, _, rfl, by simp, fun i hi => ⟨_, _, _, rfl, Array.getElem?_eq_getElem (by simp), trivial, by
      obtain rfl | rfl | rfl : i = 0 ∨ i = 1 ∨ i = 2 := by simp at hi; omega
      all_goals simp [Qn.val]⟩⟩
  · intro i hi; obtain rfl | rfl | rfl : i = 0 ∨ i = 1 ∨ i = 2 := by simp at hi; omega
    · exact e1
    · exact e2
    · exact e3
  · intro i hi _; obtain rfl | rfl | rfl : i = 0 ∨ i = 1 ∨ i = 2 := by simp at hi; omega
    · exact s1.grew hg1
    · exact s2.grew hg1
    · exact s3.grew hg1
  · rintro e w' ⟨rfl, hx⟩
    exact ⟨by simp [Bool.and_assoc], grew_trans hg1 hx⟩

set_option maxHeartbeats 1000000 in
theorem state_any {Y : Yd} (hI : Inv Y) (b : Nat) (n : Int) (w : World) (hh : YHead w b Y) :
    Calls Try.prog 20 #[.pointer (some ⟨b, 0, none⟩), .int .i64 n] w fun e w' => e = .returned (.tuple #[.int .i64 (stateOf Y n).1, .int .i64 (stateOf Y n).2]) ∧ Grew w w' := by
  have HH := hid hh
  have hlt := hh.lt
  have hg := grew_refl w
  by_cases hn : isN n = true
  · have hn' := isN_iff.1 hn
    obtain ⟨k, rfl⟩ : ∃ k : Nat, n = k := ⟨n.toNat, by omega⟩
    have hcell := hh.cs k (by omega)
    have hres : stateOf Y (k : Int) = (nth Y.st k, 0) := by simp [stateOf, hn, stAt]
    rw [hres]
    have HRES := hid hres; clear hres
    obtain ⟨v, hv⟩ : ∃ v, nth Y.st k = v := ⟨_, rfl⟩
    rw [hv] at hcell ⊢
    have h7 : k < 8 := by omega
    clear hh hn' hv
    have HN := hid hn; clear hn
    go_enter Try.func20, Try.ntmps20
    go_wp2_with (first
      | (go_at_call 58; with_reducible refine (isNodeY _ _ _).mono ?_; rintro e w1 ⟨q1, rfl, hs1, hx⟩; have S1 := hid hs1; clear hs1; replace hg := grew_trans hg hx; have hc := (bcell hg).1)
      | (go_at_call 49; with_reducible refine (ask1 hI HH.out asks79 hg S1.out).mono ?_; rintro e w2 ⟨rfl, hx⟩; replace hg := grew_trans hg hx; have hc := (bcell hg).1; rw [HN.out]))
    go_ret2
    exact ⟨rfl, hg⟩
  · have hn' : isN n = false := by simpa using hn
    have hres : stateOf Y n = (0, 2) := by simp [stateOf, hn']
    rw [hres]
    clear hh hn
    have HN := hid hn'; clear hn'
    go_enter Try.func20, Try.ntmps20
    go_wp2_with (first
      | (go_at_call 58; with_reducible refine (isNodeY _ _ _).mono ?_; rintro e w1 ⟨q1, rfl, hs1, hx⟩; have S1 := hid hs1; clear hs1; replace hg := grew_trans hg hx; have hc := (bcell hg).1)
      | (go_at_call 49; with_reducible refine (ask1 hI HH.out asks79 hg S1.out).mono ?_; rintro e w2 ⟨rfl, hx⟩; replace hg := grew_trans hg hx; have hc := (bcell hg).1; rw [HN.out]))
    go_ret2
    exact ⟨rfl, hg⟩

end Go.Proofs.Ytcifpigjcfkhmaa
