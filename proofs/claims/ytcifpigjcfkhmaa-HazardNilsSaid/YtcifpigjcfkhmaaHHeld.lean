/- Walks: whether a node is held; Slot, Use. -/
import Derived.Test.YtcifpigjcfkhmaaHIdx
namespace Go.Proofs.Ytcifpigjcfkhmaa
open Go.RowKit Go.Lin Go.Lin.Hz

/-- A yard as it is read: its own block, its threads' block. -/
structure YView (w : World) (b : Nat) (Y : Yd) (tb cap : Nat) (lv : List Value) : Prop where
  head : YHead w b Y
  c9 : w.cell? ⟨b, 9, none⟩ = some (.slice (some ⟨tb, 0, none⟩) Y.th.length cap)
  th : ThAt w tb Y.th lv

theorem YView.grew {w w' : World} {b : Nat} {Y : Yd} {tb cap : Nat} {lv : List Value} (h : YView w b Y tb cap lv) (hg : Grew w w') : YView w' b Y tb cap lv :=
  ⟨h.head.grew hg, (hg.cell (p := ⟨b, 9, none⟩) h.head.lt).trans h.c9, h.th.grew hg⟩

end Go.Proofs.Ytcifpigjcfkhmaa
namespace Go.Proofs.Ytcifpigjcfkhmaa
open Go.RowKit Go.Lin Go.Lin.Hz

set_option maxHeartbeats 1000000 in
theorem contains76_any (th : List Th) (lv : List Value) (tb cap B : Nat) (n : Int) (w : World) (ht : ThAt w tb th lv) (hn : th.length ≤ 4) (hlt : B < w.heap.size) (h : w.cell? ⟨B, 0, none⟩ = some (.int .i64 n)) :
    Calls Try.prog 76 #[.slice (some ⟨tb, 0, none⟩) th.length cap, .func (.func 77) #[] #[.pointer (some ⟨B, 0, none⟩)]] w fun e w' => e = .returned (.bool (th.any fun t => t.has n)) ∧ Grew w w' := by
  obtain ⟨p, hp⟩ : ∃ p, (th.any fun t => t.has n) = p := ⟨_, rfl⟩
  have HI := hid (fun (y : World) (hy : Grew w y) => indexTh84_any th lv tb cap B n y (ht.grew hy) hn (Nat.lt_of_lt_of_le hlt hy.size) ((hy.cell (p := ⟨B, 0, none⟩) hlt).trans h))
  rw [hp] at HI ⊢
  obtain ⟨m, hm⟩ : ∃ m, th.length = m := ⟨_, rfl⟩
  rw [hm] at HI ⊢
  clear hp ht h hlt hn
  have hg := grew_refl w
  go_enter Try.func76, Try.ntmps76
  go_wp2_with (go_at_call 84; with_reducible refine (HI.out _ hg).mono ?_; rintro e w1 ⟨r, rfl, hr, hx⟩; have HR := hid hr.out; clear hr; replace hg := grew_trans hg hx; have hc := (bcell hg).1)
  go_ret
  exact ⟨ret_bool HR.out, hg⟩

set_option maxHeartbeats 1000000 in
theorem held57_any (Y : Yd) (h4 : Y.th.length ≤ 4) (b tb cap : Nat) (lv : List Value) (n : Int) (w : World) (hv : YView w b Y tb cap lv) :
    Calls Try.prog 57 #[.pointer (some ⟨b, 0, none⟩), .int .i64 n] w fun e w' => e = .returned (.bool (held Y n)) ∧ Grew w w' := by
  obtain ⟨W0, hW0, g0, k0, hz⟩ := box1 w (.int .i64 n) 3
  have hV := hv.grew g0
  have HC := hid (fun (y : World) (hy : Grew W0 y) => contains76_any Y.th lv tb cap w.heap.size n y (hV.grew hy).th h4 (Nat.lt_of_lt_of_le hz hy.size) ((hy.cell (p := ⟨w.heap.size, 0, none⟩) hz).trans k0))
  have c9 := hV.c9
  obtain ⟨m, hm⟩ : ∃ m, Y.th.length = m := ⟨_, rfl⟩
  rw [hm] at HC c9
  clear hv hV hm h4
  have hg := grew_refl W0
  obtain ⟨p, hp⟩ : ∃ p, held Y n = p := ⟨_, rfl⟩
  have HC2 : ∀ y, Grew W0 y → Calls Try.prog 76 #[.slice (some ⟨tb, 0, none⟩) m cap, .func (.func 77) #[] #[.pointer (some ⟨w.heap.size, 0, none⟩)]] y fun e w' => e = .returned (.bool p) ∧ Grew y w' := by
    rw [← hp]; exact HC.out
  rw [hp]
  have HC3 := hid HC2
  clear hp HC HC2
  go_enter Try.func57, Try.ntmps57
  go_wp2_with (go_at_call 76; with_reducible refine (HC3.out _ hg).mono ?_; rintro e w1 ⟨rfl, hx⟩; replace hg := grew_trans hg hx; have hc := (bcell hg).1)
  go_ret
  exact ⟨rfl, grew_trans g0 hg⟩

set_option maxHeartbeats 1000000 in
theorem slot_any (Y : Yd) (hI : Inv Y) (b tb cap : Nat) (lv : List Value) (t s : Int) (w : World) (hv : YView w b Y tb cap lv) :
    Calls Try.prog 22 #[.pointer (some ⟨b, 0, none⟩), .int .i64 t, .int .i64 s] w fun e w' => e = .returned (.tuple #[.int .i64 (slot Y t s).1, .int .i64 (slot Y t s).2]) ∧ Grew w w' := by
  have HV := hid hv
  have hh := hv.head
  have HH := hid hh
  have hlt := hh.lt
  have hlt2 := hv.th.lt
  have hg := grew_refl w
  have HT := hid (fun (y : World) (hy : Grew w y) => isThreadY hI b t y (hh.grew hy))
  by_cases ht : isT Y t = true
  · by_cases hs : isS s = true
    · have ht' := isT_iff.1 ht
      have hs' := isS_iff.1 hs
      obtain ⟨i, rfl⟩ : ∃ i : Nat, t = i := ⟨t.toNat, by omega⟩
      have c9 := hv.c9
      obtain ⟨m, hm⟩ : ∃ m, Y.th.length = m := ⟨_, rfl⟩
      have him : i < m := by omega
      have hm4 : m ≤ 4 := by have := hI.th.2; omega
      have ca := hv.th.a i (by omega)
      have cb := hv.th.b i (by omega)
      have hres : slot Y (i : Int) s = ((Y.th.getD i noTh).slot s, 0) := by simp [slot, ht, hs, thAt]
      rw [hres]
      obtain ⟨x, hx⟩ : ∃ x, (Y.th.getD i noTh).slot s = x := ⟨_, rfl⟩
      obtain ⟨x1, hx1⟩ : ∃ x, (Y.th.getD i noTh).a = x := ⟨_, rfl⟩
      obtain ⟨x2, hx2⟩ : ∃ x, (Y.th.getD i noTh).b = x := ⟨_, rfl⟩
      rw [hx1] at ca
      rw [hx2] at cb
      rw [hm] at c9
      have hslot : x = if s = 0 then x1 else x2 := by rw [← hx, ← hx1, ← hx2]; rfl
      rw [hx]
      have HB := hid (show (isT Y (i : Int) && isS s) = true by rw [ht, hs]; rfl)
      clear hx hx1 hx2 hres hm ht' ht hs hv hh
      obtain rfl | rfl : s = 0 ∨ s = 1 := by omega
      all_goals
        simp at hslot
        subst hslot
        go_enter Try.func22, Try.ntmps22
        go_wp2_with (first
          | (go_at_call 59; with_reducible refine (HT.out _ hg).mono ?_; rintro e w1 ⟨q1, rfl, hs1, hx⟩; have S1 := hid hs1; clear hs1; replace hg := grew_trans hg hx; have hc := (bcell hg).1)
          | (go_at_call 60; with_reducible refine (isSlotY _ _ _).mono ?_; rintro e w2 ⟨q2, rfl, hs2, hx⟩; have S2 := hid hs2; have S1' := hid (S1.out.grew hx); clear hs2; replace hg := grew_trans hg hx; have hc := (bcell hg).1)
          | (go_at_call 49; with_reducible refine (ask2 hI HH.out asks80 asks81 hg S1'.out (fun _ => S2.out)).mono ?_; rintro e w3 ⟨rfl, hx⟩; replace hg := grew_trans hg hx; have hc := (bcell hg).1; rw [HB.out]))
        go_ret2
        exact ⟨rfl, hg⟩
    · have hb : (isT Y t && isS s) = false := by simp [ht, hs]
      have hres : slot Y t s = (0, 2) := by simp [slot, hb]
      rw [hres]
      have HB := hid hb
      clear hb hres hv hh ht hs
      go_enter Try.func22, Try.ntmps22
      go_wp2_with (first
        | (go_at_call 59; with_reducible refine (HT.out _ hg).mono ?_; rintro e w1 ⟨q1, rfl, hs1, hx⟩; have S1 := hid hs1; clear hs1; replace hg := grew_trans hg hx; have hc := (bcell hg).1)
        | (go_at_call 60; with_reducible refine (isSlotY _ _ _).mono ?_; rintro e w2 ⟨q2, rfl, hs2, hx⟩; have S2 := hid hs2; have S1' := hid (S1.out.grew hx); clear hs2; replace hg := grew_trans hg hx; have hc := (bcell hg).1)
        | (go_at_call 49; with_reducible refine (ask2 hI HH.out asks80 asks81 hg S1'.out (fun _ => S2.out)).mono ?_; rintro e w3 ⟨rfl, hx⟩; replace hg := grew_trans hg hx; have hc := (bcell hg).1; rw [HB.out]))
      go_ret2
      exact ⟨rfl, hg⟩
  · have hb : (isT Y t && isS s) = false := by simp [ht]
    have hres : slot Y t s = (0, 2) := by simp [slot, hb]
    rw [hres]
    have HB := hid hb
    clear hb hres hv hh ht
    go_enter Try.func22, Try.ntmps22
    go_wp2_with (first
      | (go_at_call 59; with_reducible refine (HT.out _ hg).mono ?_; rintro e w1 ⟨q1, rfl, hs1, hx⟩; have S1 := hid hs1; clear hs1; replace hg := grew_trans hg hx; have hc := (bcell hg).1)
      | (go_at_call 60; with_reducible refine (isSlotY _ _ _).mono ?_; rintro e w2 ⟨q2, rfl, hs2, hx⟩; have S2 := hid hs2; have S1' := hid (S1.out.grew hx); clear hs2; replace hg := grew_trans hg hx; have hc := (bcell hg).1)
      | (go_at_call 49; with_reducible refine (ask2 hI HH.out asks80 asks81 hg S1'.out (fun _ => S2.out)).mono ?_; rintro e w3 ⟨rfl, hx⟩; replace hg := grew_trans hg hx; have hc := (bcell hg).1; rw [HB.out]))
    go_ret2
    exact ⟨rfl, hg⟩

end Go.Proofs.Ytcifpigjcfkhmaa
