/- Walks: the reference's Slot, Use, Point, Clear, IsHeld, Count, Held. -/
import Derived.Test.YtcifpigjcfkhmaaHRef2
namespace Go.Proofs.Ytcifpigjcfkhmaa
open Go.RowKit Go.Lin Go.Lin.Hz

set_option maxHeartbeats 2000000 in
theorem rSlot35_any (Y : Yd) (h4 : Y.th.length ≤ 4) (b : Nat) (t s : Int) (w : World) {sb sc lb lc : Nat} {lv : List Value} (hc : RCell w b Y sb sc lb lc lv) :
    Calls Try.prog 35 #[.pointer (some ⟨b, 0, none⟩), .int .i64 t, .int .i64 s] w fun e w' => e = .returned (.tuple #[.int .i64 (slot Y t s).1, .int .i64 (slot Y t s).2]) ∧ Grew w w' := by
  have hlt := hc.lt
  have hlt2 := hc.slt
  have hg := grew_refl w
  have HT := hid (rThreadY (h4 := h4) hc t)
  have HS := hid (fun y => rSlot_any s y)
  cases hp1 : isT Y t <;> cases hp2 : isS s
  case true.true =>
    have ht := isT_iff.1 hp1
    have hs := isS_iff.1 hp2
    obtain ⟨i, rfl⟩ : ∃ i : Nat, t = i := ⟨t.toNat, by omega⟩
    have hi : i < Y.th.length := by omega
    have ca := hc.a i hi
    have cb := hc.b' i hi
    have c10 := hc.c10
    have hres : slot Y (i : Int) s = ((Y.th.getD i noTh).slot s, 0) := by simp [slot, hp1, hp2, thAt]
    rw [hres]
    obtain ⟨x, hx⟩ : ∃ x, (Y.th.getD i noTh).slot s = x := ⟨_, rfl⟩
    obtain ⟨x1, hx1⟩ : ∃ x, (Y.th.getD i noTh).a = x := ⟨_, rfl⟩
    obtain ⟨x2, hx2⟩ : ∃ x, (Y.th.getD i noTh).b = x := ⟨_, rfl⟩
    have hslot : x = if s = 0 then x1 else x2 := by rw [← hx, ← hx1, ← hx2]; rfl
    rw [hx1] at ca
    rw [hx2] at cb
    rw [hx]
    obtain ⟨m, hm⟩ : ∃ m, Y.th.length = m := ⟨_, rfl⟩
    rw [hm] at c10 hi h4
    rw [hp1] at HT
    clear hx hx1 hx2 hres hm ht hp1 hc
    obtain rfl | rfl : s = 0 ∨ s = 1 := by omega
    all_goals
      simp at hslot
      subst hslot
      rw [hp2] at HS
      clear hp2 hs
      go_enter Try.func35, Try.ntmps35
      go_wp2_with (first | (go_at_call 65; with_reducible refine (HT.out _ hg).mono ?_; rintro e w1 ⟨rfl, hx⟩; replace hg := grew_trans hg hx; have hc := (bcell hg).1) | (go_at_call 66; with_reducible refine (HS.out _).mono ?_; rintro e w1 ⟨rfl, hx⟩; replace hg := grew_trans hg hx; have hc := (bcell hg).1))
      go_ret2
      exact ⟨rfl, hg⟩
  all_goals
    have hres : slot Y t s = (0, 2) := by simp [slot, hp1, hp2]
    rw [hres]
    rw [hp1] at HT
    rw [hp2] at HS
    clear hres hp1 hp2 hc
    go_enter Try.func35, Try.ntmps35
    go_wp2_with (first | (go_at_call 65; with_reducible refine (HT.out _ hg).mono ?_; rintro e w1 ⟨rfl, hx⟩; replace hg := grew_trans hg hx; have hc := (bcell hg).1) | (go_at_call 66; with_reducible refine (HS.out _).mono ?_; rintro e w1 ⟨rfl, hx⟩; replace hg := grew_trans hg hx; have hc := (bcell hg).1))
    go_ret2
    exact ⟨rfl, hg⟩

set_option maxHeartbeats 2000000 in
theorem rUse_any (Y : Yd) (hI : Inv Y) (b : Nat) (t s : Int) (w : World) {sb sc lb lc : Nat} {lv : List Value} (hc : RCell w b Y sb sc lb lc lv) :
    Calls Try.prog 36 #[.pointer (some ⟨b, 0, none⟩), .int .i64 t, .int .i64 s] w fun e w' => e = .returned (.tuple #[.int .i64 (use Y t s).1, .int .i64 (use Y t s).2]) ∧ Grew w w' := by
  have h4 := hI.th.2
  have hlt := hc.lt
  have hlt2 := hc.slt
  have hg := grew_refl w
  have HT := hid (rThreadY (h4 := h4) hc t)
  have HS := hid (fun y => rSlot_any s y)
  cases hp1 : isT Y t <;> cases hp2 : isS s
  case true.true =>
    have hsc := slot_cases hI hp1 (s := s)
    have ht := isT_iff.1 hp1
    have hs := isS_iff.1 hp2
    obtain ⟨i, rfl⟩ : ∃ i : Nat, t = i := ⟨t.toNat, by omega⟩
    have hi : i < Y.th.length := by omega
    have ca := hc.a i hi
    have cb := hc.b' i hi
    have c10 := hc.c10
    have hth : thAt Y (i : Int) = Y.th.getD i noTh := rfl
    have hres : use Y (i : Int) s = if (Y.th.getD i noTh).slot s = -1 then (0, 5) else ((Y.th.getD i noTh).slot s, 0) := by simp [use, hp1, hp2, thAt]
    rw [hres]
    rw [hth] at hsc
    obtain ⟨x, hx⟩ : ∃ x, (Y.th.getD i noTh).slot s = x := ⟨_, rfl⟩
    obtain ⟨x1, hx1⟩ : ∃ x, (Y.th.getD i noTh).a = x := ⟨_, rfl⟩
    obtain ⟨x2, hx2⟩ : ∃ x, (Y.th.getD i noTh).b = x := ⟨_, rfl⟩
    have hslot : x = if s = 0 then x1 else x2 := by rw [← hx, ← hx1, ← hx2]; rfl
    rw [hx1] at ca
    rw [hx2] at cb
    rw [hx] at hsc ⊢
    have hx0 : x = -1 ∨ 0 ≤ x := hsc.imp id (fun h => h.2)
    obtain ⟨m, hm⟩ : ∃ m, Y.th.length = m := ⟨_, rfl⟩
    rw [hm] at c10 hi h4
    rw [hp1] at HT
    clear hx hx1 hx2 hres hm ht hp1 hc hsc hth
    rcases hx0 with hxm | hxm
    · rw [if_pos hxm]
      subst hxm
      obtain rfl | rfl : s = 0 ∨ s = 1 := by omega
      all_goals
        simp at hslot
        subst hslot
        rw [hp2] at HS
        clear hp2 hs
        go_enter Try.func36, Try.ntmps36
        go_wp2_with (first | (go_at_call 65; with_reducible refine (HT.out _ hg).mono ?_; rintro e w1 ⟨rfl, hx⟩; replace hg := grew_trans hg hx; have hc := (bcell hg).1) | (go_at_call 66; with_reducible refine (HS.out _).mono ?_; rintro e w1 ⟨rfl, hx⟩; replace hg := grew_trans hg hx; have hc := (bcell hg).1))
        go_ret2
        exact ⟨rfl, hg⟩
    · rw [if_neg (by omega)]
      have hneg : decide (x < 0) = false := by simpa using hxm
      obtain rfl | rfl : s = 0 ∨ s = 1 := by omega
      all_goals
        simp at hslot
        subst hslot
        rw [hp2] at HS
        clear hp2 hs
        go_enter Try.func36, Try.ntmps36
        go_wp2_with (first | (go_at_call 65; with_reducible refine (HT.out _ hg).mono ?_; rintro e w1 ⟨rfl, hx⟩; replace hg := grew_trans hg hx; have hc := (bcell hg).1) | (go_at_call 66; with_reducible refine (HS.out _).mono ?_; rintro e w1 ⟨rfl, hx⟩; replace hg := grew_trans hg hx; have hc := (bcell hg).1))
        go_ret2
        exact ⟨rfl, hg⟩
  all_goals
    have hres : use Y t s = (0, 2) := by simp [use, hp1, hp2]
    rw [hres]
    rw [hp1] at HT
    rw [hp2] at HS
    clear hres hp1 hp2 hc
    go_enter Try.func36, Try.ntmps36
    go_wp2_with (first | (go_at_call 65; with_reducible refine (HT.out _ hg).mono ?_; rintro e w1 ⟨rfl, hx⟩; replace hg := grew_trans hg hx; have hc := (bcell hg).1) | (go_at_call 66; with_reducible refine (HS.out _).mono ?_; rintro e w1 ⟨rfl, hx⟩; replace hg := grew_trans hg hx; have hc := (bcell hg).1))
    go_ret2
    exact ⟨rfl, hg⟩

set_option maxHeartbeats 2000000 in
theorem rClear_any (Y : Yd) (hI : Inv Y) (b : Nat) (Fp : List Nat) (t s : Int) (w : World) (hy : IsRef w b Y Fp) :
    Calls Try.prog 39 #[.pointer (some ⟨b, 0, none⟩), .int .i64 t, .int .i64 s] w fun e w' => e = .returned (.int .i64 (clear Y t s).2) ∧ RDoes w w' b Fp (clear Y t s).1 := by
  have HY := hid hy
  obtain ⟨sb, sc, lb, lc, lv, Lb, hA, rfl⟩ := hy
  have hc := hA.cell
  have HA := hid hA
  have h4 := hI.th.2
  have hlt := hc.lt
  have hlt2 := hc.slt
  have hg := grew_refl w
  have HT := hid (rThreadY (h4 := h4) hc t)
  have HS := hid (fun y => rSlot_any s y)
  have FZ := hid hc.fs
  cases hp1 : isT Y t <;> cases hp2 : isS s
  case true.true =>
    have hres : clear Y t s = (setT Y t ((thAt Y t).put s (-1)), 0) := by simp only [clear, hp1, hp2, Bool.and_self, if_true]
    rw [hres]
    have ht := isT_iff.1 hp1
    have hs := isS_iff.1 hp2
    obtain ⟨i, rfl⟩ : ∃ i : Nat, t = i := ⟨t.toNat, by omega⟩
    have hi : i < Y.th.length := by omega
    have HI := hid hi
    have ca := hc.a i hi
    have cb := hc.b' i hi
    have c10 := hc.c10
    obtain ⟨x1, hx1⟩ : ∃ x, (Y.th.getD i noTh).a = x := ⟨_, rfl⟩
    obtain ⟨x2, hx2⟩ : ∃ x, (Y.th.getD i noTh).b = x := ⟨_, rfl⟩
    rw [hx1] at ca
    rw [hx2] at cb
    obtain ⟨m, hm⟩ : ∃ m, Y.th.length = m := ⟨_, rfl⟩
    rw [hm] at c10 hi h4
    rw [hp1] at HT
    clear hx1 hx2 hres hm ht hp1 hc hA
    obtain rfl | rfl : s = 0 ∨ s = 1 := by omega
    · rw [hp2] at HS
      clear hp2 hs
      go_enter Try.func39, Try.ntmps39
      go_wp2_with (first | (go_at_call 65; with_reducible refine (HT.out _ hg).mono ?_; rintro e w1 ⟨rfl, hx⟩; replace hg := grew_trans hg hx; have hc := (bcell hg).1) | (go_at_call 66; with_reducible refine (HS.out _).mono ?_; rintro e w1 ⟨rfl, hx⟩; replace hg := grew_trans hg hx; have hc := (bcell hg).1; have hfz := (hg.frozen (p := ⟨sb, i * 2, none⟩) hlt2).trans (FZ.out (i * 2)); have hcl := (hg.cell (p := ⟨sb, i * 2, none⟩) hlt2).trans ca))
      go_ret
      exact ⟨rfl, RDoes.set0 HA.out hg HI.out _⟩
    · rw [hp2] at HS
      clear hp2 hs
      go_enter Try.func39, Try.ntmps39
      go_wp2_with (first | (go_at_call 65; with_reducible refine (HT.out _ hg).mono ?_; rintro e w1 ⟨rfl, hx⟩; replace hg := grew_trans hg hx; have hc := (bcell hg).1) | (go_at_call 66; with_reducible refine (HS.out _).mono ?_; rintro e w1 ⟨rfl, hx⟩; replace hg := grew_trans hg hx; have hc := (bcell hg).1; have hfz := (hg.frozen (p := ⟨sb, i * 2 + 1, none⟩) hlt2).trans (FZ.out (i * 2 + 1)); have hcl := (hg.cell (p := ⟨sb, i * 2 + 1, none⟩) hlt2).trans cb))
      go_ret
      exact ⟨rfl, RDoes.set1 HA.out hg HI.out _⟩
  all_goals
    have hres : clear Y t s = (Y, 2) := by simp [clear, hp1, hp2]
    rw [hres]
    rw [hp1] at HT
    rw [hp2] at HS
    clear hres hp1 hp2 hc hA
    go_enter Try.func39, Try.ntmps39
    go_wp2_with (first | (go_at_call 65; with_reducible refine (HT.out _ hg).mono ?_; rintro e w1 ⟨rfl, hx⟩; replace hg := grew_trans hg hx; have hc := (bcell hg).1) | (go_at_call 66; with_reducible refine (HS.out _).mono ?_; rintro e w1 ⟨rfl, hx⟩; replace hg := grew_trans hg hx; have hc := (bcell hg).1))
    go_ret
    exact ⟨rfl, RDoes.same HY.out hg⟩

set_option maxHeartbeats 4000000 in
theorem rPoint_any (Y : Yd) (hI : Inv Y) (b : Nat) (Fp : List Nat) (t s n : Int) (w : World) (hy : IsRef w b Y Fp) :
    Calls Try.prog 38 #[.pointer (some ⟨b, 0, none⟩), .int .i64 t, .int .i64 s, .int .i64 n] w fun e w' => e = .returned (.int .i64 (point Y t s n).2) ∧ RDoes w w' b Fp (point Y t s n).1 := by
  have HY := hid hy
  obtain ⟨sb, sc, lb, lc, lv, Lb, hA, rfl⟩ := hy
  have hc := hA.cell
  have HA := hid hA
  have h4 := hI.th.2
  have hlt := hc.lt
  have hlt2 := hc.slt
  have hg := grew_refl w
  have HT := hid (rThreadY (h4 := h4) hc t)
  have HS := hid (fun y => rSlot_any s y)
  have HN := hid (fun y => rNode_any n y)
  have FZ := hid hc.fs
  cases hp1 : isT Y t <;> cases hp2 : isS s <;> cases hp3 : isN n
  case true.true.true =>
    have hn := isN_iff.1 hp3
    obtain ⟨k, rfl⟩ : ∃ k : Nat, n = k := ⟨n.toNat, by omega⟩
    have hk8 : k < 8 := by omega
    have ht := isT_iff.1 hp1
    have hs := isS_iff.1 hp2
    obtain ⟨i, rfl⟩ : ∃ i : Nat, t = i := ⟨t.toNat, by omega⟩
    have hi : i < Y.th.length := by omega
    have HI := hid hi
    have cst := hc.cs k hk8
    have ca := hc.a i hi
    have cb := hc.b' i hi
    have c10 := hc.c10
    obtain ⟨x1, hx1⟩ : ∃ x, (Y.th.getD i noTh).a = x := ⟨_, rfl⟩
    obtain ⟨x2, hx2⟩ : ∃ x, (Y.th.getD i noTh).b = x := ⟨_, rfl⟩
    rw [hx1] at ca
    rw [hx2] at cb
    obtain ⟨m, hm⟩ : ∃ m, Y.th.length = m := ⟨_, rfl⟩
    rw [hm] at c10 hi h4
    by_cases hst : stAt Y (k : Int) = 1
    · have hres : point Y (i : Int) s (k : Int) = (setT Y i ((thAt Y i).put s k), 0) := by simp only [point, hp1, hp2, hp3, Bool.and_self, if_true, hst]
      rw [hres]
      rw [show nth Y.st k = 1 from hst] at cst
      rw [hp1] at HT
      rw [hp3] at HN
      clear hx1 hx2 hres hm ht hp1 hp3 hc hA hn hst
      obtain rfl | rfl : s = 0 ∨ s = 1 := by omega
      · rw [hp2] at HS
        clear hp2 hs
        go_enter Try.func38, Try.ntmps38
        go_wp2_with (first | (go_at_call 65; with_reducible refine (HT.out _ hg).mono ?_; rintro e w1 ⟨rfl, hx⟩; replace hg := grew_trans hg hx; have hc := (bcell hg).1) | (go_at_call 66; with_reducible refine (HS.out _).mono ?_; rintro e w1 ⟨rfl, hx⟩; replace hg := grew_trans hg hx; have hc := (bcell hg).1) | (go_at_call 63; with_reducible refine (HN.out _).mono ?_; rintro e w1 ⟨rfl, hx⟩; replace hg := grew_trans hg hx; have hc := (bcell hg).1; have hfz := (hg.frozen (p := ⟨sb, i * 2, none⟩) hlt2).trans (FZ.out (i * 2)); have hcl := (hg.cell (p := ⟨sb, i * 2, none⟩) hlt2).trans ca))
        go_ret
        exact ⟨rfl, RDoes.set0 HA.out hg HI.out _⟩
      · rw [hp2] at HS
        clear hp2 hs
        go_enter Try.func38, Try.ntmps38
        go_wp2_with (first | (go_at_call 65; with_reducible refine (HT.out _ hg).mono ?_; rintro e w1 ⟨rfl, hx⟩; replace hg := grew_trans hg hx; have hc := (bcell hg).1) | (go_at_call 66; with_reducible refine (HS.out _).mono ?_; rintro e w1 ⟨rfl, hx⟩; replace hg := grew_trans hg hx; have hc := (bcell hg).1) | (go_at_call 63; with_reducible refine (HN.out _).mono ?_; rintro e w1 ⟨rfl, hx⟩; replace hg := grew_trans hg hx; have hc := (bcell hg).1; have hfz := (hg.frozen (p := ⟨sb, i * 2 + 1, none⟩) hlt2).trans (FZ.out (i * 2 + 1)); have hcl := (hg.cell (p := ⟨sb, i * 2 + 1, none⟩) hlt2).trans cb))
        go_ret
        exact ⟨rfl, RDoes.set1 HA.out hg HI.out _⟩
    · have hres : point Y (i : Int) s (k : Int) = (Y, 5) := by simp only [point, hp1, hp2, hp3, Bool.and_self, if_true, hst, if_false]
      rw [hres]
      obtain ⟨x, hx⟩ : ∃ x, nth Y.st k = x := ⟨_, rfl⟩
      have hne : (x != 1) = true := by rw [← hx]; simpa [stAt] using hst
      rw [hx] at cst
      rw [hp1] at HT
      rw [hp2] at HS
      rw [hp3] at HN
      clear hx1 hx2 hres hm ht hp1 hp2 hp3 hc hA hn hst hx
      go_enter Try.func38, Try.ntmps38
      go_wp2_with (first | (go_at_call 65; with_reducible refine (HT.out _ hg).mono ?_; rintro e w1 ⟨rfl, hx⟩; replace hg := grew_trans hg hx; have hc := (bcell hg).1) | (go_at_call 66; with_reducible refine (HS.out _).mono ?_; rintro e w1 ⟨rfl, hx⟩; replace hg := grew_trans hg hx; have hc := (bcell hg).1) | (go_at_call 63; with_reducible refine (HN.out _).mono ?_; rintro e w1 ⟨rfl, hx⟩; replace hg := grew_trans hg hx; have hc := (bcell hg).1))
      go_ret
      exact ⟨rfl, RDoes.same HY.out hg⟩
  all_goals
    have hres : point Y t s n = (Y, 2) := by simp [point, hp1, hp2, hp3]
    rw [hres]
    rw [hp1] at HT
    rw [hp2] at HS
    rw [hp3] at HN
    clear hres hp1 hp2 hp3 hc hA
    go_enter Try.func38, Try.ntmps38
    go_wp2_with (first | (go_at_call 65; with_reducible refine (HT.out _ hg).mono ?_; rintro e w1 ⟨rfl, hx⟩; replace hg := grew_trans hg hx; have hc := (bcell hg).1) | (go_at_call 66; with_reducible refine (HS.out _).mono ?_; rintro e w1 ⟨rfl, hx⟩; replace hg := grew_trans hg hx; have hc := (bcell hg).1) | (go_at_call 63; with_reducible refine (HN.out _).mono ?_; rintro e w1 ⟨rfl, hx⟩; replace hg := grew_trans hg hx; have hc := (bcell hg).1))
    go_ret
    exact ⟨rfl, RDoes.same HY.out hg⟩

end Go.Proofs.Ytcifpigjcfkhmaa
