/- Walks: Clear, Point, Use. -/
import Derived.Test.YtcifpigjcfkhmaaHTake
namespace Go.Proofs.Ytcifpigjcfkhmaa
open Go.RowKit Go.Lin Go.Lin.Hz

theorem Does.set0 {w w' : World} {b tb cap : Nat} {lv : List Value} {Y : Yd} {Fp : List Nat} (h : IsYard w b Y Fp) (hI : Inv Y) (hv : YView w b Y tb cap lv) (hg : Grew w w') {i : Nat} (hi : i < Y.th.length) (v : Int) (hb : tb ∈ Fp) :
    Does w (w'.setCell ⟨tb, i * 3, none⟩ (.int .i64 v)) b Fp (setT Y i ((thAt Y i).put 0 v)) := Does.setSlot h hI hv hg hi (.inl rfl) v hb

theorem Does.set1 {w w' : World} {b tb cap : Nat} {lv : List Value} {Y : Yd} {Fp : List Nat} (h : IsYard w b Y Fp) (hI : Inv Y) (hv : YView w b Y tb cap lv) (hg : Grew w w') {i : Nat} (hi : i < Y.th.length) (v : Int) (hb : tb ∈ Fp) :
    Does w (w'.setCell ⟨tb, i * 3 + 1, none⟩ (.int .i64 v)) b Fp (setT Y i ((thAt Y i).put 1 v)) := Does.setSlot h hI hv hg hi (.inr rfl) v hb

set_option maxHeartbeats 1000000 in
theorem clear_any (Y : Yd) (hI : Inv Y) (b : Nat) (Fp : List Nat) (t s : Int) (w : World) (hy : IsYard w b Y Fp) :
    Calls Try.prog 25 #[.pointer (some ⟨b, 0, none⟩), .int .i64 t, .int .i64 s] w fun e w' => e = .returned (.int .i64 (clear Y t s).2) ∧ Does w w' b Fp (clear Y t s).1 := by
  obtain ⟨tb, cap, lv, hv, -, fz, -, hbF⟩ := IsYard.view hy hI
  have HY := hid hy
  have HV := hid hv
  have hh := hv.head
  have HH := hid hh
  have hlt := hh.lt
  have hlt2 := hv.th.lt
  have hg := grew_refl w
  have HT := hid (fun (y : World) (hy : Grew w y) => isThreadY hI b t y (hh.grew hy))
  have FZ := hid fz
  by_cases hb : (isT Y t && isS s) = true
  · have HB := hid hb
    have hres : clear Y t s = (setT Y t ((thAt Y t).put s (-1)), 0) := by simp only [clear, hb, if_true]
    rw [hres]
    simp only [Bool.and_eq_true] at hb
    obtain ⟨ht, hs⟩ := hb
    have htt := ht
    rw [isT_iff] at htt
    rw [isS_iff] at hs
    obtain ⟨i, rfl⟩ : ∃ i : Nat, t = i := ⟨t.toNat, by omega⟩
    have c9 := hv.c9
    obtain ⟨m, hm⟩ : ∃ m, Y.th.length = m := ⟨_, rfl⟩
    have him : i < m := by omega
    have HIM := hid (show i < Y.th.length by omega)
    have hm4 : m ≤ 4 := by have := hI.th.2; omega
    have ca := hv.th.a i (by omega)
    have cb := hv.th.b i (by omega)
    rw [hm] at c9
    clear hres hm htt ht hv hh fz
    obtain rfl | rfl : s = 0 ∨ s = 1 := by omega
    · have hcc := ca
      go_enter Try.func25, Try.ntmps25
      go_wp2_with (first
        | (go_at_call 59; with_reducible refine (HT.out _ hg).mono ?_; rintro e w1 ⟨q1, rfl, hs1, hx⟩; have S1 := hid hs1; clear hs1; replace hg := grew_trans hg hx; have hc := (bcell hg).1)
        | (go_at_call 60; with_reducible refine (isSlotY _ _ _).mono ?_; rintro e w2 ⟨q2, rfl, hs2, hx⟩; have S2 := hid hs2; have S1' := hid (S1.out.grew hx); clear hs2; replace hg := grew_trans hg hx; have hc := (bcell hg).1)
        | (go_at_call 49; with_reducible refine (ask2 hI HH.out asks80 asks81 hg S1'.out (fun _ => S2.out)).mono ?_; rintro e w3 ⟨rfl, hx⟩; replace hg := grew_trans hg hx; have hc := (bcell hg).1; rw [HB.out]; have hfz := (hg.frozen (p := ⟨tb, i * 3, none⟩) hlt2).trans (FZ.out (i * 3)); have hcl := (hg.cell (p := ⟨tb, i * 3, none⟩) hlt2).trans hcc))
      go_ret
      exact ⟨rfl, Does.set0 HY.out hI HV.out hg HIM.out _ hbF⟩
    · have hcc := cb
      go_enter Try.func25, Try.ntmps25
      go_wp2_with (first
        | (go_at_call 59; with_reducible refine (HT.out _ hg).mono ?_; rintro e w1 ⟨q1, rfl, hs1, hx⟩; have S1 := hid hs1; clear hs1; replace hg := grew_trans hg hx; have hc := (bcell hg).1)
        | (go_at_call 60; with_reducible refine (isSlotY _ _ _).mono ?_; rintro e w2 ⟨q2, rfl, hs2, hx⟩; have S2 := hid hs2; have S1' := hid (S1.out.grew hx); clear hs2; replace hg := grew_trans hg hx; have hc := (bcell hg).1)
        | (go_at_call 49; with_reducible refine (ask2 hI HH.out asks80 asks81 hg S1'.out (fun _ => S2.out)).mono ?_; rintro e w3 ⟨rfl, hx⟩; replace hg := grew_trans hg hx; have hc := (bcell hg).1; rw [HB.out]; have hfz := (hg.frozen (p := ⟨tb, i * 3 + 1, none⟩) hlt2).trans (FZ.out (i * 3 + 1)); have hcl := (hg.cell (p := ⟨tb, i * 3 + 1, none⟩) hlt2).trans hcc))
      go_ret
      exact ⟨rfl, Does.set1 HY.out hI HV.out hg HIM.out _ hbF⟩
  · have hb' : (isT Y t && isS s) = false := by simpa using hb
    have hres : clear Y t s = (Y, 2) := by simp [clear, hb']
    rw [hres]
    have HB := hid hb'
    clear hb hb' hres hv hh fz
    go_enter Try.func25, Try.ntmps25
    go_wp2_with (first
      | (go_at_call 59; with_reducible refine (HT.out _ hg).mono ?_; rintro e w1 ⟨q1, rfl, hs1, hx⟩; have S1 := hid hs1; clear hs1; replace hg := grew_trans hg hx; have hc := (bcell hg).1)
      | (go_at_call 60; with_reducible refine (isSlotY _ _ _).mono ?_; rintro e w2 ⟨q2, rfl, hs2, hx⟩; have S2 := hid hs2; have S1' := hid (S1.out.grew hx); clear hs2; replace hg := grew_trans hg hx; have hc := (bcell hg).1)
      | (go_at_call 49; with_reducible refine (ask2 hI HH.out asks80 asks81 hg S1'.out (fun _ => S2.out)).mono ?_; rintro e w3 ⟨rfl, hx⟩; replace hg := grew_trans hg hx; have hc := (bcell hg).1; rw [HB.out]))
    go_ret
    exact ⟨rfl, Does.same HY.out hg⟩

set_option maxHeartbeats 1000000 in
theorem point_any (Y : Yd) (hI : Inv Y) (b : Nat) (Fp : List Nat) (t s n : Int) (w : World) (hy : IsYard w b Y Fp) :
    Calls Try.prog 37 #[.pointer (some ⟨b, 0, none⟩), .int .i64 t, .int .i64 s, .int .i64 n] w fun e w' => e = .returned (.int .i64 (point Y t s n).2) ∧ Does w w' b Fp (point Y t s n).1 := by
  obtain ⟨tb, cap, lv, hv, -, fz, -, hbF⟩ := IsYard.view hy hI
  have HY := hid hy
  have HV := hid hv
  have hh := hv.head
  have HH := hid hh
  have hlt := hh.lt
  have hlt2 := hv.th.lt
  have hg := grew_refl w
  have HT := hid (fun (y : World) (hy : Grew w y) => isThreadY hI b t y (hh.grew hy))
  have FZ := hid fz
  by_cases hb : (isT Y t && isS s && isN n) = true
  · have HB := hid hb
    have hbb := hb
    simp only [Bool.and_eq_true] at hbb
    obtain ⟨⟨ht, hs⟩, hn⟩ := hbb
    rw [isN_iff] at hn
    obtain ⟨k, rfl⟩ : ∃ k : Nat, n = k := ⟨n.toNat, by omega⟩
    have hk8 : k < 8 := by omega
    have hcn := hh.cs k hk8
    obtain ⟨x, hx⟩ : ∃ x, nth Y.st k = x := ⟨_, rfl⟩
    rw [hx] at hcn
    by_cases h1 : x = 1
    · subst h1
      have hres : point Y t s (k : Int) = (setT Y t ((thAt Y t).put s k), 0) := by simp only [point, hb, if_true, stAt, Int.toNat_natCast, hx]
      rw [hres]
      have htt := ht
      rw [isT_iff] at htt
      rw [isS_iff] at hs
      obtain ⟨i, rfl⟩ : ∃ i : Nat, t = i := ⟨t.toNat, by omega⟩
      have c9 := hv.c9
      obtain ⟨m, hm⟩ : ∃ m, Y.th.length = m := ⟨_, rfl⟩
      have him : i < m := by omega
      have HIM := hid (show i < Y.th.length by omega)
      have hm4 : m ≤ 4 := by have := hI.th.2; omega
      have ca := hv.th.a i (by omega)
      have cb := hv.th.b i (by omega)
      rw [hm] at c9
      clear hres hm htt ht hv hh fz hb hx hn
      obtain rfl | rfl : s = 0 ∨ s = 1 := by omega
      · have hcc := ca
        go_enter Try.func37, Try.ntmps37
        go_wp2_with (first
          | (go_at_call 59; with_reducible refine (HT.out _ hg).mono ?_; rintro e w1 ⟨q1, rfl, hs1, hx⟩; have S1 := hid hs1; clear hs1; replace hg := grew_trans hg hx; have hc := (bcell hg).1)
          | (go_at_call 60; with_reducible refine (isSlotY _ _ _).mono ?_; rintro e w2 ⟨q2, rfl, hs2, hx⟩; have S2 := hid hs2; have S1' := hid (S1.out.grew hx); clear hs2; replace hg := grew_trans hg hx; have hc := (bcell hg).1)
          | (go_at_call 58; with_reducible refine (isNodeY _ _ _).mono ?_; rintro e w5 ⟨q5, rfl, hs5, hx⟩; have S5 := hid hs5; have S1'' := hid (S1'.out.grew hx); have S2'' := hid (S2.out.grew hx); clear hs5; replace hg := grew_trans hg hx; have hc := (bcell hg).1)
          | (go_at_call 49; with_reducible refine (ask3 hI HH.out asks80 asks81 asks79 hg S1''.out S2''.out S5.out).mono ?_; rintro e w3 ⟨rfl, hx⟩; replace hg := grew_trans hg hx; have hc := (bcell hg).1; rw [HB.out]; have hfz := (hg.frozen (p := ⟨tb, i * 3, none⟩) hlt2).trans (FZ.out (i * 3)); have hcl := (hg.cell (p := ⟨tb, i * 3, none⟩) hlt2).trans hcc))
        go_ret
        exact ⟨rfl, Does.set0 HY.out hI HV.out hg HIM.out _ hbF⟩
      · have hcc := cb
        go_enter Try.func37, Try.ntmps37
        go_wp2_with (first
          | (go_at_call 59; with_reducible refine (HT.out _ hg).mono ?_; rintro e w1 ⟨q1, rfl, hs1, hx⟩; have S1 := hid hs1; clear hs1; replace hg := grew_trans hg hx; have hc := (bcell hg).1)
          | (go_at_call 60; with_reducible refine (isSlotY _ _ _).mono ?_; rintro e w2 ⟨q2, rfl, hs2, hx⟩; have S2 := hid hs2; have S1' := hid (S1.out.grew hx); clear hs2; replace hg := grew_trans hg hx; have hc := (bcell hg).1)
          | (go_at_call 58; with_reducible refine (isNodeY _ _ _).mono ?_; rintro e w5 ⟨q5, rfl, hs5, hx⟩; have S5 := hid hs5; have S1'' := hid (S1'.out.grew hx); have S2'' := hid (S2.out.grew hx); clear hs5; replace hg := grew_trans hg hx; have hc := (bcell hg).1)
          | (go_at_call 49; with_reducible refine (ask3 hI HH.out asks80 asks81 asks79 hg S1''.out S2''.out S5.out).mono ?_; rintro e w3 ⟨rfl, hx⟩; replace hg := grew_trans hg hx; have hc := (bcell hg).1; rw [HB.out]; have hfz := (hg.frozen (p := ⟨tb, i * 3 + 1, none⟩) hlt2).trans (FZ.out (i * 3 + 1)); have hcl := (hg.cell (p := ⟨tb, i * 3 + 1, none⟩) hlt2).trans hcc))
        go_ret
        exact ⟨rfl, Does.set1 HY.out hI HV.out hg HIM.out _ hbF⟩
    · have hres : point Y t s (k : Int) = (Y, 5) := by simp only [point, hb, if_true, stAt, Int.toNat_natCast, hx]; rw [if_neg h1]
      have hne : (x != 1) = true := by simpa using h1
      rw [hres]
      clear hres hv hh fz hb hx hn h1 ht hs
      go_enter Try.func37, Try.ntmps37
      go_wp2_with (first
        | (go_at_call 59; with_reducible refine (HT.out _ hg).mono ?_; rintro e w1 ⟨q1, rfl, hs1, hx⟩; have S1 := hid hs1; clear hs1; replace hg := grew_trans hg hx; have hc := (bcell hg).1)
        | (go_at_call 60; with_reducible refine (isSlotY _ _ _).mono ?_; rintro e w2 ⟨q2, rfl, hs2, hx⟩; have S2 := hid hs2; have S1' := hid (S1.out.grew hx); clear hs2; replace hg := grew_trans hg hx; have hc := (bcell hg).1)
        | (go_at_call 58; with_reducible refine (isNodeY _ _ _).mono ?_; rintro e w5 ⟨q5, rfl, hs5, hx⟩; have S5 := hid hs5; have S1'' := hid (S1'.out.grew hx); have S2'' := hid (S2.out.grew hx); clear hs5; replace hg := grew_trans hg hx; have hc := (bcell hg).1)
        | (go_at_call 49; with_reducible refine (ask3 hI HH.out asks80 asks81 asks79 hg S1''.out S2''.out S5.out).mono ?_; rintro e w3 ⟨rfl, hx⟩; replace hg := grew_trans hg hx; have hc := (bcell hg).1; rw [HB.out]))
      go_ret
      exact ⟨rfl, Does.same HY.out hg⟩
  · have hb' : (isT Y t && isS s && isN n) = false := by simpa using hb
    have hres : point Y t s n = (Y, 2) := by simp [point, hb']
    rw [hres]
    have HB := hid hb'
    clear hb hb' hres hv hh fz
    go_enter Try.func37, Try.ntmps37
    go_wp2_with (first
      | (go_at_call 59; with_reducible refine (HT.out _ hg).mono ?_; rintro e w1 ⟨q1, rfl, hs1, hx⟩; have S1 := hid hs1; clear hs1; replace hg := grew_trans hg hx; have hc := (bcell hg).1)
      | (go_at_call 60; with_reducible refine (isSlotY _ _ _).mono ?_; rintro e w2 ⟨q2, rfl, hs2, hx⟩; have S2 := hid hs2; have S1' := hid (S1.out.grew hx); clear hs2; replace hg := grew_trans hg hx; have hc := (bcell hg).1)
      | (go_at_call 58; with_reducible refine (isNodeY _ _ _).mono ?_; rintro e w5 ⟨q5, rfl, hs5, hx⟩; have S5 := hid hs5; have S1'' := hid (S1'.out.grew hx); have S2'' := hid (S2.out.grew hx); clear hs5; replace hg := grew_trans hg hx; have hc := (bcell hg).1)
      | (go_at_call 49; with_reducible refine (ask3 hI HH.out asks80 asks81 asks79 hg S1''.out S2''.out S5.out).mono ?_; rintro e w3 ⟨rfl, hx⟩; replace hg := grew_trans hg hx; have hc := (bcell hg).1; rw [HB.out]))
    go_ret
    exact ⟨rfl, Does.same HY.out hg⟩

set_option maxHeartbeats 1000000 in
theorem use_any (Y : Yd) (hI : Inv Y) (b tb cap : Nat) (lv : List Value) (t s : Int) (w : World) (hv : YView w b Y tb cap lv) :
    Calls Try.prog 21 #[.pointer (some ⟨b, 0, none⟩), .int .i64 t, .int .i64 s] w fun e w' => e = .returned (.tuple #[.int .i64 (use Y t s).1, .int .i64 (use Y t s).2]) ∧ Grew w w' := by
  have hg := grew_refl w
  have HS := hid (fun (y : World) (hy : Grew w y) => slot_any Y hI b tb cap lv t s y (hv.grew hy))
  obtain ⟨x, hx⟩ : ∃ x, (thAt Y t).slot s = x := ⟨_, rfl⟩
  by_cases hb : (isT Y t && isS s) = true
  · have h1 : slot Y t s = (x, 0) := by simp only [slot, hb, if_true, hx]
    rw [h1] at HS
    by_cases hm : x = -1
    · have h2 : use Y t s = (0, 5) := by simp only [use, hb, if_true, hx, hm]
      rw [h2]
      subst hm
      clear hx hb h1 h2 hv
      go_enter Try.func21, Try.ntmps21
      go_wp2_with (go_at_call 22; with_reducible refine (HS.out _ hg).mono ?_; rintro e w1 ⟨rfl, hx⟩; replace hg := grew_trans hg hx; have hc := (bcell hg).1)
      go_ret2
      exact ⟨rfl, hg⟩
    · have h2 : use Y t s = (x, 0) := by simp only [use, hb, if_true, hx]; rw [if_neg hm]
      rw [h2]
      have hne : (x == -1) = false := by simpa using hm
      clear hx hb h1 h2 hv hm
      go_enter Try.func21, Try.ntmps21
      go_wp2_with (go_at_call 22; with_reducible refine (HS.out _ hg).mono ?_; rintro e w1 ⟨rfl, hx⟩; replace hg := grew_trans hg hx; have hc := (bcell hg).1)
      go_ret2
      exact ⟨rfl, hg⟩
  · have hb' : (isT Y t && isS s) = false := by simpa using hb
    have h1 : slot Y t s = (0, 2) := by simp [slot, hb']
    have h2 : use Y t s = (0, 2) := by simp [use, hb']
    rw [h1] at HS
    rw [h2]
    clear hx hb h1 h2 hv hb'
    go_enter Try.func21, Try.ntmps21
    go_wp2_with (go_at_call 22; with_reducible refine (HS.out _ hg).mono ?_; rintro e w1 ⟨rfl, hx⟩; replace hg := grew_trans hg hx; have hc := (bcell hg).1)
    go_ret2
    exact ⟨rfl, hg⟩

end Go.Proofs.Ytcifpigjcfkhmaa
