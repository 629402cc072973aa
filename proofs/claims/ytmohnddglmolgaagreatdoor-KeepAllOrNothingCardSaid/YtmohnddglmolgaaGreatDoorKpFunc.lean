/- Walks: slices.IndexFunc (121), ContainsFunc (99) of ints, areEarly (55), Kept (40). -/
import Derived.Test.YtmohnddglmolgaaGreatDoorKpSelf
namespace Go.Proofs.YtmohnddglmolgaaGreatDoor
open Go Go.RowKit Go.Lin Go.Lin.Kp

/-- The function g, with what it has captured, says p of x; it leaves the world alone. -/
def Says (g : Nat) (caps : Array Value) (x : Value) (p : Bool) : Prop :=
  ∀ w', Calls Tryz.prog g (#[x] ++ caps) w' fun e w'' => e = .returned (.bool p) ∧ w' = w''

def Entered (g : Nat) : Prop := ∀ args w, (callFunc g args).run Tryz.prog w = .ok (.enter g args) w

set_option maxHeartbeats 1000000 in
theorem indexFunc_any (g : Nat) (caps : Array Value) (p : Int → Bool) (v : Value) (xs : List Int) (w : World) (hcf : Entered g) (hx : IsInts Any w v xs) (hp : ∀ i, i < xs.length → Says g caps (.int .i64 (nth xs i)) (p (nth xs i))) :
    Calls Tryz.prog 121 #[v, .func (.func g) #[] caps] w fun e w' => ∃ r : Int, e = .returned (.int .i64 r) ∧ Hid (decide (0 ≤ r) = xs.any p) ∧ w = w' := by
  obtain ⟨a, cap, rfl, hm, hc⟩ := hx
  have HC := hid hc; clear hc
  have HP := hid hp; clear hp
  have hcf' : ∀ args w, (callFunc g args).run Tryz.prog w = .ok (.enter g args) w := hcf
  clear hcf
  go_enter Tryz.func121, Tryz.ntmps121
  go_wp2
  go_loopg [5, 8] (xs.length) (fun k _ i wr => ∃ j : Nat, j ≤ xs.length ∧ i = .int .i64 j ∧ k = xs.length - j ∧ Hid (∀ t, t < j → p (nth xs t) = false) ∧ w = wr)
  case atStart => exact ⟨0, Nat.zero_le _, rfl, rfl, hid (fun t ht => by omega), rfl⟩
  case round =>
    obtain ⟨j, hj, rfl, hk, HT, rfl⟩ := hrel
    have HK := hid hk; clear hk
    by_cases hlt : j < xs.length
    · obtain ⟨b, off, o, rfl, hb, _, hcj⟩ := HC.out j hlt
      clear hb
      have HS := hid (HP.out j hlt)
      by_cases hop : p (nth xs j) = true
      · have HOP := hid hop
        go_wp2_with (refine (show Calls _ _ _ _ _ from HS.out _).mono ?_; rintro e w1 ⟨rfl, rfl⟩)
        go_ret
        refine ⟨(j : Int), rfl, hid ?_, rfl⟩
        rw [show decide ((0 : Int) ≤ (j : Int)) = true by simp]
        refine (List.any_eq_true.2 ⟨nth xs j, ?_, HOP.out⟩).symm
        rw [nth_lt hlt]; exact List.getElem_mem hlt
      · have hop' : p (nth xs j) = false := by simpa using hop
        go_wp2_with (refine (show Calls _ _ _ _ _ from HS.out _).mono ?_; rintro e w1 ⟨rfl, rfl⟩)
        go_roundg (xs.length - (j + 1))
        case measure => have := HK.out; omega
        case rel => exact ⟨j + 1, by omega, by go_num, rfl, hid (lt_succ_all HT.out hop'), rfl⟩
    · obtain rfl : j = xs.length := by omega
      go_wp2
      go_ret
      refine ⟨-1, rfl, hid ?_, rfl⟩
      rw [show decide ((0 : Int) ≤ -1) = false by decide]
      refine (List.any_eq_false.2 ?_).symm
      intro x hx
      obtain ⟨i, hi, rfl⟩ := List.getElem_of_mem hx
      have := HT.out i hi
      rw [nth_lt hi] at this
      simp [this]

set_option maxHeartbeats 1000000 in
theorem containsFunc_any (g : Nat) (caps : Array Value) (p : Int → Bool) (v : Value) (xs : List Int) (w : World) (hcf : Entered g) (hx : IsInts Any w v xs) (hp : ∀ i, i < xs.length → Says g caps (.int .i64 (nth xs i)) (p (nth xs i))) :
    Calls Tryz.prog 99 #[v, .func (.func g) #[] caps] w fun e w' => e = .returned (.bool (xs.any p)) ∧ w = w' := by
  have h := indexFunc_any g caps p v xs w hcf hx hp
  have H := hid h; clear h hcf hx hp
  go_enter Tryz.func99, Tryz.ntmps99
  go_wp2_with (go_at_call 121; with_reducible refine H.out.mono ?_; rintro e w1 ⟨r, rfl, hr, rfl⟩)
  go_ret
  exact ⟨ret_bool hr.out, rfl⟩


theorem notCell100_any (n : Int) : Says 100 #[] (.int .i64 n) (!isCell n) := fun w => by
  have HB := hid (isCell59_any n)
  show Calls Tryz.prog 100 #[.int .i64 n] w _
  go_enter Tryz.func100, Tryz.ntmps100
  go_wp2_with (go_at_call 59; (with_reducible refine (HB.out _).mono ?_); rintro e w1 ⟨rfl, rfl⟩)
  go_ret
  exact ⟨rfl, rfl⟩

theorem entered100 : Entered 100 := fun _ _ => by kernel_rfl

theorem areEarly55_any (v : Value) (l : List Int) (w : World) (h : IsInts Any w v l) : Calls Tryz.prog 55 #[v] w fun e w' => e = .returned (.bool (areEarly l)) ∧ w = w' := by
  have HC := hid (containsFunc_any 100 #[] (fun n => !isCell n) v l w entered100 h (fun i _ => notCell100_any _))
  obtain ⟨a, c, rfl, hl, -⟩ := h
  have he : areEarly l = (decide (l.length ≤ 10) && !l.any (fun n => !isCell n)) := by
    unfold areEarly; rw [List.not_any_eq_all_not]; simp
  rw [he]
  obtain ⟨b, hb⟩ : ∃ b, l.any (fun n => !isCell n) = b := ⟨_, rfl⟩
  rw [hb] at HC ⊢
  clear hb he
  obtain ⟨n, hn⟩ : ∃ n, l.length = n := ⟨_, rfl⟩
  rw [hn] at HC hl ⊢
  clear hn

  by_cases h10 : n ≤ 10
  · have h2 : decide ((n : Int) ≤ 10) = true := by simp; omega
    have h3 : decide (n ≤ 10) = true := by simpa using h10
    rw [h3]
    cases b
    all_goals
      go_enter Tryz.func55, Tryz.ntmps55
      go_wp2_with (go_at_call 99; (with_reducible refine HC.out.mono ?_); rintro e w1 ⟨rfl, rfl⟩)
      go_ret
      exact ⟨rfl, rfl⟩
  · have h2 : decide ((n : Int) ≤ 10) = false := by simp; omega
    have h3 : decide (n ≤ 10) = false := by simpa using h10
    rw [h3]
    go_enter Tryz.func55, Tryz.ntmps55
    go_wp2_with (go_at_call 99; (with_reducible refine HC.out.mono ?_); rintro e w1 ⟨rfl, rfl⟩)
    go_ret
    exact ⟨rfl, rfl⟩

theorem kept40_mem (bm : Nat) (M : Mem) (F : Nat → Prop) (c : Int) (w : World) (h : IsMem w bm M F) : Calls Tryz.prog 40 #[ptr bm, .int .i64 c] w fun e w' => e = .returned (.tuple #[.int .i64 (M.keptAt c).1, .int .i64 (M.keptAt c).2]) ∧ w = w' := by
  have HN := hid (none57_mem bm M F w h)
  have HC := hid (isCell59_any c)
  obtain ⟨bn, sv, h⟩ := h
  have HH := hid h
  clear h
  unfold Mem.keptAt
  obtain ⟨x, hx⟩ : ∃ x, isCell c = x := ⟨_, rfl⟩
  rw [hx] at HC ⊢
  cases x
  · go_enter Tryz.func40, Tryz.ntmps40
    go_wp2_with (first
      | (go_at_call 59; (with_reducible refine (HC.out _).mono ?_); rintro e w1 ⟨rfl, rfl⟩)
      | (go_at_call 57; (with_reducible refine HN.out.mono ?_); rintro e w1 ⟨rfl, rfl⟩))
    go_ret2
    exact ⟨rfl, rfl⟩
  · obtain ⟨h1, h2⟩ := isCell_iff.1 hx
    clear hx
    obtain ⟨i, rfl⟩ : ∃ i : Nat, c = (i : Int) := ⟨c.toNat, by omega⟩
    have hi : i < 64 := by omega
    have ci := HH.out.cK hi
    go_enter Tryz.func40, Tryz.ntmps40
    go_wp2_with (first
      | (go_at_call 59; (with_reducible refine (HC.out _).mono ?_); rintro e w1 ⟨rfl, rfl⟩)
      | (go_at_call 57; (with_reducible refine HN.out.mono ?_); rintro e w1 ⟨rfl, rfl⟩))
    go_ret2
    exact ⟨rfl, rfl⟩

theorem kept40_none (v : Value) (c : Int) (w : World) (h : Calls Tryz.prog 57 #[v] w fun e w' => e = .returned (.bool true) ∧ w = w') : Calls Tryz.prog 40 #[v, .int .i64 c] w fun e w' => e = .returned (.tuple #[.int .i64 0, .int .i64 102]) ∧ w = w' := by
  have HN := hid h
  clear h
  go_enter Tryz.func40, Tryz.ntmps40
  go_wp2_with (go_at_call 57; (with_reducible refine HN.out.mono ?_); rintro e w1 ⟨rfl, rfl⟩)
  go_ret2
  exact ⟨rfl, rfl⟩

theorem read39_none (v : Value) (c : Int) (w : World) (h : ∀ r, Calls Tryz.prog 53 #[v, .bool r] w fun e w' => e = .returned (.int .i64 102) ∧ w = w') : Calls Tryz.prog 39 #[v, .int .i64 c] w fun e w' => e = .returned (.tuple #[.int .i64 0, .int .i64 102]) ∧ w = w' := by
  have HN := hid (h (isCell c))
  have HC := hid (isCell59_any c)
  clear h
  obtain ⟨x, hx⟩ : ∃ x, isCell c = x := ⟨_, rfl⟩
  rw [hx] at HN HC
  clear hx
  go_enter Tryz.func39, Tryz.ntmps39
  go_wp2_with (first
    | (go_at_call 59; (with_reducible refine (HC.out _).mono ?_); rintro e w1 ⟨rfl, rfl⟩)
    | (go_at_call 53; (with_reducible refine HN.out.mono ?_); rintro e w1 ⟨rfl, rfl⟩))
  go_ret2
  exact ⟨rfl, rfl⟩

end Go.Proofs.YtmohnddglmolgaaGreatDoor
