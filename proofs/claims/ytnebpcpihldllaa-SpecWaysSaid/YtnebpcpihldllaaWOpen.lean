/- Walks: Valid, state, calls, word, opened, of the program's own text. -/
import Derived.Test.YtnebpcpihldllaaWValid
namespace Go.Proofs.Ytnebpcpihldllaa
open Go.RowKit Go.Lin

set_option maxHeartbeats 1000000 in
theorem valid_any (s : RSpec) (sv : Value) (w : World) (hs : IsSpec w sv s) :
    Calls Try.prog 32 #[sv] w fun e w' => e = .returned (.bool (validM s)) ∧ Grew w w' := by
  have HS := hs
  obtain ⟨nv, yv, rfl, hn, hy⟩ := hs
  obtain ⟨W0, hW0, g0, k0, k1, k2, k3, hz⟩ := box4 w (.int .i64 s.st) (.int .i64 s.ops) nv yv 24
  have hg := grew_refl W0
  by_cases h1 : 1 ≤ s.st ∧ s.st ≤ 8
  · have d1 : decide (1 ≤ s.st ∧ s.st ≤ 8) = true := by simpa using h1
    have b1 := h1.1
    have b2 := h1.2
    have H1 := hid h1; clear h1
    by_cases h2 : 1 ≤ s.ops ∧ s.ops ≤ 4
    · have d2 : decide (1 ≤ s.ops ∧ s.ops ≤ 4) = true := by simpa using h2
      have H2 := hid h2; clear h2
      cases hr1 : isTableM s.st s.ops s.next (s.st - 1 + 1) <;> cases hr2 : isTableM s.st s.ops s.says (5 + 1)
      all_goals
        go_enter Try.func32, Try.ntmps32
        go_wp2_with (first | (go_at_call 80; with_reducible refine (between_any 1 s.st 8 _).mono ?_; rw [d1]; rintro e w1 ⟨rfl, hx⟩; replace hg := grew_trans hg hx; have hc := (bcell hg).1) | (go_at_call 80; with_reducible refine (between_any 1 s.ops 4 _).mono ?_; rw [d2]; rintro e w1 ⟨rfl, hx⟩; replace hg := grew_trans hg hx; have hc := (bcell hg).1) | (go_at_call 81; with_reducible refine (table_any s _ nv s.next (s.st - 1) _ (HS.grew (by exact grew_trans g0 hg)) (hn.grew (by exact grew_trans g0 hg))).mono ?_; rw [hr1]; rintro e w1 ⟨rfl, hx⟩; replace hg := grew_trans hg hx; have hc := (bcell hg).1) | (go_at_call 81; with_reducible refine (table_any s _ yv s.says 5 _ (HS.grew (by exact grew_trans g0 hg)) (hy.grew (by exact grew_trans g0 hg))).mono ?_; rw [hr2]; rintro e w1 ⟨rfl, hx⟩; replace hg := grew_trans hg hx; have hc := (bcell hg).1))
        go_ret
        refine ⟨ret_bool ?_, (by repeat' (first | exact grew_refl _ | assumption | refine grew_alloc ?_ _ | refine Below.setCell ?_ (by (try simp); omega) _ | refine grew_drewN ?_ _ | refine grew_drew ?_ | refine grew_trans ?_ (by assumption)))⟩
        rw [show s.st - 1 + 1 = s.st by omega] at hr1
        rw [show (5 : Int) + 1 = 6 by decide] at hr2
        unfold validM
        rw [hr1, hr2]
        have := H1.out; have := H2.out
        simp
        try omega
    · have d2 : decide (1 ≤ s.ops ∧ s.ops ≤ 4) = false := by simpa using h2
      have H2 := hid h2; clear h2
      go_enter Try.func32, Try.ntmps32
      go_wp2_with (first | (go_at_call 80; with_reducible refine (between_any 1 s.st 8 _).mono ?_; rw [d1]; rintro e w1 ⟨rfl, hx⟩; replace hg := grew_trans hg hx; have hc := (bcell hg).1) | (go_at_call 80; with_reducible refine (between_any 1 s.ops 4 _).mono ?_; rw [d2]; rintro e w1 ⟨rfl, hx⟩; replace hg := grew_trans hg hx; have hc := (bcell hg).1))
      go_ret
      refine ⟨ret_bool ?_, (by repeat' (first | exact grew_refl _ | assumption | refine grew_alloc ?_ _ | refine Below.setCell ?_ (by (try simp); omega) _ | refine grew_drewN ?_ _ | refine grew_drew ?_ | refine grew_trans ?_ (by assumption)))⟩
      have h2 := H2.out
      unfold validM
      rw [show decide (1 ≤ s.st ∧ s.st ≤ 8 ∧ 1 ≤ s.ops ∧ s.ops ≤ 4) = false by simp; omega]
      rfl
  · have d1 : decide (1 ≤ s.st ∧ s.st ≤ 8) = false := by simpa using h1
    have H1 := hid h1; clear h1
    go_enter Try.func32, Try.ntmps32
    go_wp2_with (go_at_call 80; with_reducible refine (between_any 1 s.st 8 _).mono ?_; rw [d1]; rintro e w1 ⟨rfl, hx⟩; replace hg := grew_trans hg hx; have hc := (bcell hg).1)
    go_ret
    refine ⟨ret_bool ?_, (by repeat' (first | exact grew_refl _ | assumption | refine grew_alloc ?_ _ | refine Below.setCell ?_ (by (try simp); omega) _ | refine grew_drewN ?_ _ | refine grew_drew ?_ | refine grew_trans ?_ (by assumption)))⟩
    have h1 := H1.out
    unfold validM
    rw [show decide (1 ≤ s.st ∧ s.st ≤ 8 ∧ 1 ≤ s.ops ∧ s.ops ≤ 4) = false by simp; omega]
    rfl

set_option maxHeartbeats 1000000 in
theorem state1_any (n lim : Int) (B : Nat) (w : World) (h1 : 1 ≤ lim) (h2 : lim ≤ 8) (hB : w.cell? ⟨B, 0, none⟩ = some (.int .i64 lim)) :
    Calls Try.prog 102 #[.int .i64 n, .pointer (some ⟨B, 0, none⟩)] w fun e w' => e = .returned (.bool (!inM lim n)) ∧ Grew w w' := by
  have hg := grew_refl w
  go_enter Try.func102, Try.ntmps102
  go_wp2_with (go_at_call 80; with_reducible refine (between_any _ _ _ _).mono ?_; rintro e w1 ⟨rfl, hx⟩; replace hg := grew_trans hg hx; have hc := (bcell hg).1)
  go_ret
  refine ⟨ret_bool ?_, hg⟩
  unfold inM
  congr 1
  rw [Bool.eq_iff_iff]; simp; omega

set_option maxHeartbeats 1000000 in
theorem calls1_any (n lim : Int) (B : Nat) (w : World) (h1 : 1 ≤ lim) (h2 : lim ≤ 8) (hB : w.cell? ⟨B, 1, none⟩ = some (.int .i64 lim)) :
    Calls Try.prog 109 #[.int .i64 n, .pointer (some ⟨B, 0, none⟩)] w fun e w' => e = .returned (.bool (!inM lim n)) ∧ Grew w w' := by
  have hg := grew_refl w
  go_enter Try.func109, Try.ntmps109
  go_wp2_with (go_at_call 80; with_reducible refine (between_any _ _ _ _).mono ?_; rintro e w1 ⟨rfl, hx⟩; replace hg := grew_trans hg hx; have hc := (bcell hg).1)
  go_ret
  refine ⟨ret_bool ?_, hg⟩
  unfold inM
  congr 1
  rw [Bool.eq_iff_iff]; simp; omega

set_option maxHeartbeats 1000000 in
theorem state_any (s : RSpec) (sv v : Value) (xs : List Int) (w : World) (h1 : 1 ≤ s.st) (h2 : s.st ≤ 8) (hs : IsSpec w sv s) (hx : IsInts Any w v xs) :
    Calls Try.prog 58 #[sv, v] w fun e w' => e = .returned (.bool (xs.all (inM s.st))) ∧ Grew w w' := by
  obtain ⟨nv, yv, rfl, _, _⟩ := hs
  have HX := hx
  obtain ⟨a, cap, rfl, hm, hc⟩ := hx
  clear hc
  obtain ⟨W0, hW0, g0, k0, k1, k2, k3, hz⟩ := box4 w (.int .i64 s.st) (.int .i64 s.ops) nv yv 60
  have hcon := containsFunc_any 102 #[.pointer (some ⟨w.heap.size, 0, none⟩)] (fun n => !inM s.st n) _ xs W0 entered102 (HX.grew g0)
    (fun i hi w' hw => state1_any _ s.st _ w' h1 h2 ((hw.cell (p := ⟨w.heap.size, 0, none⟩) hz).trans k0))
  have HCON := hid hcon; clear hcon
  go_enter Try.func58, Try.ntmps58
  go_wp2_with (go_at_call 97; with_reducible refine HCON.out.mono ?_; rintro e w1 ⟨rfl, hx⟩)
  go_ret
  refine ⟨ret_bool ?_, (by repeat' (first | exact grew_refl _ | assumption | refine grew_alloc ?_ _ | refine Below.setCell ?_ (by (try simp); omega) _ | refine grew_drewN ?_ _ | refine grew_drew ?_ | refine grew_trans ?_ (by assumption)))⟩
  simp [List.any_eq_not_all_not]

set_option maxHeartbeats 1000000 in
theorem calls_any (s : RSpec) (sv v : Value) (xs : List Int) (w : World) (h1 : 1 ≤ s.ops) (h2 : s.ops ≤ 8) (hs : IsSpec w sv s) (hx : IsInts Any w v xs) :
    Calls Try.prog 96 #[sv, v] w fun e w' => e = .returned (.bool (xs.all (inM s.ops))) ∧ Grew w w' := by
  obtain ⟨nv, yv, rfl, _, _⟩ := hs
  have HX := hx
  obtain ⟨a, cap, rfl, hm, hc⟩ := hx
  clear hc
  obtain ⟨W0, hW0, g0, k0, k1, k2, k3, hz⟩ := box4 w (.int .i64 s.st) (.int .i64 s.ops) nv yv 60
  have hcon := containsFunc_any 109 #[.pointer (some ⟨w.heap.size, 0, none⟩)] (fun n => !inM s.ops n) _ xs W0 entered109 (HX.grew g0)
    (fun i hi w' hw => calls1_any _ s.ops _ w' h1 h2 ((hw.cell (p := ⟨w.heap.size, 1, none⟩) hz).trans k1))
  have HCON := hid hcon; clear hcon
  go_enter Try.func96, Try.ntmps96
  go_wp2_with (go_at_call 97; with_reducible refine HCON.out.mono ?_; rintro e w1 ⟨rfl, hx⟩)
  go_ret
  refine ⟨ret_bool ?_, (by repeat' (first | exact grew_refl _ | assumption | refine grew_alloc ?_ _ | refine Below.setCell ?_ (by (try simp); omega) _ | refine grew_drewN ?_ _ | refine grew_drew ?_ | refine grew_trans ?_ (by assumption)))⟩
  simp [List.any_eq_not_all_not]

set_option maxHeartbeats 1000000 in
theorem word_any (s : RSpec) (sv v : Value) (xs : List Int) (w : World) (h1 : 1 ≤ s.ops) (h2 : s.ops ≤ 8) (hs : IsSpec w sv s) (hx : IsInts Any w v xs) :
    Calls Try.prog 74 #[sv, v] w fun e w' => e = .returned (.bool (isWordM s.ops xs)) ∧ Grew w w' := by
  have HS := hs
  obtain ⟨nv, yv, rfl, _, _⟩ := hs
  have HX := hx
  obtain ⟨a, cap, rfl, hm, hc⟩ := hx
  clear hc
  obtain ⟨W0, hW0, g0, k0, k1, k2, k3, hz⟩ := box4 w (.int .i64 s.st) (.int .i64 s.ops) nv yv 60
  have hg := grew_refl W0
  by_cases hl : (xs.length : Int) ≤ 20
  · have HL := hid hl
    go_enter Try.func74, Try.ntmps74
    go_wp2_with (go_at_call 96; with_reducible refine (calls_any s _ _ xs _ h1 h2 (HS.grew (by exact grew_trans g0 hg)) (HX.grew (by exact grew_trans g0 hg))).mono ?_; rintro e w1 ⟨rfl, hx⟩; replace hg := grew_trans hg hx; have hc := (bcell hg).1)
    all_goals (go_ret; refine ⟨ret_bool ?_, (by repeat' (first | exact grew_refl _ | assumption | refine grew_alloc ?_ _ | refine Below.setCell ?_ (by (try simp); omega) _ | refine grew_drewN ?_ _ | refine grew_drew ?_ | refine grew_trans ?_ (by assumption)))⟩)
    all_goals (unfold isWordM; rw [show decide (xs.length ≤ 20) = true by have := HL.out; simp; omega]; simp)
  · have HL := hid hl
    go_enter Try.func74, Try.ntmps74
    go_wp2
    go_ret
    refine ⟨ret_bool ?_, (by repeat' (first | exact grew_refl _ | assumption | refine grew_alloc ?_ _ | refine Below.setCell ?_ (by (try simp); omega) _ | refine grew_drewN ?_ _ | refine grew_drew ?_ | refine grew_trans ?_ (by assumption)))⟩
    unfold isWordM
    rw [show decide (xs.length ≤ 20) = false by have := HL.out; simp; omega]; simp

abbrev zeroSpec : Value := .agg #[.int .i64 0, .int .i64 0, .slice none 0 0, .slice none 0 0]

set_option maxHeartbeats 1000000 in
theorem opened_bad (s : RSpec) (sv fv : Value) (w : World) (hs : IsSpec w sv s) (hv : validM s = false) :
    Calls Try.prog 56 #[sv, fv] w fun e w' => e = .returned (.tuple #[zeroSpec, .int .i64 10]) ∧ Grew w w' := by
  have HS := hs
  obtain ⟨nv, yv, rfl, hn, hy⟩ := hs
  obtain ⟨W0, hW0, g0, k0, k1, k2, k3, hz⟩ := box4 w (.int .i64 s.st) (.int .i64 s.ops) nv yv 24
  obtain ⟨W1, hW1, g1, l0, l1, l2, l3, hz1, lf⟩ := boxf4 W0 (.int .i64 0) (.int .i64 0) (.slice none 0 0) (.slice none 0 0) 60
  have hza : w.heap.size < W1.heap.size := Nat.lt_of_lt_of_le hz g1.size
  have m0 := (g1.cell (p := ⟨w.heap.size, 0, none⟩) hz).trans k0
  have m1 := (g1.cell (p := ⟨w.heap.size, 1, none⟩) hz).trans k1
  have m2 := (g1.cell (p := ⟨w.heap.size, 2, none⟩) hz).trans k2
  have m3 := (g1.cell (p := ⟨w.heap.size, 3, none⟩) hz).trans k3
  clear k0 k1 k2 k3
  have g01 := grew_trans g0 g1
  have hg := grew_refl W1
  go_enter Try.func56, Try.ntmps56
  go_wp2_with (go_at_call 32; with_reducible refine (valid_any s _ _ (HS.grew (by exact g01))).mono ?_; rw [hv]; rintro e w1 ⟨rfl, hx⟩; replace hg := grew_trans hg hx; obtain ⟨hc, hcf⟩ := bcell hg)
  (try simp only [Exit.inBlock, Exit.then])
  refine bodyPost_ret (v := .tuple #[zeroSpec, .int .i64 10]) ?_ rfl ?_
  · simp [results, Try.results56, go_sem, hc, l0, l1, l2, l3, hz1]
  · exact ⟨rfl, (by repeat' (first | exact grew_refl _ | assumption | refine grew_alloc ?_ _ | refine Below.setCell ?_ (by (try simp); omega) _ | refine grew_drewN ?_ _ | refine grew_drew ?_ | refine grew_trans ?_ (by assumption)))⟩

set_option maxHeartbeats 1000000 in
theorem opened_arg (s : RSpec) (sv : Value) (g : Nat) (caps : Array Value) (w : World) (hs : IsSpec w sv s) (hv : validM s = true) (hcf : Entered g) (hp : Says g caps sv false w) :
    Calls Try.prog 56 #[sv, .func (.func g) #[] caps] w fun e w' => e = .returned (.tuple #[zeroSpec, .int .i64 2]) ∧ Grew w w' := by
  have HS := hs
  obtain ⟨nv, yv, rfl, hn, hy⟩ := hs
  obtain ⟨W0, hW0, g0, k0, k1, k2, k3, hz⟩ := box4 w (.int .i64 s.st) (.int .i64 s.ops) nv yv 24
  obtain ⟨W1, hW1, g1, l0, l1, l2, l3, hz1, lf⟩ := boxf4 W0 (.int .i64 0) (.int .i64 0) (.slice none 0 0) (.slice none 0 0) 60
  have hza : w.heap.size < W1.heap.size := Nat.lt_of_lt_of_le hz g1.size
  have m0 := (g1.cell (p := ⟨w.heap.size, 0, none⟩) hz).trans k0
  have m1 := (g1.cell (p := ⟨w.heap.size, 1, none⟩) hz).trans k1
  have m2 := (g1.cell (p := ⟨w.heap.size, 2, none⟩) hz).trans k2
  have m3 := (g1.cell (p := ⟨w.heap.size, 3, none⟩) hz).trans k3
  clear k0 k1 k2 k3
  have g01 := grew_trans g0 g1
  have hg := grew_refl W1
  have HP := hid hp; clear hp
  have hcf' : ∀ args w, (callFunc g args).run Try.prog w = .ok (.enter g args) w := hcf
  clear hcf
  go_enter Try.func56, Try.ntmps56
  go_wp2_with (first | (go_at_call 32; with_reducible refine (valid_any s _ _ (HS.grew (by exact g01))).mono ?_; rw [hv]; rintro e w1 ⟨rfl, hx⟩; replace hg := grew_trans hg hx; obtain ⟨hc, hcf⟩ := bcell hg) | (refine (show Calls _ _ _ _ _ from HP.out _ (grew_trans g01 hg)).mono ?_; rintro e w2 ⟨rfl, hx⟩; replace hg := grew_trans hg hx; obtain ⟨hc, hcf⟩ := bcell hg))
  (try simp only [Exit.inBlock, Exit.then])
  refine bodyPost_ret (v := .tuple #[zeroSpec, .int .i64 2]) ?_ rfl ?_
  · simp [results, Try.results56, go_sem, hc, l0, l1, l2, l3, hz1]
  · exact ⟨rfl, (by repeat' (first | exact grew_refl _ | assumption | refine grew_alloc ?_ _ | refine Below.setCell ?_ (by (try simp); omega) _ | refine grew_drewN ?_ _ | refine grew_drew ?_ | refine grew_trans ?_ (by assumption)))⟩

set_option maxHeartbeats 1000000 in
theorem opened_ok (s : RSpec) (sv : Value) (g : Nat) (caps : Array Value) (w : World) (hs : IsSpec w sv s) (hv : validM s = true) (hcf : Entered g) (hp : Says g caps sv true w) :
    Calls Try.prog 56 #[sv, .func (.func g) #[] caps] w fun e w' => e = .returned (.tuple #[sv, .int .i64 0]) ∧ Grew w w' := by
  have HS := hs
  obtain ⟨nv, yv, rfl, ⟨V, ⟨na, nc, rfl, _, _⟩, _⟩, ⟨V2, ⟨ya, yc, rfl, _, _⟩, _⟩⟩ := hs
  obtain ⟨W0, hW0, g0, k0, k1, k2, k3, hz⟩ := box4 w (.int .i64 s.st) (.int .i64 s.ops) (.slice na s.next.length nc) (.slice ya s.says.length yc) 24
  obtain ⟨W1, hW1, g1, l0, l1, l2, l3, hz1, lf⟩ := boxf4 W0 (.int .i64 0) (.int .i64 0) (.slice none 0 0) (.slice none 0 0) 60
  have hza : w.heap.size < W1.heap.size := Nat.lt_of_lt_of_le hz g1.size
  have m0 := (g1.cell (p := ⟨w.heap.size, 0, none⟩) hz).trans k0
  have m1 := (g1.cell (p := ⟨w.heap.size, 1, none⟩) hz).trans k1
  have m2 := (g1.cell (p := ⟨w.heap.size, 2, none⟩) hz).trans k2
  have m3 := (g1.cell (p := ⟨w.heap.size, 3, none⟩) hz).trans k3
  clear k0 k1 k2 k3
  have g01 := grew_trans g0 g1
  have hg := grew_refl W1
  have HP := hid hp; clear hp
  have hcf' : ∀ args w, (callFunc g args).run Try.prog w = .ok (.enter g args) w := hcf
  clear hcf
  go_enter Try.func56, Try.ntmps56
  go_wp2_with (first | (go_at_call 32; with_reducible refine (valid_any s _ _ (HS.grew (by exact g01))).mono ?_; rw [hv]; rintro e w1 ⟨rfl, hx⟩; replace hg := grew_trans hg hx; obtain ⟨hc, hcf⟩ := bcell hg) | (refine (show Calls _ _ _ _ _ from HP.out _ (grew_trans g01 hg)).mono ?_; rintro e w2 ⟨rfl, hx⟩; replace hg := grew_trans hg hx; obtain ⟨hc, hcf⟩ := bcell hg))
  (try simp only [Exit.inBlock, Exit.then])
  refine bodyPost_ret (v := .tuple #[.agg #[.int .i64 s.st, .int .i64 s.ops, .slice na s.next.length nc, .slice ya s.says.length yc], .int .i64 0]) ?_ rfl ?_
  · simp [results, Try.results56, go_sem, hc, l0, l1, l2, l3, hz1]
  · exact ⟨rfl, (by repeat' (first | exact grew_refl _ | assumption | refine grew_alloc ?_ _ | refine Below.setCell ?_ (by (try simp); omega) _ | refine grew_drewN ?_ _ | refine grew_drew ?_ | refine grew_trans ?_ (by assumption)))⟩
end Go.Proofs.Ytnebpcpihldllaa
