/- Walks: which specifications, states, calls and words are valid, the program's own text. -/
import Derived.Test.YtnebpcpihldllaaWFunc
namespace Go.Proofs.Ytnebpcpihldllaa
open Go.RowKit Go.Lin

set_option maxHeartbeats 1000000 in
theorem table11_any (n limit : Int) (B : Nat) (w : World) (hB : w.cell? ⟨B, 0, none⟩ = some (.int .i64 limit)) :
    Calls Try.prog 105 #[.int .i64 n, .pointer (some ⟨B, 0, none⟩)] w fun e w' => e = .returned (.bool (!inM (limit + 1) n)) ∧ Grew w w' := by
  have g0 := grew_refl w
  have hg := grew_refl w
  go_enter Try.func105, Try.ntmps105
  go_wp2_with (go_at_call 80; with_reducible refine (between_any _ _ _ _).mono ?_; rintro e w1 ⟨rfl, hx⟩; replace hg := grew_trans hg hx; have hc := (bcell hg).1)
  go_ret
  refine ⟨ret_bool ?_, hg⟩
  unfold inM
  congr 1
  rw [Bool.eq_iff_iff]; simp; omega

set_option maxHeartbeats 1000000 in
theorem table1_any (s : RSpec) (limit : Int) (v : Value) (row : List Int) (B B2 : Nat) (w : World) (hB : w.cell? ⟨B, 1, none⟩ = some (.int .i64 s.ops)) (_hlt : B < w.heap.size) (hB2 : w.cell? ⟨B2, 0, none⟩ = some (.int .i64 limit)) (hlt2 : B2 < w.heap.size) (hx : IsInts Any w v row) :
    Calls Try.prog 104 #[v, .pointer (some ⟨B, 0, none⟩), .pointer (some ⟨B2, 0, none⟩)] w fun e w' => e = .returned (.bool (!rowOK s.ops (limit + 1) row)) ∧ Grew w w' := by
  have HX := hx
  obtain ⟨a, cap, rfl, hm, hc⟩ := hx
  clear hc
  have hg := grew_refl w
  by_cases hl : (row.length : Int) = s.ops
  · have hne : ((row.length : Int) != s.ops) = false := by simp [hl]
    have HL := hid hl; clear hl
    have hcon := containsFunc_any 105 #[.pointer (some ⟨B2, 0, none⟩)] (fun n => !inM (limit + 1) n) _ row w entered105 HX
      (fun i hi w' hw => table11_any _ limit B2 w' ((hw.cell (p := ⟨B2, 0, none⟩) hlt2).trans hB2))
    have HCON := hid hcon; clear hcon
    go_enter Try.func104, Try.ntmps104
    go_wp2_with (go_at_call 97; with_reducible refine HCON.out.mono ?_; rintro e w1 ⟨rfl, hx⟩)
    all_goals (go_ret; refine ⟨ret_bool ?_, by assumption⟩)
    all_goals (
      rw [show rowOK s.ops (limit + 1) row = row.all (inM (limit + 1)) by unfold rowOK inM; simp [HL.out]]
      simp [List.any_eq_not_all_not])
  · have hne : ((row.length : Int) != s.ops) = true := by simpa using hl
    have HL := hid hl; clear hl
    go_enter Try.func104, Try.ntmps104
    go_wp2
    go_ret
    exact ⟨ret_bool (by rw [rowOK_len HL.out]; rfl), grew_refl w⟩

set_option maxHeartbeats 1000000 in
theorem indexFuncRows_any (g : Nat) (caps : Array Value) (p : List Int → Bool) (v : Value) (xs : List (List Int)) (w : World) (hcf : Entered g) (hx : IsRows Any w v xs) (hp : ∀ i u, i < xs.length → IsInts Any w u (nthL xs i) → Says g caps u (p (nthL xs i)) w) :
    Calls Try.prog 111 #[v, .func (.func g) #[] caps] w fun e w' => ∃ r : Int, e = .returned (.int .i64 r) ∧ Hid (decide (0 ≤ r) = xs.any p) ∧ Grew w w' := by
  obtain ⟨V, ⟨a, cap, rfl, hm, hc⟩, hr⟩ := hx
  have HC := hid hc; clear hc
  have HR := hid hr; clear hr
  have HP := hid hp; clear hp
  have hcf' : ∀ args w, (callFunc g args).run Try.prog w = .ok (.enter g args) w := hcf
  clear hcf
  go_enter Try.func111, Try.ntmps111
  go_wp2
  go_loopg [5, 8] (xs.length) (fun k _ i wr => ∃ j : Nat, j ≤ xs.length ∧ i = .int .i64 j ∧ k = xs.length - j ∧ Hid (∀ t, t < j → p (nthL xs t) = false) ∧ Grew w wr)
  case atStart => exact ⟨0, Nat.zero_le _, rfl, rfl, hid (fun t ht => by omega), grew_refl _⟩
  case round =>
    obtain ⟨j, hj, rfl, hk, HT, hg⟩ := hrel
    have HK := hid hk; clear hk
    by_cases hlt : j < xs.length
    · obtain ⟨b, off, o, rfl, hb, _, hcj⟩ := HC.out j hlt
      have hbl := lt_of_obj hb
      have hcj0 := (hg.cell (p := ⟨b, off + j, none⟩) hbl).trans hcj
      clear hb hcj
      have HS := hid (HP.out j _ hlt (HR.out j hlt))
      by_cases hop : p (nthL xs j) = true
      · have HOP := hid hop
        go_wp2_with (refine (show Calls _ _ _ _ _ from HS.out _ hg).mono ?_; rintro e w1 ⟨rfl, hx⟩; replace hg := grew_trans hg hx; have hc := (bcell hg).1)
        go_ret
        refine ⟨(j : Int), rfl, hid ?_, hg⟩
        rw [show decide ((0 : Int) ≤ (j : Int)) = true by simp]
        refine (List.any_eq_true.2 ⟨nthL xs j, ?_, HOP.out⟩).symm
        rw [nthL_lt hlt]; exact List.getElem_mem hlt
      · have hop' : p (nthL xs j) = false := by simpa using hop
        go_wp2_with (refine (show Calls _ _ _ _ _ from HS.out _ hg).mono ?_; rintro e w1 ⟨rfl, hx⟩; replace hg := grew_trans hg hx; have hc := (bcell hg).1)
        go_roundg (xs.length - (j + 1))
        case measure => have := HK.out; omega
        case rel => exact ⟨j + 1, by omega, by go_num, rfl, hid (lt_succ_all HT.out hop'), hg⟩
    · obtain rfl : j = xs.length := by omega
      go_wp2
      go_ret
      refine ⟨-1, rfl, hid ?_, hg⟩
      rw [show decide ((0 : Int) ≤ -1) = false by decide]
      refine (List.any_eq_false.2 ?_).symm
      intro x hx
      obtain ⟨i, hi, rfl⟩ := List.getElem_of_mem hx
      have := HT.out i hi
      rw [nthL_lt hi] at this
      simp [this]

set_option maxHeartbeats 1000000 in
theorem containsFuncRows_any (g : Nat) (caps : Array Value) (p : List Int → Bool) (v : Value) (xs : List (List Int)) (w : World) (hcf : Entered g) (hx : IsRows Any w v xs) (hp : ∀ i u, i < xs.length → IsInts Any w u (nthL xs i) → Says g caps u (p (nthL xs i)) w) :
    Calls Try.prog 103 #[v, .func (.func g) #[] caps] w fun e w' => e = .returned (.bool (xs.any p)) ∧ Grew w w' := by
  have h := indexFuncRows_any g caps p v xs w hcf hx hp
  have H := hid h; clear h hcf hx hp
  go_enter Try.func103, Try.ntmps103
  go_wp2_with (go_at_call 111; with_reducible refine H.out.mono ?_; rintro e w1 ⟨r, rfl, hr, hg⟩)
  go_ret
  exact ⟨ret_bool hr.out, hg⟩

set_option maxHeartbeats 1000000 in
theorem table_any (s : RSpec) (sv lv : Value) (l : List (List Int)) (limit : Int) (w : World) (hs : IsSpec w sv s) (hl : IsRows Any w lv l) :
    Calls Try.prog 81 #[sv, lv, .int .i64 limit] w fun e w' => e = .returned (.bool (isTableM s.st s.ops l (limit + 1))) ∧ Grew w w' := by
  obtain ⟨nv, yv, rfl, _, _⟩ := hs
  have HL := hl
  obtain ⟨V, ⟨a, cap, rfl, hm, hc⟩, hr⟩ := hl
  clear hc hr
  obtain ⟨W0, hW0, g0, k0, k1, k2, k3, hz⟩ := box4 w (.int .i64 s.st) (.int .i64 s.ops) nv yv 24
  obtain ⟨W1, hW1⟩ : ∃ W1, W0.alloc (.cells #[.int .i64 limit] 3) = W1 := ⟨_, rfl⟩
  have g1 : Grew W0 W1 := by rw [← hW1]; exact (by repeat' (first | exact grew_refl _ | assumption | refine grew_alloc ?_ _ | refine Below.setCell ?_ (by (try simp); omega) _ | refine grew_drewN ?_ _ | refine grew_drew ?_ | refine grew_trans ?_ (by assumption)))
  have hz1 : W0.heap.size < W1.heap.size := by rw [← hW1]; simp
  have l0 : W1.cell? ⟨W0.heap.size, 0, none⟩ = some (.int .i64 limit) := by rw [← hW1]; simp
  have m0 := (g1.cell (p := ⟨w.heap.size, 0, none⟩) hz).trans k0
  have m1 := (g1.cell (p := ⟨w.heap.size, 1, none⟩) hz).trans k1
  have hg := grew_refl W1
  have g01 := grew_trans g0 g1
  have hza : w.heap.size < W1.heap.size := by omega
  by_cases hln : (l.length : Int) = s.st
  · have hne : ((l.length : Int) == s.st) = true := by simp [hln]
    have HLN := hid hln; clear hln
    have hcon := containsFuncRows_any 104 #[.pointer (some ⟨w.heap.size, 0, none⟩), .pointer (some ⟨W0.heap.size, 0, none⟩)] (fun row => !rowOK s.ops (limit + 1) row) _ l W1 entered104 (HL.grew g01)
      (fun i u hi hu w' hw => table1_any s limit u _ _ _ w' ((hw.cell (p := ⟨w.heap.size, 1, none⟩) hza).trans m1) (Nat.lt_of_lt_of_le hza hw.size) ((hw.cell (p := ⟨W0.heap.size, 0, none⟩) hz1).trans l0) (Nat.lt_of_lt_of_le hz1 hw.size) (hu.grew hw))
    have HCON := hid hcon; clear hcon
    go_enter Try.func81, Try.ntmps81
    go_wp2_with (go_at_call 103; with_reducible refine HCON.out.mono ?_; rintro e w1 ⟨rfl, hx⟩)
    go_ret
    refine ⟨ret_bool ?_, (by repeat' (first | exact grew_refl _ | assumption | refine grew_alloc ?_ _ | refine Below.setCell ?_ (by (try simp); omega) _ | refine grew_drewN ?_ _ | refine grew_drew ?_ | refine grew_trans ?_ (by assumption)))⟩
    rw [show isTableM s.st s.ops l (limit + 1) = l.all (rowOK s.ops (limit + 1)) by unfold isTableM; simp [HLN.out]]
    simp [List.any_eq_not_all_not]
  · have hne : ((l.length : Int) == s.st) = false := by simpa using hln
    have HLN := hid hln; clear hln
    go_enter Try.func81, Try.ntmps81
    go_wp2
    go_ret
    exact ⟨ret_bool (isTableM_len HLN.out).symm, (by repeat' (first | exact grew_refl _ | assumption | refine grew_alloc ?_ _ | refine Below.setCell ?_ (by (try simp); omega) _ | refine grew_drewN ?_ _ | refine grew_drew ?_ | refine grew_trans ?_ (by assumption)))⟩
end Go.Proofs.Ytnebpcpihldllaa
