/- Walks: what the small functions of the reference of layer 1 compute. -/
import Derived.Test.YtnebpcpihldllaaRows
import Derived.Test.YtnebpcpihldllaaModel
namespace Go.Proofs.Ytnebpcpihldllaa
open Go.RowKit Go.Lin

set_option maxHeartbeats 400000 in
theorem isState_any (s : RSpec) (sv : Value) (n : Int) (w : World) (hs : IsSpec w sv s) :
    Calls Try.prog 76 #[sv, .int .i64 n] w fun e w' => e = .returned (.bool (inM s.st n)) ∧ Grew w w' := by
  obtain ⟨nv, yv, rfl, _, _⟩ := hs
  go_enter Try.func76, Try.ntmps76
  go_wp2
  all_goals (go_ret; refine ⟨ret_bool ?_, (by repeat' (first | exact grew_refl _ | assumption | refine grew_alloc ?_ _ | refine Below.setCell ?_ (by (try simp); omega) _ | refine grew_drewN ?_ _ | refine grew_drew ?_ | refine grew_trans ?_ (by assumption)))⟩; unfold inM; rw [Bool.eq_iff_iff]; simp; try omega)

set_option maxHeartbeats 400000 in
theorem isOp_any (s : RSpec) (sv : Value) (n : Int) (w : World) (hs : IsSpec w sv s) :
    Calls Try.prog 83 #[sv, .int .i64 n] w fun e w' => e = .returned (.bool (inM s.ops n)) ∧ Grew w w' := by
  obtain ⟨nv, yv, rfl, _, _⟩ := hs
  go_enter Try.func83, Try.ntmps83
  go_wp2
  all_goals (go_ret; refine ⟨ret_bool ?_, (by repeat' (first | exact grew_refl _ | assumption | refine grew_alloc ?_ _ | refine Below.setCell ?_ (by (try simp); omega) _ | refine grew_drewN ?_ _ | refine grew_drew ?_ | refine grew_trans ?_ (by assumption)))⟩; unfold inM; rw [Bool.eq_iff_iff]; simp; try omega)

set_option maxHeartbeats 400000 in
theorem isWord_any (s : RSpec) (sv v : Value) (xs : List Int) (w : World) (hs : IsSpec w sv s) (hx : IsInts Any w v xs) :
    Calls Try.prog 34 #[sv, v] w fun e w' => e = .returned (.bool (isWordM s.ops xs)) ∧ Grew w w' := by
  have HS := hs
  obtain ⟨nv, yv, rfl, _, _⟩ := hs
  obtain ⟨a, cap, rfl, hm, hc⟩ := hx
  have HC := hid hc; clear hc
  go_enter Try.func34, Try.ntmps34
  go_wp2
  obtain ⟨W0, hW0⟩ : ∃ W0, w.alloc (.cells #[.int .i64 s.st, .int .i64 s.ops, nv, yv] 24) = W0 := ⟨_, rfl⟩
  have g0 : Grew w W0 := by rw [← hW0]; exact (by repeat' (first | exact grew_refl _ | assumption | refine grew_alloc ?_ _ | refine Below.setCell ?_ (by (try simp); omega) _ | refine grew_drewN ?_ _ | refine grew_drew ?_ | refine grew_trans ?_ (by assumption)))
  have k0 : W0.cell? ⟨w.heap.size, 0, none⟩ = some (.int .i64 s.st) := by rw [← hW0]; simp
  have k1 : W0.cell? ⟨w.heap.size, 1, none⟩ = some (.int .i64 s.ops) := by rw [← hW0]; simp
  have k2 : W0.cell? ⟨w.heap.size, 2, none⟩ = some nv := by rw [← hW0]; simp
  have k3 : W0.cell? ⟨w.heap.size, 3, none⟩ = some yv := by rw [← hW0]; simp
  have hz : w.heap.size < W0.heap.size := by rw [← hW0]; simp
  rw [hW0]
  clear hW0
  go_loopg [9] (xs.length) (fun k i wr => ∃ j : Nat, j ≤ xs.length ∧ i = .int .i64 j ∧ k = xs.length - j ∧ Hid (∀ t, t < j → inM s.ops (nth xs t) = true) ∧ Grew W0 wr)
  case atStart => exact ⟨0, Nat.zero_le _, rfl, rfl, hid (fun t ht => by omega), grew_refl _⟩
  case round =>
    obtain ⟨j, hj, rfl, hk, HT, hg⟩ := hrel
    have HK := hid hk; clear hk
    obtain ⟨hcell, -⟩ := bcell hg
    have gw := grew_trans g0 hg
    by_cases hlt : j < xs.length
    · obtain ⟨b, off, o, rfl, hb, _, hcj⟩ := HC.out j hlt
      have hbl := lt_of_obj hb
      have hbl0 : b < W0.heap.size := by have := g0.size; omega
      have hcj0 := (g0.cell (p := ⟨b, off + j, none⟩) hbl).trans hcj
      clear hb
      have HS' := HS.grew gw
      by_cases hop : inM s.ops (nth xs j) = true
      · go_wp2_with (go_at_call 83; with_reducible refine (isOp_any s _ _ _ HS').mono ?_; rintro e w1 ⟨rfl, hx⟩; replace hg := grew_trans hg hx; have hc := (bcell hg).1)
        go_roundg (xs.length - (j + 1))
        case measure => have := HK.out; omega
        case rel => exact ⟨j + 1, by omega, by go_num, rfl, hid (lt_succ_all HT.out hop), (by repeat' (first | exact grew_refl _ | assumption | refine grew_alloc ?_ _ | refine Below.setCell ?_ (by (try simp); omega) _ | refine grew_drewN ?_ _ | refine grew_drew ?_ | refine grew_trans ?_ (by assumption)))⟩
      · have hop' : inM s.ops (nth xs j) = false := by simpa using hop
        go_wp2_with (go_at_call 83; with_reducible refine (isOp_any s _ _ _ HS').mono ?_; rintro e w1 ⟨rfl, hx⟩; replace hg := grew_trans hg hx; have hc := (bcell hg).1)
        go_ret
        exact ⟨ret_bool (isWordM_op hlt hop').symm, (by repeat' (first | exact grew_refl _ | assumption | refine grew_alloc ?_ _ | refine Below.setCell ?_ (by (try simp); omega) _ | refine grew_drewN ?_ _ | refine grew_drew ?_ | refine grew_trans ?_ (by assumption)))⟩
    · obtain rfl : j = xs.length := by omega
      go_wp2
      go_ret
      refine ⟨ret_bool ?_, gw⟩
      rw [isWordM_true HT.out]
end Go.Proofs.Ytnebpcpihldllaa
