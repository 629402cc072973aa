import Derived.Test.YtnebpcpihldllaaRows
import Derived.Test.YtnebpcpihldllaaModel
namespace Go.Proofs.Ytnebpcpihldllaa
open Go.RowKit Go.Lin

set_option maxHeartbeats 400000 in
theorem isTable_any (s : RSpec) (sv lv : Value) (l : List (List Int)) (limit : Int) (w : World) (hs : IsSpec w sv s) (hl : IsRows Any w lv l) :
    Calls Try.prog 82 #[sv, lv, .int .i64 limit] w fun e w' => e = .returned (.bool (isTableM s.st s.ops l limit)) ∧ Grew w w' := by
  obtain ⟨nv, yv, rfl, _, _⟩ := hs
  obtain ⟨V, ⟨a, cap, rfl, hm, hc⟩, hr⟩ := hl
  have HC := hid hc; clear hc
  have HR := hid hr; clear hr
  have HG := hid ((Below.refl w.heap.size w).alloc (Nat.le_refl _) (.cells #[.int .i64 s.st, .int .i64 s.ops, nv, yv] 24))
  by_cases hln : (l.length : Int) = s.st
  · have hne : ((l.length : Int) != s.st) = false := by simp [hln]
    have HLN := hid hln; clear hln
    go_enter Try.func82, Try.ntmps82
    go_wp2
    go_loop [18] (fun i => ∃ j : Nat, j ≤ l.length ∧ i = .int .i64 j ∧ Hid (∀ t, t < j → rowOK s.ops limit (nthL l t) = true)) (fun i => l.length - (intOf i).toNat)
    case atStart => exact ⟨0, Nat.zero_le _, rfl, hid (fun t ht => by omega)⟩
    case round =>
      obtain ⟨j, hj, rfl, HOK⟩ := hrel
      by_cases hlt : j < l.length
      · obtain ⟨b, off, o, rfl, hb, _, hcj⟩ := HC.out j hlt
        obtain ⟨a2, cap2, hv, hm2, hc2⟩ := HR.out j hlt
        rw [hv] at hcj
        have hbl := lt_of_obj hb
        have HC2 := hid hc2; clear hc2 hv hb
        by_cases hrl : ((nthL l j).length : Int) = s.ops
        · have hne2 : (((nthL l j).length : Int) != s.ops) = false := by simp [hrl]
          have HRL := hid hrl; clear hrl
          go_wp2
          go_loop [29] (fun i => ∃ t : Nat, t ≤ (nthL l j).length ∧ i = .int .i64 t ∧ Hid (∀ r, r < t → 0 ≤ nth (nthL l j) r ∧ nth (nthL l j) r < limit)) (fun i => (nthL l j).length - (intOf i).toNat)
          case atStart => exact ⟨0, Nat.zero_le _, rfl, hid (fun t ht => by omega)⟩
          case round =>
            obtain ⟨t, ht, rfl, HT⟩ := hrel
            by_cases hlt2 : t < (nthL l j).length
            · obtain ⟨b2, off2, o2, rfl, hb2, _, hct⟩ := HC2.out t hlt2
              have hbl2 := lt_of_obj hb2
              clear hb2
              by_cases hlo : nth (nthL l j) t < 0
              · have hd : decide (nth (nthL l j) t < 0) = true := by simpa using hlo
                go_wp2
                go_ret
                exact ⟨ret_bool (isTableM_row hlt (rowOK_num hlt2 (by omega))).symm, HG.out⟩
              · have hd : decide (nth (nthL l j) t < 0) = false := by simpa using hlo
                by_cases hhi : limit ≤ nth (nthL l j) t
                · have hd2 : decide (limit ≤ nth (nthL l j) t) = true := by simpa using hhi
                  go_wp2
                  go_ret
                  exact ⟨ret_bool (isTableM_row hlt (rowOK_num hlt2 (by omega))).symm, HG.out⟩
                · have hd2 : decide (limit ≤ nth (nthL l j) t) = false := by simpa using hhi
                  have hlo' : 0 ≤ nth (nthL l j) t := by omega
                  have hhi' : nth (nthL l j) t < limit := by omega
                  go_wp2
                  go_round
                  case rel => exact ⟨t + 1, by omega, by go_num, hid (lt_succ_all HT.out ⟨hlo', hhi'⟩)⟩
                  case measure => simp [intOf]; omega
            · obtain rfl : t = (nthL l j).length := by omega
              have HOK2 := hid (rowOK_true HRL.out HT.out)
              go_wp2
              go_round
              case rel => exact ⟨j + 1, by omega, by go_num, hid (lt_succ_all HOK.out HOK2.out)⟩
              case measure => simp [intOf]; omega
        · have hne2 : (((nthL l j).length : Int) != s.ops) = true := by simpa using hrl
          have HRL := hid hrl; clear hrl
          go_wp2
          go_ret
          exact ⟨ret_bool (isTableM_row hlt (rowOK_len HRL.out)).symm, HG.out⟩
      · go_wp2
        go_ret
        obtain rfl : j = l.length := by omega
        exact ⟨ret_bool (isTableM_true HLN.out HOK.out).symm, HG.out⟩
  · have hne : ((l.length : Int) != s.st) = true := by simpa using hln
    have HLN := hid hln; clear hln
    go_enter Try.func82, Try.ntmps82
    go_wp2
    go_ret
    exact ⟨ret_bool (isTableM_len HLN.out).symm, HG.out⟩
end Go.Proofs.Ytnebpcpihldllaa
