/- Walks: how many nodes are in a state. -/
import Derived.Test.YtcifpigjcfkhmaaHSweep4
namespace Go.Proofs.Ytcifpigjcfkhmaa
open Go.RowKit Go.Lin Go.Lin.Hz

theorem eight {l : List Int} (h : l.length = 8) : ∃ a b c d e f g i, l = [a, b, c, d, e, f, g, i] := by
  match l, h with
  | [a, b, c, d, e, f, g, i], _ => exact ⟨a, b, c, d, e, f, g, i, rfl⟩

def cnt (l : List Int) (s : Int) (j : Nat) : Nat := ((l.take j).filter (· == s)).length

theorem cnt_succ {l : List Int} {s : Int} {j : Nat} (h : j < l.length) : cnt l s (j + 1) = if nth l j == s then cnt l s j + 1 else cnt l s j := by
  unfold cnt
  rw [take_succ_nth h, List.filter_append]
  cases hx : nth l j == s <;> simp [hx]

theorem cnt_le (l : List Int) (s : Int) (j : Nat) : cnt l s j ≤ j := by
  unfold cnt
  refine Nat.le_trans (List.length_filter_le _ _) ?_
  simp; omega

set_option maxHeartbeats 2000000 in
set_option maxRecDepth 20000 in
theorem count62_any (Y : Yd) (hI : Inv Y) (b : Nat) (s : Int) (w : World) (hh : YHead w b Y) :
    Calls Try.prog 62 #[.pointer (some ⟨b, 0, none⟩), .int .i64 s] w fun e w' => e = .returned (.int .i64 (count Y s)) ∧ Grew w w' := by
  have HN := hid (none_head hI hh)
  have hlt := hh.lt
  have hg := grew_refl w
  obtain ⟨x0, x1, x2, x3, x4, x5, x6, x7, hst⟩ := eight hI.st
  have k0 : w.cell? ⟨b, 1, none⟩ = some (.int .i64 x0) := by have := hh.cs 0 (by omega); rw [hst] at this; exact this
  have k1 : w.cell? ⟨b, 2, none⟩ = some (.int .i64 x1) := by have := hh.cs 1 (by omega); rw [hst] at this; exact this
  have k2 : w.cell? ⟨b, 3, none⟩ = some (.int .i64 x2) := by have := hh.cs 2 (by omega); rw [hst] at this; exact this
  have k3 : w.cell? ⟨b, 4, none⟩ = some (.int .i64 x3) := by have := hh.cs 3 (by omega); rw [hst] at this; exact this
  have k4 : w.cell? ⟨b, 5, none⟩ = some (.int .i64 x4) := by have := hh.cs 4 (by omega); rw [hst] at this; exact this
  have k5 : w.cell? ⟨b, 6, none⟩ = some (.int .i64 x5) := by have := hh.cs 5 (by omega); rw [hst] at this; exact this
  have k6 : w.cell? ⟨b, 7, none⟩ = some (.int .i64 x6) := by have := hh.cs 6 (by omega); rw [hst] at this; exact this
  have k7 : w.cell? ⟨b, 8, none⟩ = some (.int .i64 x7) := by have := hh.cs 7 (by omega); rw [hst] at this; exact this
  have hres : count Y s = (cnt Y.st s 8 : Nat) := by
    unfold count cnt; rw [List.take_of_length_le (by rw [hI.st]; omega)]
  obtain ⟨r, hr⟩ : ∃ r, count Y s = r := ⟨_, rfl⟩
  rw [hr] at hres ⊢
  have HR := hid hres
  have HL := hid hI.st
  have HST := hid hst
  obtain ⟨l, hl⟩ : ∃ l, Y.st = l := ⟨_, rfl⟩
  rw [hl] at HR HL HST
  clear hres hst hr hl hh
  go_enter Try.func62, Try.ntmps62
  go_wp2_with (go_at_call 56; with_reducible refine (HN.out _ hg).mono ?_; rintro e w1 ⟨rfl, hx⟩; replace hg := grew_trans hg hx; have hc := (bcell hg).1)
  go_loopg [5, 7, 14] 8 (fun k c _ i wr => ∃ j : Nat, j ≤ 8 ∧ i = .int .i64 j ∧ k = 8 - j ∧ c = .int .i64 (cnt l s j : Nat) ∧ Grew w wr)
  case atStart => exact ⟨0, by omega, rfl, rfl, by simp [cnt], hg⟩
  case round =>
    clear hg hc
    obtain ⟨j, hj, rfl, hk, rfl, hg⟩ := hrel
    have HK := hid hk; clear hk
    by_cases hlt8 : j < 8
    · have HC := hid (cnt_succ (l := l) (s := s) (j := j) (by rw [HL.out]; exact hlt8))
      have hle := cnt_le l s j
      obtain ⟨c, hc⟩ : ∃ c, cnt l s j = c := ⟨_, rfl⟩
      rw [hc] at HC hle ⊢
      clear hc
      obtain ⟨x, hx⟩ : ∃ x, nth l j = x := ⟨_, rfl⟩
      rw [hx] at HC
      have hix : ∀ w, (Instr.index 63 (.agg #[.int .i64 x0, .int .i64 x1, .int .i64 x2, .int .i64 x3, .int .i64 x4, .int .i64 x5, .int .i64 x6, .int .i64 x7]) (.int .i64 (j : Int))).run Try.prog w = .ok (.int .i64 x) w := by
        intro w
        rw [← hx, HST.out]
        obtain rfl | rfl | rfl | rfl | rfl | rfl | rfl | rfl : j = 0 ∨ j = 1 ∨ j = 2 ∨ j = 3 ∨ j = 4 ∨ j = 5 ∨ j = 6 ∨ j = 7 := by omega
        all_goals rfl
      have HX := hid hx
      clear hx
      cases hp : (x == s)
      · have HP := hid hp
        go_wp2
        go_roundg (8 - (j + 1))
        case measure => have := HK.out; omega
        case rel => exact ⟨j + 1, by omega, by go_num, rfl, by rw [HC.out, HP.out]; rfl, hg⟩
      · have HP := hid hp
        go_wp2
        go_roundg (8 - (j + 1))
        case measure => have := HK.out; omega
        case rel => exact ⟨j + 1, by omega, by go_num, rfl, by rw [HC.out, HP.out]; go_num, hg⟩
    · obtain rfl : j = 8 := by omega
      go_wp2
      go_ret
      exact ⟨ret_int HR.out.symm, hg⟩

end Go.Proofs.Ytcifpigjcfkhmaa

namespace Go.Proofs.Ytcifpigjcfkhmaa
open Go.RowKit Go.Lin Go.Lin.Hz

set_option maxHeartbeats 400000 in
theorem by26_any (Y : Yd) (hI : Inv Y) (b : Nat) (w : World) (hh : YHead w b Y) : Calls Try.prog 26 #[.pointer (some ⟨b, 0, none⟩)] w fun e w' => e = .returned (.int .i64 (count Y 2)) ∧ Grew w w' := by
  have HC := hid (fun (y : World) (hy : Grew w y) => count62_any Y hI b 2 y (hh.grew hy))
  obtain ⟨r, hr⟩ : ∃ r, count Y 2 = r := ⟨_, rfl⟩
  rw [hr] at HC ⊢
  clear hr hh
  have hg := grew_refl w
  go_enter Try.func26, Try.ntmps26
  go_wp2_with (go_at_call 62; with_reducible refine (HC.out _ hg).mono ?_; rintro e w1 ⟨rfl, hx⟩; replace hg := grew_trans hg hx; have hc := (bcell hg).1)
  go_ret
  exact ⟨rfl, hg⟩

set_option maxHeartbeats 400000 in
theorem free29_any (Y : Yd) (hI : Inv Y) (b : Nat) (w : World) (hh : YHead w b Y) : Calls Try.prog 29 #[.pointer (some ⟨b, 0, none⟩)] w fun e w' => e = .returned (.int .i64 (count Y 0)) ∧ Grew w w' := by
  have HC := hid (fun (y : World) (hy : Grew w y) => count62_any Y hI b 0 y (hh.grew hy))
  obtain ⟨r, hr⟩ : ∃ r, count Y 0 = r := ⟨_, rfl⟩
  rw [hr] at HC ⊢
  clear hr hh
  have hg := grew_refl w
  go_enter Try.func29, Try.ntmps29
  go_wp2_with (go_at_call 62; with_reducible refine (HC.out _ hg).mono ?_; rintro e w1 ⟨rfl, hx⟩; replace hg := grew_trans hg hx; have hc := (bcell hg).1)
  go_ret
  exact ⟨rfl, hg⟩

end Go.Proofs.Ytcifpigjcfkhmaa
