/- The law HazardNils, walked: it answers true. -/
import Derived.Test.YtcifpigjcfkhmaaHNils
import Derived.Test.YtcifpigjcfkhmaaHOpen2
import Derived.Test.YtcifpigjcfkhmaaHPlay
import Derived.Test.YtcifpigjcfkhmaaHSane
namespace Go.Proofs.Ytcifpigjcfkhmaa
open Go.RowKit Go.Lin Go.Lin.Hz

set_option maxHeartbeats 16000000 in
set_option maxRecDepth 100000 in
theorem nils_law (m : Dd) (v : Value) (w : World) (hv : IsDeed v m) :
    Calls Try.prog 11 #[v] w fun e w' => e = .returned (.bool true) ∧ Grew w w' := by
  obtain ⟨d, a, b, c⟩ := m
  obtain rfl := hv
  simp only
  obtain ⟨W0, hW0, g0, k0, k1, k2, k3, hz⟩ := box4 w (.int .i64 d) (.int .i64 a) (.int .i64 b) (.int .i64 c) 32
  have hN : isNew 2 2 = true := by decide
  have hI0 := new_inv hN
  have HNEW := hid (fun y => new_ok 2 2 y hN)
  obtain ⟨Y0, hY0⟩ : ∃ Y0, new 2 2 = Y0 := ⟨_, rfl⟩
  rw [hY0] at hI0 HNEW
  have HI := hid hI0
  clear hY0 hI0 hN
  have HK := hid (fun (y : World) (hy : Grew W0 y) => show y.cell? ⟨w.heap.size, 0, none⟩ = some (.int .i64 d) ∧ y.cell? ⟨w.heap.size, 1, none⟩ = some (.int .i64 a) ∧ y.cell? ⟨w.heap.size, 2, none⟩ = some (.int .i64 b) ∧ y.cell? ⟨w.heap.size, 3, none⟩ = some (.int .i64 c) ∧ w.heap.size < y.heap.size from
    ⟨(hy.cell (p := ⟨w.heap.size, 0, none⟩) hz).trans k0, (hy.cell (p := ⟨w.heap.size, 1, none⟩) hz).trans k1, (hy.cell (p := ⟨w.heap.size, 2, none⟩) hz).trans k2, (hy.cell (p := ⟨w.heap.size, 3, none⟩) hz).trans k3, Nat.lt_of_lt_of_le hz hy.size⟩)
  have HG0 := hid g0
  go_enter Try.func11, Try.ntmps11
  go_wp2_with (go_at_call 27; (with_reducible refine (HNEW.out _).mono ?_); go_loud (
    rintro e w2 ⟨B, Fp, rfl, hy, hlo, hx⟩
    have HNB := hid (none_head HI.out (hy.head HI.out))
    have HX := hid hx
    have hB := (hy.head HI.out).lt
    clear hy hlo hx))
  clear k0 k1 k2 k3 hz g0
  obtain ⟨w3, hw3⟩ : ∃ w3, w2.alloc (.cells #[.int .i64 0, .int .i64 0, .int .i64 0, .int .i64 0, .int .i64 0, .int .i64 0, .int .i64 0, .int .i64 0, .int .i64 0, .slice none 0 0] 66) = w3 := ⟨_, rfl⟩
  have g3 : Grew w2 w3 := by rw [← hw3]; exact grew_alloc (grew_refl _) _
  have z3 : w3.cell? ⟨w2.heap.size, 0, none⟩ = some (.int .i64 0) := by rw [← hw3]; simp
  have s3 : w3.heap.size = w2.heap.size + 1 := by rw [← hw3]; simp
  obtain ⟨w4, hw4⟩ : ∃ w4, w3.alloc (.cells #[.pointer none, .pointer (some ⟨w2.heap.size, 0, none⟩)] 37) = w4 := ⟨_, rfl⟩
  have g4 : Grew w3 w4 := by rw [← hw4]; exact grew_alloc (grew_refl _) _
  have c0 : w4.cell? ⟨w2.heap.size + 1, 0, none⟩ = some (.pointer none) := by rw [← hw4, ← s3]; simp
  have c1 : w4.cell? ⟨w2.heap.size + 1, 1, none⟩ = some (.pointer (some ⟨w2.heap.size, 0, none⟩)) := by rw [← hw4, ← s3]; simp
  have hs4 : w2.heap.size + 1 < w4.heap.size := by rw [← hw4, ← s3]; simp
  have HG24 := hid (grew_trans g3 g4)
  have HX4 := hid (grew_trans HX.out HG24.out)
  rw [hw3, hw4]
  have HPA := hid (fun (j : Nat) (hj : j < 2) (y : World) (hy : Grew w4 y) => show ∃ pa, y.cell? ⟨w2.heap.size + 1, j, none⟩ = some (.pointer pa) ∧ Hid (NoneY y pa) ∧ Hid (pa ≠ some ⟨B, 0, none⟩) from by
    obtain rfl | rfl : j = 0 ∨ j = 1 := by omega
    · exact ⟨none, (hy.cell (p := ⟨w2.heap.size + 1, 0, none⟩) hs4).trans c0, hid (NoneY.nil y), hid (by simp)⟩
    · refine ⟨some ⟨w2.heap.size, 0, none⟩, (hy.cell (p := ⟨w2.heap.size + 1, 1, none⟩) hs4).trans c1, hid ?_, hid (fun h => ?_)⟩
      · have hz4 := (g4.cell (p := ⟨w2.heap.size, 0, none⟩) (show w2.heap.size < w3.heap.size by rw [s3]; omega)).trans z3
        exact NoneY.zero (Nat.lt_of_lt_of_le (show w2.heap.size < w4.heap.size by omega) hy.size) ((hy.cell (p := ⟨w2.heap.size, 0, none⟩) (show w2.heap.size < w4.heap.size by omega)).trans hz4)
      · have h2 : w2.heap.size = B := congrArg Addr.block (Option.some.inj h)
        omega)
  clear hw3 hw4 g3 g4 z3 s3 c0 c1 hB
  go_loopg [6, 7, 8, 9, 10, 11, 12, 13, 14, 15, 16, 17, 18, 19, 20, 40, 47, 56, 63, 72, 116, 123, 130] 2 (fun k i _ _ _ _ _ _ _ _ _ _ _ _ _ _ _ _ _ _ _ _ _ _ wr => ∃ j : Nat, j ≤ 2 ∧ i = .int .i64 j ∧ k = 2 - j ∧ Hid (Grew w4 wr))
  case atStart => exact ⟨0, by omega, rfl, rfl, hid (grew_refl _)⟩
  case round =>
    obtain ⟨j, hj, rfl, hk, HGR⟩ := hrel
    have HKj := hid hk; clear hk
    rename World => wr
    by_cases hlt : j < 2
    · obtain ⟨pa, hpc, HNP, HNE⟩ := HPA.out j hlt wr HGR.out
      have HKR := hid (fun (y : World) (hy : Grew wr y) => HK.out y (grew_trans HX4.out (grew_trans HGR.out hy)))
      have HNBR := hid (fun (y : World) (hy : Grew wr y) => HNB.out y (grew_trans HG24.out (grew_trans HGR.out hy)))
      have hg := grew_refl wr
      have hsl := Nat.lt_of_lt_of_le hs4 HGR.out.size
      obtain ⟨q0, q1, q2, q3, hz1⟩ := HKR.out _ hg
      go_wp2_with (first
          | (go_at_call 41; (with_reducible refine (nil41 pa _ _ (HNP.out.grew hg)).mono ?_); rintro e wz ⟨rfl, hx⟩; replace hg := grew_trans hg hx; clear hx q0 q1 q2 q3 hz1; obtain ⟨q0, q1, q2, q3, hz1⟩ := HKR.out _ hg)
          | (go_at_call 28; (with_reducible refine (nil28 pa _ _ _ (HNP.out.grew hg)).mono ?_); rintro e wz ⟨rfl, hx⟩; replace hg := grew_trans hg hx; clear hx q0 q1 q2 q3 hz1; obtain ⟨q0, q1, q2, q3, hz1⟩ := HKR.out _ hg)
          | (go_at_call 24; (with_reducible refine (nil24 pa _ _ (HNP.out.grew hg)).mono ?_); rintro e wz ⟨rfl, hx⟩; replace hg := grew_trans hg hx; clear hx q0 q1 q2 q3 hz1; obtain ⟨q0, q1, q2, q3, hz1⟩ := HKR.out _ hg)
          | (go_at_call 21; (with_reducible refine (nil21 pa _ _ _ (HNP.out.grew hg)).mono ?_); rintro e wz ⟨rfl, hx⟩; replace hg := grew_trans hg hx; clear hx q0 q1 q2 q3 hz1; obtain ⟨q0, q1, q2, q3, hz1⟩ := HKR.out _ hg)
          | (go_at_call 18; (with_reducible refine (nil18 pa _ _ _ _ _ (HNP.out.grew hg)).mono ?_); rintro e wz ⟨rfl, hx⟩; replace hg := grew_trans hg hx; clear hx q0 q1 q2 q3 hz1; obtain ⟨q0, q1, q2, q3, hz1⟩ := HKR.out _ hg)
          | (go_at_call 20; (with_reducible refine (nil20 pa _ _ (HNP.out.grew hg)).mono ?_); rintro e wz ⟨rfl, hx⟩; replace hg := grew_trans hg hx; clear hx q0 q1 q2 q3 hz1; obtain ⟨q0, q1, q2, q3, hz1⟩ := HKR.out _ hg)
          | (go_at_call 32; (with_reducible refine (nil32 pa _ _ (HNP.out.grew hg)).mono ?_); rintro e wz ⟨rfl, hx⟩; replace hg := grew_trans hg hx; clear hx q0 q1 q2 q3 hz1; obtain ⟨q0, q1, q2, q3, hz1⟩ := HKR.out _ hg)
          | (go_at_call 22; (with_reducible refine (nil22 pa _ _ _ (HNP.out.grew hg)).mono ?_); rintro e wz ⟨rfl, hx⟩; replace hg := grew_trans hg hx; clear hx q0 q1 q2 q3 hz1; obtain ⟨q0, q1, q2, q3, hz1⟩ := HKR.out _ hg)
          | (go_at_call 37; (with_reducible refine (nil37 pa _ _ _ _ (HNP.out.grew hg)).mono ?_); rintro e wz ⟨rfl, hx⟩; replace hg := grew_trans hg hx; clear hx q0 q1 q2 q3 hz1; obtain ⟨q0, q1, q2, q3, hz1⟩ := HKR.out _ hg)
          | (go_at_call 25; (with_reducible refine (nil25 pa _ _ _ (HNP.out.grew hg)).mono ?_); rintro e wz ⟨rfl, hx⟩; replace hg := grew_trans hg hx; clear hx q0 q1 q2 q3 hz1; obtain ⟨q0, q1, q2, q3, hz1⟩ := HKR.out _ hg)
          | (go_at_call 26; (with_reducible refine (nil26 pa _ (HNP.out.grew hg)).mono ?_); rintro e wz ⟨rfl, hx⟩; replace hg := grew_trans hg hx; clear hx q0 q1 q2 q3 hz1; obtain ⟨q0, q1, q2, q3, hz1⟩ := HKR.out _ hg)
          | (go_at_call 29; (with_reducible refine (nil29 pa _ (HNP.out.grew hg)).mono ?_); rintro e wz ⟨rfl, hx⟩; replace hg := grew_trans hg hx; clear hx q0 q1 q2 q3 hz1; obtain ⟨q0, q1, q2, q3, hz1⟩ := HKR.out _ hg)
          | (go_at_call 19; (with_reducible refine (nil19 pa _ (HNP.out.grew hg)).mono ?_); rintro e wz ⟨rfl, hx⟩; replace hg := grew_trans hg hx; clear hx q0 q1 q2 q3 hz1; obtain ⟨q0, q1, q2, q3, hz1⟩ := HKR.out _ hg)
          | (go_at_call 46; (with_reducible refine (nil46 pa _ (HNP.out.grew hg)).mono ?_); rintro e wz ⟨rfl, hx⟩; replace hg := grew_trans hg hx; clear hx q0 q1 q2 q3 hz1; obtain ⟨q0, q1, q2, q3, hz1⟩ := HKR.out _ hg)
          | (go_at_call 45; (with_reducible refine (nil45l pa B _ (HNP.out.grew hg) (fun y hy => HNBR.out y (grew_trans hg hy)) HNE.out).mono ?_); rintro e wz ⟨rfl, hx⟩; replace hg := grew_trans hg hx; clear hx q0 q1 q2 q3 hz1; obtain ⟨q0, q1, q2, q3, hz1⟩ := HKR.out _ hg)
          | (go_at_call 45; (with_reducible refine (nil45r pa B _ (HNP.out.grew hg) (fun y hy => HNBR.out y (grew_trans hg hy)) HNE.out).mono ?_); rintro e wz ⟨rfl, hx⟩; replace hg := grew_trans hg hx; clear hx q0 q1 q2 q3 hz1; obtain ⟨q0, q1, q2, q3, hz1⟩ := HKR.out _ hg)
          | (go_at_call 45; (with_reducible refine (nil45 pa none _ (HNP.out.grew hg) (NoneY.nil _)).mono ?_); rintro e wz ⟨rfl, hx⟩; replace hg := grew_trans hg hx; clear hx q0 q1 q2 q3 hz1; obtain ⟨q0, q1, q2, q3, hz1⟩ := HKR.out _ hg))
      go_roundg (2 - (j + 1))
      case measure => have := HKj.out; omega
      case rel => exact ⟨j + 1, by omega, by go_num, rfl, hid (grew_trans HGR.out hg)⟩
    · obtain rfl : j = 2 := by omega
      go_wp2_with (go_at_call 12; with_reducible refine (sane_any _).mono ?_; rintro e wz ⟨rfl, hx⟩; have HZ := hid hx; clear hx)
      go_ret
      exact ⟨rfl, grew_trans HG0.out (grew_trans HX4.out (grew_trans HGR.out HZ.out))⟩

end Go.Proofs.Ytcifpigjcfkhmaa
