/- Walk: the reference's Decimal (45). -/
import Derived.Test.YtmohnddglmolgaaGreatDoorKpStA
import Derived.Test.YtmohnddglmolgaaGreatDoorKpScr
import Derived.Deep.RegionLaw
import Derived.Laws.IdiomStrings
import Derived.StillTailTactics
namespace Go.Proofs.YtmohnddglmolgaaGreatDoor
open Go Go.RowKit Go.Lin Go.Lin.Kp

theorem digit_u8 {n : Nat} (h : n < 10) : IntKind.u8.wrap (48 + (n : Int)) = 48 + (n : Int) := by
  rcases (show n = 0 ∨ n = 1 ∨ n = 2 ∨ n = 3 ∨ n = 4 ∨ n = 5 ∨ n = 6 ∨ n = 7 ∨ n = 8 ∨ n = 9 by omega) with rfl | rfl | rfl | rfl | rfl | rfl | rfl | rfl | rfl | rfl <;> decide

theorem dec_len_le : ∀ (f u : Nat), u ≤ f → (Lib.decDigits u).length ≤ u + 1
  | f, u, hf => by
    by_cases h : u < 10
    · rw [Lib.decDigits_one h, List.length_singleton]; omega
    · rw [dec_step u h, List.length_append, List.length_singleton]
      cases f with
      | zero => omega
      | succ f => have := dec_len_le f (u / 10) (by omega); omega

theorem conv_digit {n : Nat} (h : n < 10) (W : World) : (convert 41 9 (.slice (some ⟨W.heap.size, 0, none⟩) 1 1)).run Tryz.prog (W.alloc (.cells #[.int .u8 (48 + (n : Int))] 5)) = .ok (.string ⟨#[UInt8.ofNat (48 + n)]⟩) (W.alloc (.cells #[.int .u8 (48 + (n : Int))] 5)) := by
  have hd := digit_nat n h
  exact run_convert_bytes_back (W.alloc (.cells #[.int .u8 (48 + (n : Int))] 5)) 41 9 5 ⟨W.heap.size, 0, none⟩ 1 [UInt8.ofNat (48 + n)] Tryz.underlying41 Tryz.underlying5 Tryz.underlying9 (fun j hj => by
    obtain rfl : j = 0 := by simpa using hj
    rw [Addr.add_lit, List.getElem_cons_zero, hd]
    rw [World.cell?_alloc_new]
    simp)

theorem cat_bytes (l m : List UInt8) : ((⟨l.toArray⟩ : ByteArray) ++ (⟨m.toArray⟩ : ByteArray)) = ⟨(l ++ m).toArray⟩ := by
  apply ByteArray.ext
  rw [ByteArray.data_append]
  simp

theorem conv_at {n : Nat} (h : n < 10) {W : World} {q : Nat} (hc : W.cell? ⟨q, 0, none⟩ = some (.int .u8 (48 + (n : Int)))) : (convert 41 9 (.slice (some ⟨q, 0, none⟩) 1 1)).run Tryz.prog W = .ok (.string ⟨#[UInt8.ofNat (48 + n)]⟩) W := by
  have hd := digit_nat n h
  exact run_convert_bytes_back W 41 9 5 ⟨q, 0, none⟩ 1 [UInt8.ofNat (48 + n)] Tryz.underlying41 Tryz.underlying5 Tryz.underlying9 (fun j hj => by
    obtain rfl : j = 0 := by simpa using hj
    rw [Addr.add_lit, List.getElem_cons_zero, hd]
    exact hc)

set_option maxHeartbeats 2000000 in
set_option maxRecDepth 20000 in
theorem dec45_small (n : Nat) (hn : n < 10) (w : World) : Calls Tryz.prog 45 #[.int .i64 (n : Int)] w fun e w' => e = .returned (.string ⟨(Lib.decDigits n).toArray⟩) ∧ Grew w w' := by
  have d := digit_u8 hn
  have hI : (n : Int) < 10 := by omega
  have d1 : decide ((n : Int) < 10) = true := by simpa using hI
  have hw : IntKind.i64.wrap (48 + (n : Int)) = 48 + (n : Int) := IntWalk.i64_in _ (by omega)
  rw [Lib.decDigits_one hn]
  have hcv := conv_digit hn w
  obtain ⟨bt, hbt⟩ : ∃ b, UInt8.ofNat (48 + n) = b := ⟨_, rfl⟩
  rw [hbt] at hcv ⊢
  clear hbt
  go_enter Tryz.func45, Tryz.ntmps45
  go_wp2
  go_ret
  exact ⟨rfl, grew_alloc (grew_refl _) _⟩

set_option maxHeartbeats 2000000 in
set_option maxRecDepth 20000 in
theorem decimal45_any : ∀ (f n : Nat), n ≤ f → n ≤ 100000000 → ∀ w : World, Calls Tryz.prog 45 #[.int .i64 (n : Int)] w fun e w' => e = .returned (.string ⟨(Lib.decDigits n).toArray⟩) ∧ Grew w w'
  | f, n, hf, hm, w => by
    by_cases hn : n < 10
    · exact dec45_small n hn w
    · cases f with
      | zero => omega
      | succ f =>
        have HC := hid (decimal45_any f (n / 10) (by omega) (by omega))
        have d := digit_u8 (show n % 10 < 10 by omega)
        have d1 : decide ((n : Int) < 10) = false := by simp; omega
        have hq : (n : Int).tdiv 10 = ((n / 10 : Nat) : Int) := by rw [Int.tdiv_eq_ediv_of_nonneg (by omega)]; omega
        have hr : (n : Int).tmod 10 = ((n % 10 : Nat) : Int) := by rw [Int.tmod_eq_emod_of_nonneg (by omega)]; omega
        have hcv := fun W => conv_digit (show n % 10 < 10 by omega) W
        rw [dec_step n hn]
        obtain ⟨q, hq2⟩ : ∃ q, n / 10 = q := ⟨_, rfl⟩
        obtain ⟨r, hr2⟩ : ∃ r, n % 10 = r := ⟨_, rfl⟩
        have hrb : r < 10 := by omega
        rw [hq2] at HC hq ⊢
        rw [hr2] at d hr hcv ⊢
        have hw : IntKind.i64.wrap (48 + (r : Int)) = 48 + (r : Int) := IntWalk.i64_in _ (by omega)
        obtain ⟨bt, hbt⟩ : ∃ b, UInt8.ofNat (48 + r) = b := ⟨_, rfl⟩
        rw [hbt] at hcv ⊢
        have HBT := hid hbt
        have hwq : IntKind.i64.wrap (q : Int) = (q : Int) := IntWalk.i64_in _ (by omega)
        obtain ⟨ds, hds⟩ : ∃ l, Lib.decDigits q = l := ⟨_, rfl⟩
        rw [hds] at HC ⊢
        have hlen : ¬ (9223372036854775807 < ds.length + 1) := by have := dec_len_le q q (Nat.le_refl _); rw [hds] at this; omega
        clear hq2 hr2 hds hn hbt
        have hX8 : ∃ X8 : World, (w.alloc (.cells #[.int .u8 (48 + (r : Int))] 5)).drew = X8 ∧ w.heap.size < X8.heap.size ∧ X8.cell? ⟨w.heap.size, 0, none⟩ = some (.int .u8 (48 + (r : Int))) ∧ Grew w X8 := ⟨_, rfl, by simp, by simp, grew_drew (grew_alloc (grew_refl _) _)⟩
        obtain ⟨X8, hX8, hlt8, hc8, hg8⟩ := hX8
        have hcv3 := conv_at hrb hc8
        rw [HBT.out] at hcv3
        have HG8 := hid hg8
        clear hg8
        go_enter Tryz.func45, Tryz.ntmps45
        go_wp2
        go_region_law (go_simp; go_at_call 45; (with_reducible refine (HC.out _).mono ?_); rintro e w2 ⟨rfl, hg⟩; have HG2 := hid hg; (first | (have hcv2 := conv_at hrb (((show Grew X8 w2 from hg).cell (p := ⟨w.heap.size, 0, none⟩) hlt8).trans hc8); rw [HBT.out] at hcv2) | skip); clear hg)
        all_goals (
          go_wp2
          go_ret
          refine ⟨(show Ending.returned (.string ((⟨ds.toArray⟩ : ByteArray) ++ (⟨[bt].toArray⟩ : ByteArray))) = _ from by rw [cat_bytes]), ?_⟩
          first
            | exact grew_alloc (grew_trans (grew_drew (grew_refl _)) HG2.out) _
            | exact grew_trans HG8.out HG2.out)

end Go.Proofs.YtmohnddglmolgaaGreatDoor
