/- Walk: slices.Repeat (46) of one text. -/
import Derived.Test.YtmohnddglmolgaaGreatDoorKpDesk2
import Derived.Laws.CopyOwn
import Derived.Deep.RegionLaw
import Derived.Deep.RegionHeld3
namespace Go.Proofs.YtmohnddglmolgaaGreatDoor
open Go Go.RowKit Go.Lin Go.Lin.Kp

/-- k texts, then empty ones. -/
def filled (t : ByteArray) (n k : Nat) : List Value := List.replicate k (.string t) ++ List.replicate (n - k) (.string ByteArray.empty)

theorem filled_len (t : ByteArray) {n k : Nat} (h : k ≤ n) : (filled t n k).length = n := by simp [filled]; omega

theorem filled_splice (t : ByteArray) {n k m : Nat} (h : k + m ≤ n) : splice (filled t n k) k (List.replicate m (.string t)) = filled t n (k + m) := by
  unfold splice filled
  rw [List.take_append_of_le_length (by simp), List.length_replicate]
  have h1 : List.take k (List.replicate k (Value.string t)) = List.replicate k (Value.string t) := List.take_of_length_le (by simp)
  rw [h1, List.drop_append, List.drop_of_length_le (by simp)]
  simp only [List.length_replicate, List.nil_append, List.drop_replicate]
  rw [← List.append_assoc, List.replicate_append_replicate]
  congr 2
  omega

theorem rep_get {x v : Value} {m j : Nat} (h : (List.replicate m x)[j]? = some v) : j < m ∧ v = x := by
  rw [List.getElem?_replicate] at h
  split at h
  · rename_i hj; exact ⟨hj, (Option.some.inj h).symm⟩
  · cases h

set_option maxHeartbeats 2000000 in
set_option maxRecDepth 20000 in
theorem repeat46_any (t : ByteArray) (bx : Nat) (n : Nat) (hn : n ≤ 1000) (w : World) (hx : w.cell? ⟨bx, 0, none⟩ = some (.string t)) :
    Calls Tryz.prog 46 #[.slice (some ⟨bx, 0, none⟩) 1 1, .int .i64 (n : Int)] w fun e w' => e = .returned (.slice (some ⟨w.heap.size, 0, none⟩) n n) ∧ Grew w w' ∧ w'.heap[w.heap.size]? = some (.cells (List.replicate n (Value.string t)).toArray 9 (0, 0)) := by
  have hmu : ∀ W, Calls Tryz.prog 87 #[.int .u64 1, .int .u64 (n : Int)] W fun e w' => e = .returned (.tuple #[.int .u64 0, .int .u64 (n : Int)]) ∧ W = w' := fun W =>
    (Tryz.bits_Mul 1 n (by omega) (by omega) W).mono fun e w' ⟨he, hw⟩ => ⟨by rw [he, show 1 * n / 18446744073709551616 = 0 by omega, show 1 * n % 18446744073709551616 = n by omega]; rfl, hw.symm⟩
  have HMU := hid hmu
  have hmk := run_make_row' (P := Tryz.prog) 22 9 (.string ByteArray.empty) 16 Tryz.underlying22 Tryz.info9 rfl .i64 .i64 n (by omega) (by omega)
  have hbx := World.block_lt_of_cell? w _ hx
  have hneg : decide ((n : Int) < 0) = false := by simp
  have hbig : decide ((9223372036854775807 : Int) < (n : Int)) = false := by simp; omega
  have hsz9 : (Tryz.prog.info? 9).map (·.size) = some 1 := by kernel_rfl
  obtain ⟨m0, hm0⟩ : ∃ m, min 1 n = m := ⟨_, rfl⟩
  have h0 : (w.alloc (.cells (madeCells #[.string ByteArray.empty] n) 9)).heap[w.heap.size]? = some (.cells (filled t n 0).toArray 9 (0, 0)) := by
    obtain ⟨c, hc, hs, hv⟩ := World.rowIs_made w (.string ByteArray.empty) n 9
    rw [hc]
    have : c = (filled t n 0).toArray := by
      apply Array.ext
      · rw [hs, List.size_toArray, filled_len t (Nat.zero_le n)]
      · intro i h1 h2
        have h3 := hv i (by omega)
        rw [Array.getElem?_eq_getElem h1] at h3
        rw [Option.some.inj h3]
        simp [filled]
    rw [this]
  have H0 := hid h0
  have hx1 : (w.alloc (.cells (madeCells #[.string ByteArray.empty] n) 9)).cell? ⟨bx, 0, none⟩ = some (.string t) := by rw [World.cell?_alloc_lt (a := ⟨bx, 0, none⟩) _ _ hbx]; exact hx
  have HX1 := hid hx1
  clear hmu h0 hx1
  go_enter Tryz.func46, Tryz.ntmps46
  go_wp2_with (first
    | (go_at_call 87; (with_reducible refine (HMU.out _).mono ?_); rintro e w1 ⟨rfl, rfl⟩)
    | ((refine wpList_copy_splice rfl _ _ 22 22 rfl 9 Tryz.underlying22 hsz9 (some ⟨w.heap.size, 0, none⟩) (some ⟨bx, 0, none⟩) n n 1 1 rfl rfl w.heap.size 0 (filled t n 0) 9 H0.out (List.replicate m0 (.string t)) (by rw [List.length_replicate]; exact hm0.symm) (fun _ => ⟨rfl, _, rfl, fun j v hj => by
        obtain ⟨hj1, rfl⟩ := rep_get hj
        have : j = 0 := by omega
        subst this
        exact HX1.out⟩) (by rw [List.length_replicate, filled_len t (Nat.zero_le n)]; omega) (fun v hv => by rw [(List.mem_replicate.1 hv).2]; rfl) w.heap.size w (grew_alloc (grew_refl _) _) (Nat.le_refl _) ?_; intro w2 hh2 hg2; have HH2 := hid hh2; have HG2 := hid hg2; clear hh2 hg2)))
  have HM0 := hid hm0
  have hm1 : m0 ≤ n := by omega
  have hh := HH2.out
  rw [filled_splice t (by omega), Nat.zero_add] at hh
  have HH := hid hh
  clear hm0 hh HH2 H0 HX1 hx
  go_loopg [8] (n - m0) (fun gk kv wr => ∃ k : Nat, m0 ≤ k ∧ k ≤ n ∧ kv = .int .i64 (k : Int) ∧ Hid (gk = n - k) ∧ Hid (wr.heap[w.heap.size]? = some (.cells (filled t n k).toArray 9 (0, 0))) ∧ Hid (Grew w wr))
  case atStart => exact ⟨m0, Nat.le_refl _, hm1, rfl, hid rfl, HH, HG2⟩
  case round =>
    obtain ⟨k, hk0, hkn, rfl, HGK, HC, HG⟩ := hrel
    rename World => wr
    by_cases hlt : k < n
    · have hk1 : 1 ≤ k := by have := HM0.out; omega
      obtain ⟨m, hm⟩ : ∃ m, min k (n - k) = m := ⟨_, rfl⟩
      have HM := hid hm
      have hsub : ((n - k : Nat) : Int) = (n : Int) - (k : Int) := by omega
      have hkI : (k : Int) ≤ (n : Int) := by omega
      have hcapne : ¬ (n = k) := by omega
      have hcells : ∀ W : World, Hid (W.heap[w.heap.size]? = some (.cells (filled t n k).toArray 9 (0, 0))) → ∀ j, j < k → W.cell? ⟨w.heap.size, j, none⟩ = some (.string t) := by
        intro W h j hj
        rw [cell_of_row W w.heap.size j _ _ _ h.out]
        simp [filled, List.getElem?_append_left, hj]
      have HCE := hid hcells
      clear hm hcells
      have htr : True := trivial
      go_wp2
      go_region_held3 (fun w' => w'.os = w'.os) (exact rfl)
        (((refine step_copy_splice (by rfl) _ _ 22 22 (by rfl) 9 Tryz.underlying22 hsz9 (some ⟨w.heap.size, k, none⟩) (some ⟨w.heap.size, 0, none⟩) (n - k) (n - k) k n (by rfl) (by rfl) w.heap.size k (filled t n k) 9 (by exact HC.out) (List.replicate m (.string t)) (by rw [List.length_replicate]; exact HM.out.symm) (fun _ => ⟨rfl, _, rfl, fun j v hj => by
            obtain ⟨hj1, rfl⟩ := rep_get hj
            rw [Addr.add_lit, Nat.zero_add]
            exact HCE.out _ (by exact HC) j (by have := HM.out; omega)⟩) (by rw [List.length_replicate, filled_len t hkn]; have := HM.out; omega) (fun v hv => by rw [(List.mem_replicate.1 hv).2]; rfl) w.heap.size w (by first | exact HG.out | exact grew_drew HG.out) (Nat.le_refl _) ?_; intro w3 hh3 hg3; have HH3 := hid hh3; have HG3 := hid hg3; clear hh3 hg3)))
      all_goals (
        go_wp2
        go_roundg (n - (k + m))
        case measure => have := HGK.out; have := HM.out; omega
        case rel => exact ⟨k + m, by omega, by have := HM.out; omega, by rw [IntWalk.i64_in _ (by have := HM.out; omega)]; go_num, hid rfl, hid (by have h := HH3.out; rw [filled_splice t (by have := HM.out; omega)] at h; exact h), hid HG3.out⟩)
    · obtain rfl : k = n := by omega
      go_wp2
      go_ret
      exact ⟨rfl, HG.out, by have := HC.out; unfold filled at this; simpa using this⟩

end Go.Proofs.YtmohnddglmolgaaGreatDoor
