/- The program's loom in memory; walks: letter, start. -/
import Derived.Test.YtddnpooffcjhnaaWvSame
namespace Go.Proofs.Ytddnpooffcjhnaa
open Go.RowKit Go.Lin Go.Lin.Wv

/-- A loom: how many letters there are, and which of them depend. -/
structure Loom (w : World) (B : Nat) (D : Int → Int → Bool) (N : Nat) : Prop where
  lt : B < w.heap.size
  c0 : w.cell? ⟨B, 0, none⟩ = some (.int .i64 (N : Int))
  cs : ∀ a b : Nat, a < N → b < N → w.cell? ⟨B, 1 + a * 6 + b, none⟩ = some (.bool (D a b))

theorem Loom.grew {w w' : World} {B : Nat} {D : Int → Int → Bool} {N : Nat} (h : Loom w B D N) (hg : Grew w w') : Loom w' B D N :=
  ⟨Nat.lt_of_lt_of_le h.lt hg.size, (hg.cell (p := ⟨B, 0, none⟩) h.lt).trans h.c0, fun a b ha hb => (hg.cell (p := ⟨B, 1 + a * 6 + b, none⟩) h.lt).trans (h.cs a b ha hb)⟩

set_option maxHeartbeats 1000000 in
theorem letter_any {D : Int → Int → Bool} (B N : Nat) (a : Int) (w : World) (hN : N ≤ 6) (hL : Loom w B D N) : Calls Try.prog 78 #[.pointer (some ⟨B, 0, none⟩), .int .i64 a] w fun e w' => e = .returned (.bool (decide (0 ≤ a) && decide (a ≤ (N : Int) - 1))) ∧ Grew w w' := by
  have k0 := hL.c0
  have hlt := hL.lt
  have HB := hid (between_any 0 a ((N : Int) - 1) w)
  obtain ⟨r, hr⟩ : ∃ r, (decide (0 ≤ a) && decide (a ≤ (N : Int) - 1)) = r := ⟨_, rfl⟩
  rw [hr] at HB ⊢
  have hwr : IntKind.i64.wrap ((N : Int) - 1) = (N : Int) - 1 := IntWalk.i64_in _ (by omega)
  go_enter Try.func78, Try.ntmps78
  go_wp2_with (go_at_call 61; (with_reducible refine HB.out.mono ?_); rintro e w1 ⟨rfl, hx⟩; have HX := hid hx; clear hx)
  go_ret
  exact ⟨rfl, HX.out⟩

set_option maxHeartbeats 4000000 in
set_option maxRecDepth 20000 in
theorem start_any {D : Int → Int → Bool} (B N a : Nat) (wv : Value) (x : List Int) (w : World) (hN : N ≤ 6) (ha : a < N) (hw : ∀ z ∈ x, 0 ≤ z ∧ z < (N : Int)) (hL : Loom w B D N) (hx : IsInts Any w wv x) :
    Calls Try.prog 99 #[.pointer (some ⟨B, 0, none⟩), wv, .int .i64 (a : Int)] w fun e w' => e = .returned (.int .i64 (ix (free D x a))) ∧ Grew w w' := by
  obtain ⟨va, vc, rfl, hm, hc⟩ := hx
  obtain ⟨m, hmm⟩ : ∃ m, x.length = m := ⟨_, rfl⟩
  obtain ⟨r, hr⟩ : ∃ r, free D x a = r := ⟨_, rfl⟩
  rw [hr]
  rw [hmm] at hm hc ⊢
  have HM := hid hmm
  have HC := hid hc
  have HW := hid hw
  have HR := hid (show free D (x.drop 0) a = r by simpa using hr)
  have hg := grew_refl w
  have HL := hid hL
  clear hmm hc hr hw hL
  go_enter Try.func99, Try.ntmps99
  go_wp2
  go_loopg [7, 8, 11] m (fun k _ _ i wr => ∃ (j : Nat) (q : Option Nat), j ≤ m ∧ i = .int .i64 j ∧ k = m - j ∧ Hid (free D (x.drop j) a = q) ∧ Hid (r = q.map (· + j)) ∧ Hid (Grew w wr))
  case atStart => exact ⟨0, r, by omega, rfl, rfl, HR, hid (by simp), hid (grew_refl _)⟩
  case round =>
    obtain ⟨j, q, hj, rfl, hk, HQ, HRQ, HG⟩ := hrel
    have HK := hid hk; clear hk hg
    rename World => wr
    by_cases hlt : j < m
    · obtain ⟨b, off, o, hva, hob, -, hcc⟩ := HC.out j hlt
      subst hva
      have hbl := lt_of_obj hob
      have hjx : j < x.length := by rw [HM.out]; exact hlt
      have hxj : x[j]? = some (nth x j) := by rw [nth_lt hjx]; exact List.getElem?_eq_getElem _
      have hz := HW.out (nth x j) (by rw [nth_lt hjx]; exact List.getElem_mem _)
      replace hcc : _ = some (Value.int .i64 (nth x j)) := hcc
      have hfd := free_drop (D := D) (a := (a : Int)) hxj
      obtain ⟨y, hy⟩ : ∃ y, nth x j = y := ⟨_, rfl⟩
      rw [hy] at hcc hfd hz
      obtain ⟨z, rfl⟩ : ∃ z : Nat, y = (z : Int) := ⟨y.toNat, by omega⟩
      have hzN : z < N := by omega
      have hdc := (HL.out.grew HG.out).cs a z ha hzN
      have hBl := (HL.out.grew HG.out).lt
      have hcw := (HG.out.cell (p := ⟨b, off + j, none⟩) hbl).trans hcc
      have hbw := Nat.lt_of_lt_of_le hbl HG.out.size
      have ha6 : a < 6 := by omega
      have hz6 : z < 6 := by omega
      clear hob hxj hcc hy hjx hz
      cases hya : ((z : Int) == (a : Int))
      · have hne : ¬ ((z : Int) = (a : Int)) := by simpa using hya
        rw [if_neg hne] at hfd
        obtain ⟨d, hd⟩ : ∃ d, D (a : Int) (z : Int) = d := ⟨_, rfl⟩
        rw [hd] at hdc hfd
        cases d
        · have HFD := hid hfd
          clear hfd hd hne
          go_wp2
          go_roundg (m - (j + 1))
          case measure => have := HK.out; omega
          case rel =>
            refine ⟨j + 1, free D (x.drop (j + 1)) a, by omega, by go_num, rfl, hid rfl, hid ?_, HG⟩
            rw [HRQ.out, ← HQ.out, HFD.out]
            simp [Function.comp_def, Nat.add_comm, Nat.add_left_comm]
        · have hq : q = none := by rw [← HQ.out, hfd]; rfl
          have hrn : r = none := by rw [HRQ.out, hq]; rfl
          have HRN := hid hrn
          clear hfd hd hne hq hrn
          go_wp2
          go_ret
          exact ⟨by rw [HRN.out]; rfl, HG.out⟩
      · have he : (z : Int) = (a : Int) := by simpa using hya
        have hq : q = some 0 := by rw [← HQ.out, hfd, if_pos he]
        have hrn : r = some j := by rw [HRQ.out, hq]; simp
        have HRN := hid hrn
        clear hfd he hq hrn
        go_wp2
        go_ret
        exact ⟨by rw [HRN.out]; rfl, HG.out⟩
    · obtain rfl : m = j := by omega
      have hq : q = none := by rw [← HQ.out, List.drop_of_length_le (by rw [HM.out]; exact Nat.le_refl _)]; rfl
      have hrn : r = none := by rw [HRQ.out, hq]; rfl
      have HRN := hid hrn
      clear hq hrn
      go_wp2
      go_ret
      exact ⟨by rw [HRN.out]; rfl, HG.out⟩

end Go.Proofs.Ytddnpooffcjhnaa
