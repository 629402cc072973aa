/- Walks: Same and Classes, of the program's own text. -/
import Derived.Test.YtnebpcpihldllaaWSame
import Derived.Test.YtnebpcpihldllaaWRuns
namespace Go.Proofs.Ytnebpcpihldllaa
open Go.RowKit Go.Lin

set_option maxHeartbeats 1000000 in
theorem same1_any (s : RSpec) (sv : Value) (B C : Nat) (a b : Int) (w : World) (h1 : 1 ≤ s.st) (h2 : s.st ≤ 8) (hs : IsSpec w sv s) (hB : w.cell? ⟨B, 0, none⟩ = some (.int .i64 a)) (hC : w.cell? ⟨C, 0, none⟩ = some (.int .i64 b)) :
    Says 64 #[.pointer (some ⟨B, 0, none⟩), .pointer (some ⟨C, 0, none⟩)] sv (inM s.st a && inM s.st b) w := by
  intro w' hw
  have hB' := (hw.cell (p := ⟨B, 0, none⟩) (World.block_lt_of_cell? w _ hB)).trans hB
  have hC' := (hw.cell (p := ⟨C, 0, none⟩) (World.block_lt_of_cell? w _ hC)).trans hC
  have HS := hs.grew hw
  obtain ⟨nv, yv, rfl, _, _⟩ := hs
  clear hB hC hw
  obtain ⟨W0, hW0, g0, k0, k1, k2, k3, hz⟩ := box4 w' (.int .i64 s.st) (.int .i64 s.ops) nv yv 60
  have hltB := World.block_lt_of_cell? w' _ hB'
  have hltC := World.block_lt_of_cell? w' _ hC'
  have hB0 := (g0.cell (p := ⟨B, 0, none⟩) hltB).trans hB'
  have hC0 := (g0.cell (p := ⟨C, 0, none⟩) hltC).trans hC'
  obtain ⟨W1, hW1, g1, l0, l1, hz1⟩ := box2 W0 (.int .i64 a) (.int .i64 b) 3
  have hx : IsInts Any W1 (.slice (some ⟨W0.heap.size, 0, none⟩) 2 2) [a, b] := ⟨_, _, rfl, by simp, fun i hi => by
    have hi' : i = 0 ∨ i = 1 := by simp at hi; omega
    rcases hi' with rfl | rfl
    · exact ⟨_, _, _, rfl, Array.getElem?_eq_getElem hz1, trivial, by simpa [nth] using l0⟩
    · exact ⟨_, _, _, rfl, Array.getElem?_eq_getElem hz1, trivial, by simpa [nth] using l1⟩⟩
  have HST := hid (state_any s _ _ _ W1 h1 h2 ((HS.grew g0).grew g1) hx)
  clear hx
  go_enter Try.func64, Try.ntmps64
  go_wp2_with (go_at_call 58; with_reducible refine HST.out.mono ?_; rintro e w1 ⟨rfl, hx⟩)
  go_ret
  refine ⟨ret_bool (by simp), (by repeat' (first | exact grew_refl _ | assumption | refine grew_alloc ?_ _ | refine Below.setCell ?_ (by (try simp); omega) _ | refine grew_drewN ?_ _ | refine grew_drew ?_ | refine grew_trans ?_ (by assumption)))⟩

theorem opened_same (s : RSpec) (sv : Value) (B C : Nat) (a b : Int) (w : World) (hs : IsSpec w sv s) (hB : w.cell? ⟨B, 0, none⟩ = some (.int .i64 a)) (hC : w.cell? ⟨C, 0, none⟩ = some (.int .i64 b)) :
    Calls Try.prog 56 #[sv, .func (.func 64) #[] #[.pointer (some ⟨B, 0, none⟩), .pointer (some ⟨C, 0, none⟩)]] w fun e w' => e = .returned (.tuple #[if askedM s a b = 0 then sv else zeroSpec, .int .i64 (askedM s a b)]) ∧ Grew w w' := by
  cases hv : validM s with
  | false =>
    have he : askedM s a b = 10 := by unfold askedM; rw [hv]; rfl
    rw [he]; exact opened_bad s _ _ _ hs hv
  | true =>
    obtain ⟨⟨b1, b2, _, _⟩, _⟩ := valid_parts hv
    have h := same1_any s _ _ _ a b w b1 b2 hs hB hC
    cases hi : inM s.st a && inM s.st b with
    | false =>
      have he : askedM s a b = 2 := by unfold askedM; rw [hv, hi]; rfl
      rw [he]; rw [hi] at h
      exact opened_arg s _ _ _ _ hs hv entered64 h
    | true =>
      have he : askedM s a b = 0 := by unfold askedM; rw [hv, hi]; rfl
      rw [he]; rw [hi] at h
      exact opened_ok s _ _ _ _ hs hv entered64 h

set_option maxHeartbeats 2000000 in
theorem sameOf_ok (s : RSpec) (a b : Nat) (sB : Nat → Nat → Bool) (hsB : ∀ a b, sB a b = true ↔ NoTells (machOf s) (machOf s) a b) (sv : Value) (w : World) (hs : IsSpec w sv s) (hv : validM s = true) (ha : a < (machOf s).n) (hb : b < (machOf s).n) :
    Calls Try.prog 21 #[sv, .int .i64 (a : Int), .int .i64 (b : Int)] w fun e w' => e = .returned (.tuple #[.bool (sB a b), .int .i64 0]) ∧ Grew w w' := by
  have HS := hs
  have hok : askedM s a b = 0 := by
    have h1 : inM s.st (a : Int) = true := by unfold inM; simp; simp only [machOf] at ha; omega
    have h2 : inM s.st (b : Int) = true := by unfold inM; simp; simp only [machOf] at hb; omega
    unfold askedM; rw [hv, h1, h2]; rfl
  have HM := hid (fun (y : World) (hy : Grew w y) => same65_any (machOf s) (wf_machOf hv) sB hsB _ a b y ha hb ((hs.isMach hv).grew hy))
  obtain ⟨na, nc, ya, yc, rfl⟩ := isSpec_open' hs
  clear hs
  obtain ⟨W0, hW0, g0, k0, k1, k2, k3, hz⟩ := box4 w (.int .i64 s.st) (.int .i64 s.ops) (.slice na s.next.length nc) (.slice ya s.says.length yc) 24
  obtain ⟨W1, hW1, g1, l0, hz1⟩ := box1 W0 (.int .i64 (a : Int)) 3
  obtain ⟨W2, hW2, g2, m0, hz2⟩ := box1 W1 (.int .i64 (b : Int)) 3
  have g02 := grew_trans g0 (grew_trans g1 g2)
  have e0 := (g2.cell (p := ⟨W0.heap.size, 0, none⟩) hz1).trans l0
  have r0 := ((grew_trans g1 g2).cell (p := ⟨w.heap.size, 0, none⟩) hz).trans k0
  have r1 := ((grew_trans g1 g2).cell (p := ⟨w.heap.size, 1, none⟩) hz).trans k1
  have r2 := ((grew_trans g1 g2).cell (p := ⟨w.heap.size, 2, none⟩) hz).trans k2
  have r3 := ((grew_trans g1 g2).cell (p := ⟨w.heap.size, 3, none⟩) hz).trans k3
  clear k0 k1 k2 k3
  have hop := opened_same s _ _ _ a b W2 (HS.grew g02) e0 m0
  rw [if_pos hok, hok] at hop
  have HOP := hid hop; clear hop
  clear hok hv ha hb hsB
  have hz0 : w.heap.size < W2.heap.size := by have := g1.size; have := g2.size; omega
  have hz3 : W0.heap.size < W2.heap.size := by have := g2.size; omega
  go_enter Try.func21, Try.ntmps21
  go_wp2_with (first
    | (go_at_call 56; with_reducible refine HOP.out.mono ?_; rintro e w1 ⟨rfl, hx⟩; have hc := (bcell hx).1; have hlt0 : W0.heap.size < w1.heap.size := Nat.lt_of_lt_of_le hz3 hx.size; have hlt1 : W1.heap.size < w1.heap.size := Nat.lt_of_lt_of_le hz2 hx.size)
    | (go_at_call 65; with_reducible refine (HM.out _ (grew_alloc (grew_trans g02 hx) _)).mono ?_; rintro e w2 ⟨rfl, hg2⟩))
  go_ret2
  exact ⟨rfl, grew_trans (grew_alloc (grew_trans g02 hx) _) hg2⟩

set_option maxHeartbeats 2000000 in
theorem classesOf_ok (s : RSpec) (sB : Nat → Nat → Bool) (cl : Nat → Nat) (hS : Sames (machOf s) sB cl) (sv : Value) (w : World) (hs : IsSpec w sv s) (hv : validM s = true) :
    Calls Try.prog 26 #[sv] w fun e w' => ∃ u, e = .returned (.tuple #[u, .int .i64 0]) ∧ IsNats Any w' u ((List.range (machOf s).n).map cl) ∧ Grew w w' := by
  have HS := hs
  have HM := hid (fun (y : World) (hy : Grew w y) => classes_any (machOf s) (wf_machOf hv) sB cl hS _ y ((hs.isMach hv).grew hy))
  have HOP := hid (fun (y : World) (hy : Grew w y) => opened_ok s _ 70 #[] y (hs.grew hy) hv entered70 (whatever_says _ y s (hs.grew hy)))
  obtain ⟨na, nc, ya, yc, rfl⟩ := isSpec_open' hs
  clear hs hv hS
  obtain ⟨W0, hW0, g0, k0, k1, k2, k3, hz⟩ := box4 w (.int .i64 s.st) (.int .i64 s.ops) (.slice na s.next.length nc) (.slice ya s.says.length yc) 24
  go_enter Try.func26, Try.ntmps26
  go_wp2_with (first
    | (go_at_call 56; with_reducible refine (HOP.out _ g0).mono ?_; rintro e w1 ⟨rfl, hx⟩; have hc := (bcell hx).1)
    | (go_at_call 71; with_reducible refine (HM.out _ (grew_alloc (grew_trans g0 hx) _)).mono ?_; rintro e w2 ⟨u, rfl, hseg, hg2⟩; have HSEG := hid hseg; clear hseg; obtain ⟨ua, uc, rfl, _⟩ := HSEG.out.shape))
  go_ret2
  refine ⟨_, rfl, ?_, grew_trans (grew_alloc (grew_trans g0 hx) _) hg2⟩
  have h := HSEG.out
  have hl : ((List.range (machOf s).n).map cl).length = (machOf s).n := by simp
  unfold IsNats
  rw [hl]
  refine (h.reads _ (fun i hi => ?_)).any
  simp [List.getElem?_map, List.getElem?_range hi, nthN, List.getD]
end Go.Proofs.Ytnebpcpihldllaa
