/- Walk: whether the rest of a deed is zero. -/
import Derived.Test.YtcifpigjcfkhmaaHFunc
namespace Go.Proofs.Ytcifpigjcfkhmaa
open Go.RowKit Go.Lin Go.Lin.Hz

theorem says55 (n : Int) (w : World) : Says 55 #[] (.int .i64 n) (n != 0) w := fun w' _ => rest_any n w'

set_option maxHeartbeats 1000000 in
theorem do2_any (B : Nat) (d a b c : Int) (w : World) (hlt : B < w.heap.size) (k0 : w.cell? ⟨B, 0, none⟩ = some (.int .i64 d)) (k1 : w.cell? ⟨B, 1, none⟩ = some (.int .i64 a)) (k2 : w.cell? ⟨B, 2, none⟩ = some (.int .i64 b)) (k3 : w.cell? ⟨B, 3, none⟩ = some (.int .i64 c)) (h1 : 1 ≤ d) (h6 : d ≤ 6) :
    Says0 52 #[.pointer (some ⟨B, 0, none⟩)] (d == 2 || (c == 0 && (b == 0 || !(d == 1 || d == 5)))) w := by
  intro w' hg
  replace k0 := (hg.cell (p := ⟨B, 0, none⟩) hlt).trans k0
  replace k1 := (hg.cell (p := ⟨B, 1, none⟩) hlt).trans k1
  replace k2 := (hg.cell (p := ⟨B, 2, none⟩) hlt).trans k2
  replace k3 := (hg.cell (p := ⟨B, 3, none⟩) hlt).trans k3
  replace hlt := Nat.lt_of_lt_of_le hlt hg.size
  clear hg
  obtain ⟨W0, hW0, g0, e0, e1, e2, hz⟩ := box3 w' (.int .i64 a) (.int .i64 b) (.int .i64 c) 49
  have m0 := (g0.cell (p := ⟨B, 0, none⟩) hlt).trans k0
  have m1 := (g0.cell (p := ⟨B, 1, none⟩) hlt).trans k1
  have m2 := (g0.cell (p := ⟨B, 2, none⟩) hlt).trans k2
  have m3 := (g0.cell (p := ⟨B, 3, none⟩) hlt).trans k3
  have HF := hid (fun (y : World) => fields_any d a b c y h1 h6)
  have hfd : fieldsN d = 1 ∨ fieldsN d = 2 ∨ fieldsN d = 3 := by unfold fieldsN; split <;> (try split) <;> simp
  have HFD := hid (show fieldsN d = if d = 1 ∨ d = 5 then 1 else if d = 2 then 3 else 2 from rfl)
  have R : ∀ (y : World), Grew W0 y → IsInts Any y (.slice (some ⟨w'.heap.size, 1, none⟩) 2 2) [b, c] ∧ IsInts Any y (.slice (some ⟨w'.heap.size, 2, none⟩) 1 1) [c] := by
    intro y hy
    have hz' := Nat.lt_of_lt_of_le hz hy.size
    have f1 := (hy.cell (p := ⟨w'.heap.size, 1, none⟩) hz).trans e1
    have f2 := (hy.cell (p := ⟨w'.heap.size, 2, none⟩) hz).trans e2
    refine ⟨⟨_, _, rfl, by simp, fun i hi => ⟨_, _, _, rfl, Array.getElem?_eq_getElem hz', trivial, ?_⟩⟩, ⟨_, _, rfl, by simp, fun i hi => ⟨_, _, _, rfl, Array.getElem?_eq_getElem hz', trivial, ?_⟩⟩⟩
    · obtain rfl | rfl : i = 0 ∨ i = 1 := by simp at hi; omega
      · exact f1
      · exact f2
    · obtain rfl : i = 0 := by simp at hi; omega
      exact f2
  have H1 := hid (fun (y : World) (hy : Grew W0 y) => containsFunc_any 55 #[] (fun n => n != 0) _ [b, c] y entered55 (R y hy).1 (fun i _ => says55 _ _))
  have H2 := hid (fun (y : World) (hy : Grew W0 y) => containsFunc_any 55 #[] (fun n => n != 0) _ [c] y entered55 (R y hy).2 (fun i _ => says55 _ _))
  have H3 := hid (fun (y : World) (a : Option Addr) (k : Nat) => containsFunc_any 55 #[] (fun n => n != 0) (.slice a 0 k) [] y entered55 (Reads.nil _ _ _ _ _) (fun i _ => says55 _ _))
  obtain ⟨p1, hp1⟩ : ∃ p, [b, c].any (fun n => n != 0) = p := ⟨_, rfl⟩
  obtain ⟨p2, hp2⟩ : ∃ p, [c].any (fun n => n != 0) = p := ⟨_, rfl⟩
  rw [hp1] at H1
  rw [hp2] at H2
  have HP1 := hid hp1
  have HP2 := hid hp2
  obtain ⟨r, hr⟩ : ∃ r, (d == 2 || (c == 0 && (b == 0 || !(d == 1 || d == 5)))) = r := ⟨_, rfl⟩
  rw [hr]
  have HR := hid hr
  have hg := grew_refl W0
  clear hp1 hp2 hr R
  rcases hfd with h | h | h
  all_goals
    rw [h] at HF
    have HH := hid h
    clear h
    go_enter Try.func52, Try.ntmps52
    go_wp2_with (first
      | (go_at_call 54; with_reducible refine (HF.out _).mono ?_; rintro e w1 ⟨rfl, hx⟩; replace hg := grew_trans hg hx; have hc := (bcell hg).1)
      | (go_at_call 53; with_reducible refine (H1.out _ hg).mono ?_; rintro e w2 ⟨rfl, hx⟩; replace hg := grew_trans hg hx)
      | (go_at_call 53; with_reducible refine (H2.out _ hg).mono ?_; rintro e w2 ⟨rfl, hx⟩; replace hg := grew_trans hg hx)
      | (go_at_call 53; with_reducible refine (H3.out _ _ _).mono ?_; rintro e w2 ⟨rfl, hx⟩; replace hg := grew_trans hg hx))
    go_ret
    refine ⟨ret_bool ?_, grew_trans g0 hg⟩
    rw [← HR.out]
    have h1 := HP1.out
    have h2 := HP2.out
    have h3 := HH.out
    have h4 := HFD.out
    first | rw [← h1] | rw [← h2] | skip
    clear h1 h2
    rw [h3] at h4
    by_cases hb : b = 0 <;> by_cases hcc : c = 0 <;> simp [hb, hcc] <;> grind

end Go.Proofs.Ytcifpigjcfkhmaa
