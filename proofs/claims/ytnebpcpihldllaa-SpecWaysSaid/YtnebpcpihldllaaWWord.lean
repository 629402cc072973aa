/- Walks: the word that tells two states apart, of the program's own text. -/
import Derived.Test.YtnebpcpihldllaaWApart
import Derived.Test.YtnebpcpihldllaaWBegun
namespace Go.Proofs.Ytnebpcpihldllaa
open Go.RowKit Go.Lin

set_option maxHeartbeats 1000000 in
theorem word1_any (s : RSpec) (sv : Value) (B C : Nat) (a b : Int) (w : World) (h1 : 1 ≤ s.st) (h2 : s.st ≤ 8) (hs : IsSpec w sv s) (hB : w.cell? ⟨B, 0, none⟩ = some (.int .i64 a)) (hC : w.cell? ⟨C, 0, none⟩ = some (.int .i64 b)) :
    Says 67 #[.pointer (some ⟨B, 0, none⟩), .pointer (some ⟨C, 0, none⟩)] sv (inM s.st a && inM s.st b) w := by
  intro w' hw
  have hB' := (hw.cell (p := ⟨B, 0, none⟩) (World.block_lt_of_cell? w _ hB)).trans hB
  have hC' := (hw.cell (p := ⟨C, 0, none⟩) (World.block_lt_of_cell? w _ hC)).trans hC
  have HS := hs.grew hw
  obtain ⟨nv, yv, rfl, _, _⟩ := hs
  clear hB hC hw
  obtain ⟨W0, hW0, g0, k0, k1, k2, k3, hz⟩ := box4 w' (.int .i64 s.st) (.int .i64 s.ops) nv yv 60
  have hltB := World.block_lt_of_cell? w' _ hB'
  have hltC := World.block_lt_of_cell? w' _ hC'
  have hB0 := (g0.cell (p := ⟨B, 0, none⟩) hltB).trans hB'
  have hC0 := (g0.cell (p := ⟨C, 0, none⟩) hltC).trans hC'
  obtain ⟨W1, hW1, g1, l0, l1, hz1⟩ := box2 W0 (.int .i64 a) (.int .i64 b) 3
  have hx : IsInts Any W1 (.slice (some ⟨W0.heap.size, 0, none⟩) 2 2) [a, b] := ⟨_, _, rfl, by simp, fun i hi => by
    have hi' : i = 0 ∨ i = 1 := by simp at hi; omega
    rcases hi' with rfl | rfl
    · exact ⟨_, _, _, rfl, Array.getElem?_eq_getElem hz1, trivial, by simpa [nth] using l0⟩
    · exact ⟨_, _, _, rfl, Array.getElem?_eq_getElem hz1, trivial, by simpa [nth] using l1⟩⟩
  have HST := hid (state_any s _ _ _ W1 h1 h2 ((HS.grew g0).grew g1) hx)
  clear hx
  go_enter Try.func67, Try.ntmps67
  go_wp2_with (go_at_call 58; with_reducible refine HST.out.mono ?_; rintro e w1 ⟨rfl, hx⟩)
  go_ret
  refine ⟨ret_bool (by simp), (by repeat' (first | exact grew_refl _ | assumption | refine grew_alloc ?_ _ | refine Below.setCell ?_ (by (try simp); omega) _ | refine grew_drewN ?_ _ | refine grew_drew ?_ | refine grew_trans ?_ (by assumption)))⟩

/-- What 'opened' answers of two states. -/
theorem opened_two (s : RSpec) (sv : Value) (B C : Nat) (a b : Int) (w : World) (hs : IsSpec w sv s) (hB : w.cell? ⟨B, 0, none⟩ = some (.int .i64 a)) (hC : w.cell? ⟨C, 0, none⟩ = some (.int .i64 b)) :
    Calls Try.prog 56 #[sv, .func (.func 67) #[] #[.pointer (some ⟨B, 0, none⟩), .pointer (some ⟨C, 0, none⟩)]] w fun e w' => e = .returned (.tuple #[if askedM s a b = 0 then sv else zeroSpec, .int .i64 (askedM s a b)]) ∧ Grew w w' := by
  cases hv : validM s with
  | false =>
    have he : askedM s a b = 10 := by unfold askedM; rw [hv]; rfl
    rw [he]; exact opened_bad s _ _ _ hs hv
  | true =>
    obtain ⟨⟨b1, b2, _, _⟩, _⟩ := valid_parts hv
    have h := word1_any s _ _ _ a b w b1 b2 hs hB hC
    cases hi : inM s.st a && inM s.st b with
    | false =>
      have he : askedM s a b = 2 := by unfold askedM; rw [hv, hi]; rfl
      rw [he]; rw [hi] at h
      exact opened_arg s _ _ _ _ hs hv entered67 h
    | true =>
      have he : askedM s a b = 0 := by unfold askedM; rw [hv, hi]; rfl
      rw [he]; rw [hi] at h
      exact opened_ok s _ _ _ _ hs hv entered67 h

set_option maxHeartbeats 2000000 in
theorem word_bad (s : RSpec) (a b : Int) (sv : Value) (w : World) (hs : IsSpec w sv s) (hbad : askedM s a b ≠ 0) :
    Calls Try.prog 23 #[sv, .int .i64 a, .int .i64 b] w fun e w' => e = .returned (.tuple #[.slice none 0 0, .int .i64 (askedM s a b)]) ∧ Grew w w' := by
  have HS := hs
  obtain ⟨nv, yv, rfl, hn, hy⟩ := hs
  obtain ⟨W0, hW0, g0, k0, k1, k2, k3, hz⟩ := box4 w (.int .i64 s.st) (.int .i64 s.ops) nv yv 24
  obtain ⟨W1, hW1, g1, l0, hz1⟩ := box1 W0 (.int .i64 a) 3
  obtain ⟨W2, hW2, g2, m0, hz2⟩ := box1 W1 (.int .i64 b) 3
  have g02 := grew_trans g0 (grew_trans g1 g2)
  have e0 := (g2.cell (p := ⟨W0.heap.size, 0, none⟩) hz1).trans l0
  have r0 := ((grew_trans g1 g2).cell (p := ⟨w.heap.size, 0, none⟩) hz).trans k0
  have r1 := ((grew_trans g1 g2).cell (p := ⟨w.heap.size, 1, none⟩) hz).trans k1
  have r2 := ((grew_trans g1 g2).cell (p := ⟨w.heap.size, 2, none⟩) hz).trans k2
  have r3 := ((grew_trans g1 g2).cell (p := ⟨w.heap.size, 3, none⟩) hz).trans k3
  clear k0 k1 k2 k3
  have hop := opened_two s _ _ _ a b W2 (HS.grew g02) e0 m0
  rw [if_neg hbad] at hop
  obtain ⟨ev, hev⟩ : ∃ ev, askedM s a b = ev := ⟨_, rfl⟩
  rw [hev] at hop hbad ⊢
  have hb : (ev != 0) = true := by simpa using hbad
  have HOP := hid hop; clear hop hev hbad
  have hz0 : w.heap.size < W2.heap.size := by have := g1.size; have := g2.size; omega
  go_enter Try.func23, Try.ntmps23
  go_wp2_with (go_at_call 56; with_reducible refine HOP.out.mono ?_; rintro e w1 ⟨rfl, hx⟩)
  go_ret2
  exact ⟨rfl, (by repeat' (first | exact grew_refl _ | assumption | refine grew_alloc ?_ _ | refine Below.setCell ?_ (by (try simp); omega) _ | refine grew_drewN ?_ _ | refine grew_drew ?_ | refine grew_trans ?_ (by assumption)))⟩

set_option maxHeartbeats 2000000 in
theorem word_cap (s : RSpec) (a b : Nat) (sv : Value) (w : World) (hs : IsSpec w sv s) (hok : askedM s a b = 0) :
    Calls Try.prog 23 #[sv, .int .i64 (a : Int), .int .i64 (b : Int)] w fun e w' => ∃ u ev, e = .returned (.tuple #[u, .int .i64 ev]) ∧ Grew w w' ∧
      ((ev = 0 ∧ ∃ ws, IsFirst (machOf s) (machOf s) a b ws ∧ IsNats Any w' u ws ∧ ∃ ad c, u = .slice ad ws.length c ∧ ws.length ≤ c) ∨ (ev = 5 ∧ u = .slice none 0 0 ∧ NoTells (machOf s) (machOf s) a b)) := by
  have hv : validM s = true := by
    cases h : validM s with
    | true => rfl
    | false => unfold askedM at hok; rw [h] at hok; cases hok
  have hin : (inM s.st a && inM s.st b) = true := by
    cases h : inM s.st a && inM s.st b with
    | true => rfl
    | false => unfold askedM at hok; rw [hv, h] at hok; cases hok
  have hab : a < (machOf s).n ∧ b < (machOf s).n := by
    unfold inM at hin
    simp at hin
    simp only [machOf]; omega
  have HS := hs
  have hmach := hs.isMach hv
  have hwf := wf_machOf hv
  obtain ⟨nv, yv, rfl, ⟨V, ⟨na, nc, rfl, _, _⟩, _⟩, ⟨V2, ⟨ya, yc, rfl, _, _⟩, _⟩⟩ := hs
  obtain ⟨W0, hW0, g0, k0, k1, k2, k3, hz⟩ := box4 w (.int .i64 s.st) (.int .i64 s.ops) (.slice na s.next.length nc) (.slice ya s.says.length yc) 24
  obtain ⟨W1, hW1, g1, l0, hz1⟩ := box1 W0 (.int .i64 (a : Int)) 3
  obtain ⟨W2, hW2, g2, m0, hz2⟩ := box1 W1 (.int .i64 (b : Int)) 3
  have g02 := grew_trans g0 (grew_trans g1 g2)
  have e0 := (g2.cell (p := ⟨W0.heap.size, 0, none⟩) hz1).trans l0
  have r0 := ((grew_trans g1 g2).cell (p := ⟨w.heap.size, 0, none⟩) hz).trans k0
  have r1 := ((grew_trans g1 g2).cell (p := ⟨w.heap.size, 1, none⟩) hz).trans k1
  have r2 := ((grew_trans g1 g2).cell (p := ⟨w.heap.size, 2, none⟩) hz).trans k2
  have r3 := ((grew_trans g1 g2).cell (p := ⟨w.heap.size, 3, none⟩) hz).trans k3
  clear k0 k1 k2 k3
  have hop := opened_two s _ _ _ a b W2 (HS.grew g02) e0 m0
  rw [if_pos hok, hok] at hop
  have HOP := hid hop; clear hop
  have HM := hid hmach; have HWF := hid hwf; have HAB := hid hab
  clear hmach hwf hok hv hin hab
  have hz0 : w.heap.size < W2.heap.size := by have := g1.size; have := g2.size; omega
  have hz3 : W0.heap.size < W2.heap.size := by have := g2.size; omega
  go_enter Try.func23, Try.ntmps23
  go_wp2_with (first
    | (go_at_call 56; with_reducible refine HOP.out.mono ?_; rintro e w1 ⟨rfl, hx⟩; have hc := (bcell hx).1; have hlt0 : W0.heap.size < w1.heap.size := Nat.lt_of_lt_of_le hz3 hx.size; have hlt1 : W1.heap.size < w1.heap.size := Nat.lt_of_lt_of_le hz2 hx.size)
    | (go_at_call 68; refine (apart_cap (machOf s) (machOf s) HWF.out HWF.out rfl _ _ a b _ HAB.out.1 HAB.out.2 (HM.out.grew ?_) (HM.out.grew ?_)).mono ?_; exact (by repeat' (first | exact grew_refl _ | assumption | refine grew_alloc ?_ _ | refine Below.setCell ?_ (by (try simp); omega) _ | refine grew_drewN ?_ _ | refine grew_drew ?_ | refine grew_trans ?_ (by assumption))); exact (by repeat' (first | exact grew_refl _ | assumption | refine grew_alloc ?_ _ | refine Below.setCell ?_ (by (try simp); omega) _ | refine grew_drewN ?_ _ | refine grew_drew ?_ | refine grew_trans ?_ (by assumption))); rintro e w2 ⟨u, r, rfl, hg2, hres⟩; have HRES := hid hres; clear hres; cases r))
  · go_ret2
    rcases HRES.out with ⟨h, _⟩ | ⟨_, rfl, hno⟩
    · cases h
    · exact ⟨_, _, rfl, (by repeat' (first | exact grew_refl _ | assumption | refine grew_alloc ?_ _ | refine Below.setCell ?_ (by (try simp); omega) _ | refine grew_drewN ?_ _ | refine grew_drew ?_ | refine grew_trans ?_ (by assumption))), .inr ⟨rfl, rfl, hno⟩⟩
  · go_ret2
    rcases HRES.out with ⟨_, ws, h1, h2⟩ | ⟨h, _⟩
    · exact ⟨_, _, rfl, (by repeat' (first | exact grew_refl _ | assumption | refine grew_alloc ?_ _ | refine Below.setCell ?_ (by (try simp); omega) _ | refine grew_drewN ?_ _ | refine grew_drew ?_ | refine grew_trans ?_ (by assumption))), .inl ⟨rfl, ws, h1, h2⟩⟩
    · cases h
theorem word_ok (s : RSpec) (a b : Nat) (sv : Value) (w : World) (hs : IsSpec w sv s) (hok : askedM s a b = 0) :
    Calls Try.prog 23 #[sv, .int .i64 (a : Int), .int .i64 (b : Int)] w fun e w' => ∃ u ev, e = .returned (.tuple #[u, .int .i64 ev]) ∧ Grew w w' ∧
      ((ev = 0 ∧ ∃ ws, IsFirst (machOf s) (machOf s) a b ws ∧ IsNats Any w' u ws) ∨ (ev = 5 ∧ u = .slice none 0 0 ∧ NoTells (machOf s) (machOf s) a b)) := by
  refine (word_cap s a b sv w hs hok).mono ?_
  rintro e w' ⟨u, ev, he, hg, h⟩
  refine ⟨u, ev, he, hg, ?_⟩
  rcases h with ⟨h1, ws, h2, h3, _⟩ | h
  · exact .inl ⟨h1, ws, h2, h3⟩
  · exact .inr h
end Go.Proofs.Ytnebpcpihldllaa
