/- Walks: the word that shows that two specifications are not alike, whether they are, of the program's own text and of the reference's; and both side by side where that cannot be. -/
import Derived.Test.YtnebpcpihldllaaWWords
import Derived.Test.YtnebpcpihldllaaBoth
namespace Go.Lin

/-- The word that shows that two specifications are not alike, and the error. -/
structure PairOf (s t : RSpec) (L : List Int) (ev : Int) : Prop where
  bad : (validM s && validM t) = false → L = [] ∧ ev = 10
  ops : (validM s && validM t) = true → s.ops ≠ t.ops → L = [] ∧ ev = 2
  word : (validM s && validM t) = true → s.ops = t.ops → WordIs (machOf s) (machOf t) 0 0 L ev

theorem pairOf_exists (s t : RSpec) : ∃ L ev, PairOf s t L ev := by
  cases hv : validM s && validM t with
  | false => exact ⟨[], 10, fun _ => ⟨rfl, rfl⟩, fun h => (by rw [hv] at h; cases h), fun h => (by rw [hv] at h; cases h)⟩
  | true =>
    by_cases ho : s.ops = t.ops
    · have hv2 := hv
      rw [Bool.and_eq_true] at hv2
      have h1 := wf_machOf hv2.1
      have h2 := wf_machOf hv2.2
      obtain ⟨L, ev, h⟩ := wordIs_exists h1 h2 (by simp only [machOf]; rw [ho]) (a := 0) (b := 0) h1.n1 h2.n1
      exact ⟨L, ev, fun h => (by rw [hv] at h; cases h), fun _ hn => absurd ho hn, fun _ _ => h⟩
    · exact ⟨[], 2, fun h => (by rw [hv] at h; cases h), fun _ _ => ⟨rfl, rfl⟩, fun _ hn => absurd hn ho⟩

theorem wordIs_ev {M K : Mach} {a b : Nat} {L : List Int} {ev : Int} (h : WordIs M K a b L ev) : (ev = 5 ↔ NoTells M K a b) ∧ (ev = 0 ∨ ev = 5) := by
  rcases h with ⟨rfl, ws, h1, _⟩ | ⟨rfl, _, h1⟩
  · exact ⟨⟨fun h => by omega, fun h => absurd h h1.not_no⟩, .inl rfl⟩
  · exact ⟨⟨fun _ => h1, fun _ => rfl⟩, .inr rfl⟩

/-- Whether they are alike, and the error, by the error of that word. -/
def alikeB (ev : Int) : Bool := decide (ev = 5)
def alikeE (ev : Int) : Int := if ev = 10 then 10 else 0
end Go.Lin
namespace Go.Proofs.Ytnebpcpihldllaa
open Go.RowKit Go.Lin

set_option maxHeartbeats 2000000 in
theorem unlike_any (s t : RSpec) (L : List Int) (ev : Int) (hL : PairOf s t L ev) (sv tv : Value) (w : World) (hs : IsSpec w sv s) (ht : IsSpec w tv t) :
    Calls Try.prog 37 #[sv, tv] w fun e w' => ∃ u, e = .returned (.tuple #[u, .int .i64 ev]) ∧ IsInts Any w' u L ∧ Grew w w' := by
  have HV1 := hid (fun (y : World) (hy : Grew w y) => valid_any s sv y (hs.grew hy))
  have HV2 := hid (fun (y : World) (hy : Grew w y) => valid_any t tv y (ht.grew hy))
  have HSS := hs
  have HTT := ht
  obtain ⟨na, nc, ya, yc, rfl⟩ := isSpec_open' hs
  obtain ⟨nb, nd, yb, yd, rfl⟩ := isSpec_open' ht
  obtain ⟨Wa, hWa, ga, k0, k1, k2, k3, hz⟩ := box4 w (.int .i64 s.st) (.int .i64 s.ops) (.slice na s.next.length nc) (.slice ya s.says.length yc) 24
  obtain ⟨W1, hW1, gb, l0, l1, l2, l3, hz1⟩ := box4 Wa (.int .i64 t.st) (.int .i64 t.ops) (.slice nb t.next.length nd) (.slice yb t.says.length yd) 24
  have g0 := grew_trans ga gb
  have a0 := (gb.cell (p := ⟨w.heap.size, 0, none⟩) hz).trans k0
  have a1 := (gb.cell (p := ⟨w.heap.size, 1, none⟩) hz).trans k1
  have a2 := (gb.cell (p := ⟨w.heap.size, 2, none⟩) hz).trans k2
  have a3 := (gb.cell (p := ⟨w.heap.size, 3, none⟩) hz).trans k3
  have za : w.heap.size < W1.heap.size := Nat.lt_of_lt_of_le hz gb.size
  clear k0 k1 k2 k3 hs ht
  have hg := grew_refl W1
  cases hvs : validM s with
  | false =>
    obtain ⟨rfl, rfl⟩ := hL.bad (by rw [hvs]; rfl)
    rw [hvs] at HV1
    clear hL hvs HSS HTT
    go_enter Try.func37, Try.ntmps37
    go_wp2_with (go_at_call 32; with_reducible refine (HV1.out _ (grew_trans g0 hg)).mono ?_; rintro e w1 ⟨rfl, hx⟩; replace hg := grew_trans hg hx; have hc := (bcell hg).1; have hza := Nat.lt_of_lt_of_le za hg.size; have hzb := Nat.lt_of_lt_of_le hz1 hg.size)
    go_ret2
    exact ⟨_, rfl, Reads.nil _ _ _ _ _, grew_trans g0 hg⟩
  | true =>
    rw [hvs] at HV1
    cases hvt : validM t with
    | false =>
      obtain ⟨rfl, rfl⟩ := hL.bad (by rw [hvs, hvt]; rfl)
      rw [hvt] at HV2
      clear hL hvs hvt HSS HTT
      go_enter Try.func37, Try.ntmps37
      go_wp2_with (first
        | (go_at_call 32; with_reducible refine (HV1.out _ (grew_trans g0 hg)).mono ?_; rintro e w1 ⟨rfl, hx⟩; replace hg := grew_trans hg hx; have hc := (bcell hg).1; have hza := Nat.lt_of_lt_of_le za hg.size; have hzb := Nat.lt_of_lt_of_le hz1 hg.size)
        | (go_at_call 32; with_reducible refine (HV2.out _ (grew_trans g0 hg)).mono ?_; rintro e w2 ⟨rfl, hx2⟩; replace hg := grew_trans hg hx2; have hc := (bcell hg).1; have hza := Nat.lt_of_lt_of_le za hg.size; have hzb := Nat.lt_of_lt_of_le hz1 hg.size))
      go_ret2
      exact ⟨_, rfl, Reads.nil _ _ _ _ _, grew_trans g0 hg⟩
    | true =>
      rw [hvt] at HV2
      by_cases ho : s.ops = t.ops
      · have hw := hL.word (by rw [hvs, hvt]; rfl) ho
        have hne : (s.ops != t.ops) = false := by simp [ho]
        have h1 := wf_machOf hvs
        have h2 := wf_machOf hvt
        have hkk : (machOf s).k = (machOf t).k := by simp only [machOf]; rw [ho]
        have hap : ∀ (y : World) (_ : Grew w y), Calls Try.prog 68 #[.agg #[.int .i64 s.st, .int .i64 s.ops, .slice na s.next.length nc, .slice ya s.says.length yc], .agg #[.int .i64 t.st, .int .i64 t.ops, .slice nb t.next.length nd, .slice yb t.says.length yd], .int .i64 0, .int .i64 0] y fun e w' => ∃ u r, e = .returned (.tuple #[u, .bool r]) ∧ Grew y w' ∧
          ((r = true ∧ ∃ ws, IsFirst (machOf s) (machOf t) 0 0 ws ∧ IsNats Any w' u ws) ∨ (r = false ∧ u = .slice none 0 0 ∧ NoTells (machOf s) (machOf t) 0 0)) := fun y hy =>
            apart_any (machOf s) (machOf t) h1 h2 hkk _ _ 0 0 y h1.n1 h2.n1 ((HSS.grew hy).isMach hvs) ((HTT.grew hy).isMach hvt)
        have HAP := hid hap; have HW := hid hw; have HO := hid ho
        clear hap hw ho hL hvs hvt HSS HTT h1 h2 hkk
        go_enter Try.func37, Try.ntmps37
        go_wp2_with (first
          | (go_at_call 32; with_reducible refine (HV1.out _ (grew_trans g0 hg)).mono ?_; rintro e w1 ⟨rfl, hx⟩; replace hg := grew_trans hg hx; have hc := (bcell hg).1; have hza := Nat.lt_of_lt_of_le za hg.size; have hzb := Nat.lt_of_lt_of_le hz1 hg.size)
          | (go_at_call 32; with_reducible refine (HV2.out _ (grew_trans g0 hg)).mono ?_; rintro e w2 ⟨rfl, hx2⟩; replace hg := grew_trans hg hx2; have hc := (bcell hg).1; have hza := Nat.lt_of_lt_of_le za hg.size; have hzb := Nat.lt_of_lt_of_le hz1 hg.size)
          | (go_at_call 68; with_reducible refine (HAP.out _ (grew_trans g0 hg)).mono ?_; rintro e w3 ⟨u, r, rfl, hx3, hres⟩; have HRES := hid hres; clear hres; cases r))
        · go_ret2
          rcases HRES.out with ⟨h, _⟩ | ⟨_, rfl, hno⟩
          · cases h
          · obtain ⟨rfl, hu⟩ := wordIs_of HW.out (w := w3) (u := .slice none 0 0) (e2 := 5) (.inr ⟨rfl, rfl, hno⟩)
            exact ⟨_, rfl, hu, grew_trans (grew_trans g0 hg) hx3⟩
        · go_ret2
          rcases HRES.out with ⟨_, h⟩ | ⟨h, _⟩
          · obtain ⟨rfl, hu⟩ := wordIs_of HW.out (w := w3) (u := u) (e2 := 0) (.inl ⟨rfl, h⟩)
            exact ⟨_, rfl, hu, grew_trans (grew_trans g0 hg) hx3⟩
          · cases h
      · obtain ⟨rfl, rfl⟩ := hL.ops (by rw [hvs, hvt]; rfl) ho
        have hne : (s.ops != t.ops) = true := by simpa using ho
        clear hL hvs hvt ho HSS HTT
        go_enter Try.func37, Try.ntmps37
        go_wp2_with (first
          | (go_at_call 32; with_reducible refine (HV1.out _ (grew_trans g0 hg)).mono ?_; rintro e w1 ⟨rfl, hx⟩; replace hg := grew_trans hg hx; have hc := (bcell hg).1; have hza := Nat.lt_of_lt_of_le za hg.size; have hzb := Nat.lt_of_lt_of_le hz1 hg.size)
          | (go_at_call 32; with_reducible refine (HV2.out _ (grew_trans g0 hg)).mono ?_; rintro e w2 ⟨rfl, hx2⟩; replace hg := grew_trans hg hx2; have hc := (bcell hg).1; have hza := Nat.lt_of_lt_of_le za hg.size; have hzb := Nat.lt_of_lt_of_le hz1 hg.size))
        go_ret2
        exact ⟨_, rfl, Reads.nil _ _ _ _ _, grew_trans g0 hg⟩
set_option maxHeartbeats 2000000 in
theorem refUnlike_any (s t : RSpec) (L : List Int) (ev : Int) (hL : PairOf s t L ev) (sv tv : Value) (w : World) (hs : IsSpec w sv s) (ht : IsSpec w tv t) :
    Calls Try.prog 38 #[sv, tv] w fun e w' => ∃ u, e = .returned (.tuple #[u, .int .i64 ev]) ∧ IsInts Any w' u L ∧ Grew w w' := by
  have HV1 := hid (fun (y : World) (hy : Grew w y) => refValid_any s sv y (hs.grew hy))
  have HV2 := hid (fun (y : World) (hy : Grew w y) => refValid_any t tv y (ht.grew hy))
  have HSS := hs
  have HTT := ht
  obtain ⟨na, nc, ya, yc, rfl⟩ := isSpec_open' hs
  obtain ⟨nb, nd, yb, yd, rfl⟩ := isSpec_open' ht
  obtain ⟨Wa, hWa, ga, k0, k1, k2, k3, hz⟩ := box4 w (.int .i64 s.st) (.int .i64 s.ops) (.slice na s.next.length nc) (.slice ya s.says.length yc) 24
  obtain ⟨W1, hW1, gb, l0, l1, l2, l3, hz1⟩ := box4 Wa (.int .i64 t.st) (.int .i64 t.ops) (.slice nb t.next.length nd) (.slice yb t.says.length yd) 24
  have g0 := grew_trans ga gb
  have a0 := (gb.cell (p := ⟨w.heap.size, 0, none⟩) hz).trans k0
  have a1 := (gb.cell (p := ⟨w.heap.size, 1, none⟩) hz).trans k1
  have a2 := (gb.cell (p := ⟨w.heap.size, 2, none⟩) hz).trans k2
  have a3 := (gb.cell (p := ⟨w.heap.size, 3, none⟩) hz).trans k3
  have za : w.heap.size < W1.heap.size := Nat.lt_of_lt_of_le hz gb.size
  clear k0 k1 k2 k3 hs ht
  have hg := grew_refl W1
  cases hvs : validM s with
  | false =>
    obtain ⟨rfl, rfl⟩ := hL.bad (by rw [hvs]; rfl)
    rw [hvs] at HV1
    clear hL hvs HSS HTT
    go_enter Try.func38, Try.ntmps38
    go_wp2_with (go_at_call 33; with_reducible refine (HV1.out _ (grew_trans g0 hg)).mono ?_; rintro e w1 ⟨rfl, hx⟩; replace hg := grew_trans hg hx; have hc := (bcell hg).1; have hza := Nat.lt_of_lt_of_le za hg.size; have hzb := Nat.lt_of_lt_of_le hz1 hg.size)
    go_ret2
    exact ⟨_, rfl, Reads.nil _ _ _ _ _, grew_trans g0 hg⟩
  | true =>
    rw [hvs] at HV1
    cases hvt : validM t with
    | false =>
      obtain ⟨rfl, rfl⟩ := hL.bad (by rw [hvs, hvt]; rfl)
      rw [hvt] at HV2
      clear hL hvs hvt HSS HTT
      go_enter Try.func38, Try.ntmps38
      go_wp2_with (first
        | (go_at_call 33; with_reducible refine (HV1.out _ (grew_trans g0 hg)).mono ?_; rintro e w1 ⟨rfl, hx⟩; replace hg := grew_trans hg hx; have hc := (bcell hg).1; have hza := Nat.lt_of_lt_of_le za hg.size; have hzb := Nat.lt_of_lt_of_le hz1 hg.size)
        | (go_at_call 33; with_reducible refine (HV2.out _ (grew_trans g0 hg)).mono ?_; rintro e w2 ⟨rfl, hx2⟩; replace hg := grew_trans hg hx2; have hc := (bcell hg).1; have hza := Nat.lt_of_lt_of_le za hg.size; have hzb := Nat.lt_of_lt_of_le hz1 hg.size))
      go_ret2
      exact ⟨_, rfl, Reads.nil _ _ _ _ _, grew_trans g0 hg⟩
    | true =>
      rw [hvt] at HV2
      by_cases ho : s.ops = t.ops
      · have hw := hL.word (by rw [hvs, hvt]; rfl) ho
        have hne : (s.ops != t.ops) = false := by simp [ho]
        have h1 := wf_machOf hvs
        have h2 := wf_machOf hvt
        have hkk : (machOf s).k = (machOf t).k := by simp only [machOf]; rw [ho]
        have hap : ∀ (y : World) (_ : Grew w y), Calls Try.prog 69 #[.agg #[.int .i64 s.st, .int .i64 s.ops, .slice na s.next.length nc, .slice ya s.says.length yc], .agg #[.int .i64 t.st, .int .i64 t.ops, .slice nb t.next.length nd, .slice yb t.says.length yd], .int .i64 0, .int .i64 0] y fun e w' => ∃ u r, e = .returned (.tuple #[u, .bool r]) ∧ Grew y w' ∧
          ((r = true ∧ ∃ ws, IsFirst (machOf s) (machOf t) 0 0 ws ∧ IsNats Any w' u ws) ∨ (r = false ∧ u = .slice none 0 0 ∧ NoTells (machOf s) (machOf t) 0 0)) := fun y hy =>
            toldRef_any (machOf s) (machOf t) h1 h2 hkk _ _ 0 0 y h1.n1 h2.n1 ((HSS.grew hy).isMach hvs) ((HTT.grew hy).isMach hvt)
        have HAP := hid hap; have HW := hid hw; have HO := hid ho
        clear hap hw ho hL hvs hvt HSS HTT h1 h2 hkk
        go_enter Try.func38, Try.ntmps38
        go_wp2_with (first
          | (go_at_call 33; with_reducible refine (HV1.out _ (grew_trans g0 hg)).mono ?_; rintro e w1 ⟨rfl, hx⟩; replace hg := grew_trans hg hx; have hc := (bcell hg).1; have hza := Nat.lt_of_lt_of_le za hg.size; have hzb := Nat.lt_of_lt_of_le hz1 hg.size)
          | (go_at_call 33; with_reducible refine (HV2.out _ (grew_trans g0 hg)).mono ?_; rintro e w2 ⟨rfl, hx2⟩; replace hg := grew_trans hg hx2; have hc := (bcell hg).1; have hza := Nat.lt_of_lt_of_le za hg.size; have hzb := Nat.lt_of_lt_of_le hz1 hg.size)
          | (go_at_call 69; with_reducible refine (HAP.out _ (grew_trans g0 hg)).mono ?_; rintro e w3 ⟨u, r, rfl, hx3, hres⟩; have HRES := hid hres; clear hres; cases r))
        · go_ret2
          rcases HRES.out with ⟨h, _⟩ | ⟨_, rfl, hno⟩
          · cases h
          · obtain ⟨rfl, hu⟩ := wordIs_of HW.out (w := w3) (u := .slice none 0 0) (e2 := 5) (.inr ⟨rfl, rfl, hno⟩)
            exact ⟨_, rfl, hu, grew_trans (grew_trans g0 hg) hx3⟩
        · go_ret2
          rcases HRES.out with ⟨_, h⟩ | ⟨h, _⟩
          · obtain ⟨rfl, hu⟩ := wordIs_of HW.out (w := w3) (u := u) (e2 := 0) (.inl ⟨rfl, h⟩)
            exact ⟨_, rfl, hu, grew_trans (grew_trans g0 hg) hx3⟩
          · cases h
      · obtain ⟨rfl, rfl⟩ := hL.ops (by rw [hvs, hvt]; rfl) ho
        have hne : (s.ops != t.ops) = true := by simpa using ho
        clear hL hvs hvt ho HSS HTT
        go_enter Try.func38, Try.ntmps38
        go_wp2_with (first
          | (go_at_call 33; with_reducible refine (HV1.out _ (grew_trans g0 hg)).mono ?_; rintro e w1 ⟨rfl, hx⟩; replace hg := grew_trans hg hx; have hc := (bcell hg).1; have hza := Nat.lt_of_lt_of_le za hg.size; have hzb := Nat.lt_of_lt_of_le hz1 hg.size)
          | (go_at_call 33; with_reducible refine (HV2.out _ (grew_trans g0 hg)).mono ?_; rintro e w2 ⟨rfl, hx2⟩; replace hg := grew_trans hg hx2; have hc := (bcell hg).1; have hza := Nat.lt_of_lt_of_le za hg.size; have hzb := Nat.lt_of_lt_of_le hz1 hg.size))
        go_ret2
        exact ⟨_, rfl, Reads.nil _ _ _ _ _, grew_trans g0 hg⟩

set_option maxHeartbeats 1000000 in
theorem alike_any (s t : RSpec) (L : List Int) (ev : Int) (hL : PairOf s t L ev) (sv tv : Value) (w : World) (hs : IsSpec w sv s) (ht : IsSpec w tv t) :
    Calls Try.prog 35 #[sv, tv] w fun e w' => e = .returned (.tuple #[.bool (alikeB ev), .int .i64 (alikeE ev)]) ∧ Grew w w' := by
  have HU := hid (fun (y : World) (hy : Grew w y) => unlike_any s t L ev hL sv tv y (hs.grew hy) (ht.grew hy))
  have h4 : ev = 10 ∨ ev = 5 ∨ (ev ≠ 10 ∧ ev ≠ 5) := by omega
  obtain ⟨na, nc, ya, yc, rfl⟩ := isSpec_open' hs
  obtain ⟨nb, nd, yb, yd, rfl⟩ := isSpec_open' ht
  obtain ⟨Wa, hWa, ga, k0, k1, k2, k3, hz⟩ := box4 w (.int .i64 s.st) (.int .i64 s.ops) (.slice na s.next.length nc) (.slice ya s.says.length yc) 24
  obtain ⟨W1, hW1, gb, l0, l1, l2, l3, hz1⟩ := box4 Wa (.int .i64 t.st) (.int .i64 t.ops) (.slice nb t.next.length nd) (.slice yb t.says.length yd) 24
  have g0 := grew_trans ga gb
  have a0 := (gb.cell (p := ⟨w.heap.size, 0, none⟩) hz).trans k0
  have a1 := (gb.cell (p := ⟨w.heap.size, 1, none⟩) hz).trans k1
  have a2 := (gb.cell (p := ⟨w.heap.size, 2, none⟩) hz).trans k2
  have a3 := (gb.cell (p := ⟨w.heap.size, 3, none⟩) hz).trans k3
  have za : w.heap.size < W1.heap.size := Nat.lt_of_lt_of_le hz gb.size
  clear k0 k1 k2 k3 hs ht hL
  rcases h4 with rfl | rfl | ⟨h1, h2⟩
  · go_enter Try.func35, Try.ntmps35
    go_wp2_with (go_at_call 37; with_reducible refine (HU.out _ g0).mono ?_; rintro e w1 ⟨u, rfl, _, hx⟩)
    go_ret2
    exact ⟨by simp [alikeB, alikeE], grew_trans g0 hx⟩
  · go_enter Try.func35, Try.ntmps35
    go_wp2_with (go_at_call 37; with_reducible refine (HU.out _ g0).mono ?_; rintro e w1 ⟨u, rfl, _, hx⟩)
    go_ret2
    exact ⟨by simp [alikeB, alikeE], grew_trans g0 hx⟩
  · have e1 : (ev == 10) = false := beq_false_of_ne h1
    have e2 : (ev == 5) = false := beq_false_of_ne h2
    have H1 := hid h1; have H2 := hid h2; clear h1 h2
    go_enter Try.func35, Try.ntmps35
    go_wp2_with (go_at_call 37; with_reducible refine (HU.out _ g0).mono ?_; rintro e w1 ⟨u, rfl, _, hx⟩)
    go_ret2
    exact ⟨by simp [alikeB, alikeE, H1.out, H2.out], grew_trans g0 hx⟩

set_option maxHeartbeats 2000000 in
theorem refAlike_any (s t : RSpec) (L : List Int) (ev : Int) (hL : PairOf s t L ev) (sv tv : Value) (w : World) (hs : IsSpec w sv s) (ht : IsSpec w tv t) :
    Calls Try.prog 36 #[sv, tv] w fun e w' => e = .returned (.tuple #[.bool (alikeB ev), .int .i64 (alikeE ev)]) ∧ Grew w w' := by
  have HV1 := hid (fun (y : World) (hy : Grew w y) => refValid_any s sv y (hs.grew hy))
  have HV2 := hid (fun (y : World) (hy : Grew w y) => refValid_any t tv y (ht.grew hy))
  have HSS := hs
  have HTT := ht
  obtain ⟨na, nc, ya, yc, rfl⟩ := isSpec_open' hs
  obtain ⟨nb, nd, yb, yd, rfl⟩ := isSpec_open' ht
  obtain ⟨Wa, hWa, ga, k0, k1, k2, k3, hz⟩ := box4 w (.int .i64 s.st) (.int .i64 s.ops) (.slice na s.next.length nc) (.slice ya s.says.length yc) 24
  obtain ⟨W1, hW1, gb, l0, l1, l2, l3, hz1⟩ := box4 Wa (.int .i64 t.st) (.int .i64 t.ops) (.slice nb t.next.length nd) (.slice yb t.says.length yd) 24
  have g0 := grew_trans ga gb
  have a0 := (gb.cell (p := ⟨w.heap.size, 0, none⟩) hz).trans k0
  have a1 := (gb.cell (p := ⟨w.heap.size, 1, none⟩) hz).trans k1
  have a2 := (gb.cell (p := ⟨w.heap.size, 2, none⟩) hz).trans k2
  have a3 := (gb.cell (p := ⟨w.heap.size, 3, none⟩) hz).trans k3
  have za : w.heap.size < W1.heap.size := Nat.lt_of_lt_of_le hz gb.size
  clear k0 k1 k2 k3 hs ht
  have hg := grew_refl W1
  cases hvs : validM s with
  | false =>
    obtain ⟨rfl, rfl⟩ := hL.bad (by rw [hvs]; rfl)
    rw [hvs] at HV1
    clear hL hvs HSS HTT
    go_enter Try.func36, Try.ntmps36
    go_wp2_with (go_at_call 33; with_reducible refine (HV1.out _ (grew_trans g0 hg)).mono ?_; rintro e w1 ⟨rfl, hx⟩; replace hg := grew_trans hg hx; have hc := (bcell hg).1; have hza := Nat.lt_of_lt_of_le za hg.size; have hzb := Nat.lt_of_lt_of_le hz1 hg.size)
    go_ret2
    exact ⟨by simp [alikeB, alikeE], grew_trans g0 hg⟩
  | true =>
    rw [hvs] at HV1
    cases hvt : validM t with
    | false =>
      obtain ⟨rfl, rfl⟩ := hL.bad (by rw [hvs, hvt]; rfl)
      rw [hvt] at HV2
      clear hL hvs hvt HSS HTT
      go_enter Try.func36, Try.ntmps36
      go_wp2_with (first
        | (go_at_call 33; with_reducible refine (HV1.out _ (grew_trans g0 hg)).mono ?_; rintro e w1 ⟨rfl, hx⟩; replace hg := grew_trans hg hx; have hc := (bcell hg).1; have hza := Nat.lt_of_lt_of_le za hg.size; have hzb := Nat.lt_of_lt_of_le hz1 hg.size)
        | (go_at_call 33; with_reducible refine (HV2.out _ (grew_trans g0 hg)).mono ?_; rintro e w2 ⟨rfl, hx2⟩; replace hg := grew_trans hg hx2; have hc := (bcell hg).1; have hza := Nat.lt_of_lt_of_le za hg.size; have hzb := Nat.lt_of_lt_of_le hz1 hg.size))
      go_ret2
      exact ⟨by simp [alikeB, alikeE], grew_trans g0 hg⟩
    | true =>
      rw [hvt] at HV2
      by_cases ho : s.ops = t.ops
      · obtain ⟨hw1, hw2⟩ := wordIs_ev (hL.word (by rw [hvs, hvt]; rfl) ho)
        have hne : (s.ops == t.ops) = true := by simp [ho]
        have h1 := wf_machOf hvs
        have h2 := wf_machOf hvt
        have hkk : (machOf s).k = (machOf t).k := by simp only [machOf]; rw [ho]
        have hd : (((dist (machOf s) (machOf t) 0 0 : Nat) : Int) == 0) = alikeB ev := by
          unfold alikeB
          rw [Bool.eq_iff_iff, beq_iff_eq, decide_eq_true_iff, hw1, ← dist_zero h1 h2 hkk h1.n1 h2.n1]
          omega
        have he : alikeE ev = 0 := by unfold alikeE; rw [if_neg (by omega)]
        rw [he]
        obtain ⟨ab, hab⟩ : ∃ ab, alikeB ev = ab := ⟨_, rfl⟩
        rw [hab] at hd ⊢
        have HF := hid (fun (y : World) (hy : Grew w y) => far_any (machOf s) (machOf t) h1 h2 hkk _ _ y ((HSS.grew hy).isMach hvs) ((HTT.grew hy).isMach hvt))
        have HD := hid hd; have HO := hid ho
        have H1 := hid h1.n1; have H2 := hid h2.n1
        clear hd he hab hw1 hw2 ho hL hvs hvt HSS HTT h1 h2 hkk
        go_enter Try.func36, Try.ntmps36
        go_wp2_with (first
          | (go_at_call 33; with_reducible refine (HV1.out _ (grew_trans g0 hg)).mono ?_; rintro e w1 ⟨rfl, hx⟩; replace hg := grew_trans hg hx; have hc := (bcell hg).1; have hza := Nat.lt_of_lt_of_le za hg.size; have hzb := Nat.lt_of_lt_of_le hz1 hg.size)
          | (go_at_call 33; with_reducible refine (HV2.out _ (grew_trans g0 hg)).mono ?_; rintro e w2 ⟨rfl, hx2⟩; replace hg := grew_trans hg hx2; have hc := (bcell hg).1; have hza := Nat.lt_of_lt_of_le za hg.size; have hzb := Nat.lt_of_lt_of_le hz1 hg.size)
          | (go_at_call 84; ((with_reducible refine (HF.out _ (grew_trans g0 hg)).mono ?_); rintro e w3 ⟨fb, fo, fc, rfl, hft, hx3⟩; obtain ⟨q1, q2, q3, f1, f2, f3⟩ := hft.at H1.out H2.out; simp only [Nat.add_zero] at f1 f2; have hft0 := hft.1; have z1 := H1.out; have z2 := H2.out; clear hft)))
        go_ret2
        rw [HD.out]
        exact ⟨rfl, grew_trans (grew_trans g0 hg) hx3⟩
      · obtain ⟨rfl, rfl⟩ := hL.ops (by rw [hvs, hvt]; rfl) ho
        have hne : (s.ops == t.ops) = false := beq_false_of_ne ho
        clear hL hvs hvt ho HSS HTT
        go_enter Try.func36, Try.ntmps36
        go_wp2_with (first
          | (go_at_call 33; with_reducible refine (HV1.out _ (grew_trans g0 hg)).mono ?_; rintro e w1 ⟨rfl, hx⟩; replace hg := grew_trans hg hx; have hc := (bcell hg).1; have hza := Nat.lt_of_lt_of_le za hg.size; have hzb := Nat.lt_of_lt_of_le hz1 hg.size)
          | (go_at_call 33; with_reducible refine (HV2.out _ (grew_trans g0 hg)).mono ?_; rintro e w2 ⟨rfl, hx2⟩; replace hg := grew_trans hg hx2; have hc := (bcell hg).1; have hza := Nat.lt_of_lt_of_le za hg.size; have hzb := Nat.lt_of_lt_of_le hz1 hg.size))
        go_ret2
        exact ⟨by simp [alikeB, alikeE], grew_trans g0 hg⟩
end Go.Proofs.Ytnebpcpihldllaa
