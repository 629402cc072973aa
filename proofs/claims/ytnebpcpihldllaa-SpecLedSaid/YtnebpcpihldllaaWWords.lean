/- Walks: what the reference answers of two states and of classes; and what both answer where the input is not valid. -/
import Derived.Test.YtnebpcpihldllaaWToldRef
import Derived.Test.YtnebpcpihldllaaWClass
import Derived.Test.YtnebpcpihldllaaLBegun
namespace Go.Lin

theorem nextIs_exists (M K : Mach) (l a b : Nat) : ∃ v, NextIs M K l a b 0 v := by
  have h : ∀ q, q ≤ M.k → ∃ v, NextIs M K l a b (M.k - q) v := by
    intro q
    induction q with
    | zero => intro _; exact ⟨_, NextIs.start M K l a b⟩
    | succ q ih =>
      intro hq
      obtain ⟨v, hv⟩ := ih (by omega)
      have e : M.k - q = (M.k - (q + 1)) + 1 := by omega
      rw [e] at hv
      cases hg : goesM M K l a b (M.k - (q + 1)) with
      | true => exact ⟨_, NextIs.yes (by omega) hg⟩
      | false => exact ⟨v, hv.no hg⟩
  obtain ⟨v, hv⟩ := h M.k (Nat.le_refl _)
  rw [Nat.sub_self] at hv
  exact ⟨v, hv⟩

theorem first_exists {M K : Mach} (hM : M.WF) (hK : K.WF) (hk : M.k = K.k) : ∀ l a b, a < M.n → b < K.n → dist M K a b = l + 1 → ∃ ws, IsFirst M K a b ws := by
  intro l
  induction l with
  | zero =>
    intro a b ha hb hd
    obtain ⟨v, hv⟩ := nextIs_exists M K 1 a b
    obtain ⟨p, _, _, h | ⟨h, _⟩⟩ := NextIs.found hM hK hk ha hb (by omega) hd hv
    · exact ⟨_, h.2⟩
    · omega
  | succ l ih =>
    intro a b ha hb hd
    obtain ⟨v, hv⟩ := nextIs_exists M K (l + 2) a b
    obtain ⟨p, _, hp, h | ⟨_, h1, h2⟩⟩ := NextIs.found hM hK hk ha hb (by omega) hd hv
    · omega
    · obtain ⟨ws, hw⟩ := ih (M.nx a p) (K.nx b p) (hM.nx a ha p hp) (hK.nx b hb p (by omega)) (by omega)
      exact ⟨_, h2 ws hw⟩

/-- The word of two states, and the error. -/
def WordIs (M K : Mach) (a b : Nat) (L : List Int) (ev : Int) : Prop := (ev = 0 ∧ ∃ ws, IsFirst M K a b ws ∧ L = ofN ws) ∨ (ev = 5 ∧ L = [] ∧ NoTells M K a b)

theorem wordIs_exists {M K : Mach} (hM : M.WF) (hK : K.WF) (hk : M.k = K.k) {a b : Nat} (ha : a < M.n) (hb : b < K.n) : ∃ L ev, WordIs M K a b L ev := by
  by_cases h : dist M K a b = 0
  · exact ⟨[], 5, .inr ⟨rfl, rfl, (dist_zero hM hK hk ha hb).1 h⟩⟩
  · obtain ⟨ws, hw⟩ := first_exists hM hK hk (dist M K a b - 1) a b ha hb (by omega)
    exact ⟨_, 0, .inl ⟨rfl, ws, hw, rfl⟩⟩

theorem wordIs_of {M K : Mach} {a b : Nat} {L : List Int} {ev : Int} (h : WordIs M K a b L ev) {w : World} {u : Value} {e2 : Int}
    (k : (e2 = 0 ∧ ∃ ws, IsFirst M K a b ws ∧ IsNats Any w u ws) ∨ (e2 = 5 ∧ u = .slice none 0 0 ∧ NoTells M K a b)) : e2 = ev ∧ IsInts Any w u L := by
  rcases h with ⟨rfl, ws, h1, rfl⟩ | ⟨rfl, rfl, h1⟩
  · rcases k with ⟨rfl, vs, k1, k2⟩ | ⟨_, _, k1⟩
    · obtain rfl := h1.unique k1
      exact ⟨rfl, k2.ints⟩
    · exact absurd k1 h1.not_no
  · rcases k with ⟨_, vs, k1, _⟩ | ⟨rfl, rfl, _⟩
    · exact absurd h1 k1.not_no
    · exact ⟨rfl, Reads.nil _ _ _ _ _⟩

/-- .. whatever the numbers. -/
def WordOf (s : RSpec) (a b : Int) (L : List Int) (ev : Int) : Prop := (askedM s a b = 0 → WordIs (machOf s) (machOf s) a.toNat b.toNat L ev) ∧ (askedM s a b ≠ 0 → L = [] ∧ ev = askedM s a b)

theorem asked_parts {s : RSpec} {a b : Int} (h : askedM s a b = 0) : validM s = true ∧ ∃ x y : Nat, a = (x : Int) ∧ b = (y : Int) ∧ x < (machOf s).n ∧ y < (machOf s).n := by
  unfold askedM at h
  cases hv : validM s with
  | false => rw [hv] at h; cases h
  | true =>
    cases hi : inM s.st a && inM s.st b with
    | false => rw [hv, hi] at h; cases h
    | true =>
      unfold inM at hi
      simp at hi
      refine ⟨rfl, a.toNat, b.toNat, by omega, by omega, ?_, ?_⟩ <;> simp only [machOf] <;> omega

theorem wordOf_exists (s : RSpec) (a b : Int) : ∃ L ev, WordOf s a b L ev := by
  by_cases h : askedM s a b = 0
  · obtain ⟨hv, x, y, rfl, rfl, hx, hy⟩ := asked_parts h
    obtain ⟨L, ev, hw⟩ := wordIs_exists (wf_machOf hv) (wf_machOf hv) rfl hx hy
    exact ⟨L, ev, fun _ => by simpa using hw, fun hn => absurd h hn⟩
  · exact ⟨[], _, fun hn => absurd hn h, fun _ => ⟨rfl, rfl⟩⟩

/-- Whether two states are the same; false where the input is not valid. -/
def sameOfB (s : RSpec) (sB : Nat → Nat → Bool) (a b : Int) : Bool := if askedM s a b = 0 then sB a.toNat b.toNat else false

def classOfL (s : RSpec) (cl : Nat → Nat) : List Int := if validM s = true then ofN ((List.range (machOf s).n).map cl) else []
def classOfE (s : RSpec) : Int := if validM s = true then 0 else 10
end Go.Lin
namespace Go.Proofs.Ytnebpcpihldllaa
open Go.RowKit Go.Lin

set_option maxHeartbeats 2000000 in
theorem sameOf_bad (s : RSpec) (a b : Int) (sv : Value) (w : World) (hs : IsSpec w sv s) (hbad : askedM s a b ≠ 0) :
    Calls Try.prog 21 #[sv, .int .i64 a, .int .i64 b] w fun e w' => e = .returned (.tuple #[.bool false, .int .i64 (askedM s a b)]) ∧ Grew w w' := by
  have HS := hs
  obtain ⟨nv, yv, rfl, hn, hy⟩ := hs
  obtain ⟨W0, hW0, g0, k0, k1, k2, k3, hz⟩ := box4 w (.int .i64 s.st) (.int .i64 s.ops) nv yv 24
  obtain ⟨W1, hW1, g1, l0, hz1⟩ := box1 W0 (.int .i64 a) 3
  obtain ⟨W2, hW2, g2, m0, hz2⟩ := box1 W1 (.int .i64 b) 3
  have g02 := grew_trans g0 (grew_trans g1 g2)
  have e0 := (g2.cell (p := ⟨W0.heap.size, 0, none⟩) hz1).trans l0
  have r0 := ((grew_trans g1 g2).cell (p := ⟨w.heap.size, 0, none⟩) hz).trans k0
  have r1 := ((grew_trans g1 g2).cell (p := ⟨w.heap.size, 1, none⟩) hz).trans k1
  have r2 := ((grew_trans g1 g2).cell (p := ⟨w.heap.size, 2, none⟩) hz).trans k2
  have r3 := ((grew_trans g1 g2).cell (p := ⟨w.heap.size, 3, none⟩) hz).trans k3
  clear k0 k1 k2 k3
  have hop := opened_same s _ _ _ a b W2 (HS.grew g02) e0 m0
  rw [if_neg hbad] at hop
  obtain ⟨ev, hev⟩ : ∃ ev, askedM s a b = ev := ⟨_, rfl⟩
  rw [hev] at hop hbad ⊢
  have hb : (ev == 0) = false := beq_false_of_ne hbad
  have HOP := hid hop; clear hop hev hbad
  have hz0 : w.heap.size < W2.heap.size := by have := g1.size; have := g2.size; omega
  go_enter Try.func21, Try.ntmps21
  go_wp2_with (go_at_call 56; with_reducible refine HOP.out.mono ?_; rintro e w1 ⟨rfl, hx⟩)
  go_ret2
  exact ⟨rfl, (by repeat' (first | exact grew_refl _ | assumption | refine grew_alloc ?_ _ | refine Below.setCell ?_ (by (try simp); omega) _ | refine grew_drewN ?_ _ | refine grew_drew ?_ | refine grew_trans ?_ (by assumption)))⟩

theorem sameOf_any (s : RSpec) (a b : Int) (sB : Nat → Nat → Bool) (hsB : ∀ a b, sB a b = true ↔ NoTells (machOf s) (machOf s) a b) (sv : Value) (w : World) (hs : IsSpec w sv s) :
    Calls Try.prog 21 #[sv, .int .i64 a, .int .i64 b] w fun e w' => e = .returned (.tuple #[.bool (sameOfB s sB a b), .int .i64 (askedM s a b)]) ∧ Grew w w' := by
  unfold sameOfB
  by_cases h : askedM s a b = 0
  · obtain ⟨hv, x, y, rfl, rfl, hx, hy⟩ := asked_parts h
    rw [if_pos h, h]
    exact sameOf_ok s x y sB hsB sv w hs hv hx hy
  · rw [if_neg h]
    exact sameOf_bad s a b sv w hs h

theorem wordOf_any (s : RSpec) (a b : Int) (L : List Int) (ev : Int) (hL : WordOf s a b L ev) (sv : Value) (w : World) (hs : IsSpec w sv s) :
    Calls Try.prog 23 #[sv, .int .i64 a, .int .i64 b] w fun e w' => ∃ u, e = .returned (.tuple #[u, .int .i64 ev]) ∧ IsInts Any w' u L ∧ Grew w w' := by
  by_cases h : askedM s a b = 0
  · have hw := hL.1 h
    obtain ⟨hv, x, y, rfl, rfl, hx, hy⟩ := asked_parts h
    refine (word_ok s x y sv w hs h).mono ?_
    rintro e w' ⟨u, e2, rfl, hg, hres⟩
    obtain ⟨rfl, hu⟩ := wordIs_of hw (by simpa using hres)
    exact ⟨u, rfl, hu, hg⟩
  · obtain ⟨rfl, rfl⟩ := hL.2 h
    refine (word_bad s a b sv w hs h).mono ?_
    rintro e w' ⟨rfl, hg⟩
    exact ⟨_, rfl, Reads.nil _ _ _ _ _, hg⟩

set_option maxHeartbeats 1000000 in
theorem classes_bad (s : RSpec) (sv : Value) (w : World) (hs : IsSpec w sv s) (hv : validM s = false) :
    Calls Try.prog 26 #[sv] w fun e w' => e = .returned (.tuple #[.slice none 0 0, .int .i64 10]) ∧ Grew w w' := by
  have HOP := hid (fun (y : World) (hy : Grew w y) => opened_bad s _ (.func (.func 70) #[] #[]) y (hs.grew hy) hv)
  obtain ⟨na, nc, ya, yc, rfl⟩ := isSpec_open' hs
  clear hs hv
  obtain ⟨W0, hW0, g0, k0, k1, k2, k3, hz⟩ := box4 w (.int .i64 s.st) (.int .i64 s.ops) (.slice na s.next.length nc) (.slice ya s.says.length yc) 24
  go_enter Try.func26, Try.ntmps26
  go_wp2_with (go_at_call 56; with_reducible refine (HOP.out _ g0).mono ?_; rintro e w1 ⟨rfl, hx⟩; have hc := (bcell hx).1)
  go_ret2
  exact ⟨rfl, (by repeat' (first | exact grew_refl _ | assumption | refine grew_alloc ?_ _ | refine Below.setCell ?_ (by (try simp); omega) _ | refine grew_drewN ?_ _ | refine grew_drew ?_ | refine grew_trans ?_ (by assumption)))⟩

theorem classesOf_any (s : RSpec) (sB : Nat → Nat → Bool) (cl : Nat → Nat) (hS : Sames (machOf s) sB cl) (sv : Value) (w : World) (hs : IsSpec w sv s) :
    Calls Try.prog 26 #[sv] w fun e w' => ∃ u, e = .returned (.tuple #[u, .int .i64 (classOfE s)]) ∧ IsInts Any w' u (classOfL s cl) ∧ Grew w w' := by
  unfold classOfE classOfL
  cases hv : validM s with
  | true =>
    rw [if_pos rfl, if_pos rfl]
    refine (classesOf_ok s sB cl hS sv w hs hv).mono ?_
    rintro e w' ⟨u, rfl, hu, hg⟩
    exact ⟨u, rfl, hu.ints, hg⟩
  | false =>
    refine (classes_bad s sv w hs hv).mono ?_
    rintro e w' ⟨rfl, hg⟩
    exact ⟨_, rfl, Reads.nil _ _ _ _ _, hg⟩

/-! ### The reference -/

set_option maxHeartbeats 1000000 in
theorem refSame66_any (M : Mach) (hM : M.WF) (sB : Nat → Nat → Bool) (hsB : ∀ a b, sB a b = true ↔ NoTells M M a b) (mv : Value) (a b : Nat) (w : World) (ha : a < M.n) (hb : b < M.n) (hm : IsMach w mv M) :
    Calls Try.prog 66 #[mv, .int .i64 (a : Int), .int .i64 (b : Int)] w fun e w' => e = .returned (.bool (sB a b)) ∧ Grew w w' := by
  have HF := hid (fun (y : World) (hy : Grew w y) => far_any M M hM hM rfl mv mv y (hm.grew hy) (hm.grew hy))
  have hd : (((dist M M a b : Nat) : Int) == 0) = sB a b := by
    rw [Bool.eq_iff_iff, hsB, ← dist_zero hM hM rfl ha hb, beq_iff_eq]
    omega
  obtain ⟨b1, off1, c1, b2, off2, c2, rfl, _, _⟩ := hm
  obtain ⟨W0, hW0, g0, k0, k1, k2, k3, hz⟩ := box4 w (.int .i64 (M.n : Int)) (.int .i64 (M.k : Int)) (.slice (some ⟨b1, off1, none⟩) M.n c1) (.slice (some ⟨b2, off2, none⟩) M.n c2) 24
  have HD := hid hd; clear hd hsB
  go_enter Try.func66, Try.ntmps66
  go_wp2_with (go_at_call 84; ((with_reducible refine (HF.out _ g0).mono ?_); rintro e w1 ⟨fb, fo, fc, rfl, hft, hx⟩; obtain ⟨q1, q2, q3, f1, f2, f3⟩ := hft.at ha hb; have hft0 := hft.1; clear hft))
  go_ret
  exact ⟨ret_bool HD.out, grew_trans g0 hx⟩

set_option maxHeartbeats 1000000 in
theorem refSameOf_any (s : RSpec) (a b : Int) (sB : Nat → Nat → Bool) (hsB : ∀ a b, sB a b = true ↔ NoTells (machOf s) (machOf s) a b) (sv : Value) (w : World) (hs : IsSpec w sv s) :
    Calls Try.prog 22 #[sv, .int .i64 a, .int .i64 b] w fun e w' => e = .returned (.tuple #[.bool (sameOfB s sB a b), .int .i64 (askedM s a b)]) ∧ Grew w w' := by
  have HA := hid (fun (y : World) (hy : Grew w y) => asked_any s sv a b y (hs.grew hy))
  unfold sameOfB
  by_cases h : askedM s a b = 0
  · obtain ⟨hv, x, y, rfl, rfl, hx, hy⟩ := asked_parts h
    have HM := hid (fun (z : World) (hz : Grew w z) => refSame66_any (machOf s) (wf_machOf hv) sB hsB _ x y z hx hy ((hs.isMach hv).grew hz))
    rw [if_pos h, h]
    rw [h] at HA
    obtain ⟨na, nc, ya, yc, rfl⟩ := isSpec_open' hs
    clear hs h hsB
    obtain ⟨W0, hW0, g0, k0, k1, k2, k3, hz⟩ := box4 w (.int .i64 s.st) (.int .i64 s.ops) (.slice na s.next.length nc) (.slice ya s.says.length yc) 24
    go_enter Try.func22, Try.ntmps22
    go_wp2_with (first
      | (go_at_call 61; with_reducible refine (HA.out _ g0).mono ?_; rintro e w1 ⟨rfl, hx⟩; have hc := (bcell hx).1)
      | (go_at_call 66; with_reducible refine (HM.out _ (grew_trans g0 hx)).mono ?_; rintro e w2 ⟨rfl, hx2⟩))
    go_ret2
    exact ⟨rfl, grew_trans (grew_trans g0 hx) hx2⟩
  · rw [if_neg h]
    obtain ⟨ev, hev⟩ : ∃ ev, askedM s a b = ev := ⟨_, rfl⟩
    rw [hev] at HA h ⊢
    have hb : (ev != 0) = true := by simpa using h
    obtain ⟨na, nc, ya, yc, rfl⟩ := isSpec_open' hs
    clear hs h hsB hev
    obtain ⟨W0, hW0, g0, k0, k1, k2, k3, hz⟩ := box4 w (.int .i64 s.st) (.int .i64 s.ops) (.slice na s.next.length nc) (.slice ya s.says.length yc) 24
    go_enter Try.func22, Try.ntmps22
    go_wp2_with (go_at_call 61; with_reducible refine (HA.out _ g0).mono ?_; rintro e w1 ⟨rfl, hx⟩; have hc := (bcell hx).1)
    go_ret2
    exact ⟨rfl, grew_trans g0 hx⟩

set_option maxHeartbeats 1000000 in
theorem refWordOf_any (s : RSpec) (a b : Int) (L : List Int) (ev : Int) (hL : WordOf s a b L ev) (sv : Value) (w : World) (hs : IsSpec w sv s) :
    Calls Try.prog 24 #[sv, .int .i64 a, .int .i64 b] w fun e w' => ∃ u, e = .returned (.tuple #[u, .int .i64 ev]) ∧ IsInts Any w' u L ∧ Grew w w' := by
  have HA := hid (fun (y : World) (hy : Grew w y) => asked_any s sv a b y (hs.grew hy))
  by_cases h : askedM s a b = 0
  · have HW := hid (hL.1 h)
    obtain ⟨hv, x, y, rfl, rfl, hx, hy⟩ := asked_parts h
    have HM := hid (fun (z : World) (hz : Grew w z) => toldRef_any (machOf s) (machOf s) (wf_machOf hv) (wf_machOf hv) rfl _ _ x y z hx hy ((hs.isMach hv).grew hz) ((hs.isMach hv).grew hz))
    rw [h] at HA
    obtain ⟨na, nc, ya, yc, rfl⟩ := isSpec_open' hs
    clear hs h hL
    obtain ⟨W0, hW0, g0, k0, k1, k2, k3, hz⟩ := box4 w (.int .i64 s.st) (.int .i64 s.ops) (.slice na s.next.length nc) (.slice ya s.says.length yc) 24
    go_enter Try.func24, Try.ntmps24
    go_wp2_with (first
      | (go_at_call 61; with_reducible refine (HA.out _ g0).mono ?_; rintro e w1 ⟨rfl, hx⟩; have hc := (bcell hx).1)
      | (go_at_call 69; with_reducible refine (HM.out _ (grew_trans g0 hx)).mono ?_; rintro e w2 ⟨u, r, rfl, hx2, hres⟩; have HRES := hid hres; clear hres; cases r))
    · go_ret2
      rcases HRES.out with ⟨h, _⟩ | ⟨_, rfl, hno⟩
      · cases h
      · obtain ⟨rfl, hu⟩ := wordIs_of HW.out (w := w2) (u := .slice none 0 0) (e2 := 5) (.inr ⟨rfl, rfl, by simpa using hno⟩)
        exact ⟨_, rfl, hu, grew_trans (grew_trans g0 hx) hx2⟩
    · go_ret2
      rcases HRES.out with ⟨_, h⟩ | ⟨h, _⟩
      · obtain ⟨rfl, hu⟩ := wordIs_of HW.out (w := w2) (u := u) (e2 := 0) (.inl ⟨rfl, by simpa using h⟩)
        exact ⟨_, rfl, hu, grew_trans (grew_trans g0 hx) hx2⟩
      · cases h
  · obtain ⟨rfl, hev⟩ := hL.2 h
    rw [← hev] at HA h
    have hb : (ev != 0) = true := by simpa using h
    obtain ⟨na, nc, ya, yc, rfl⟩ := isSpec_open' hs
    clear hs h hev hL
    obtain ⟨W0, hW0, g0, k0, k1, k2, k3, hz⟩ := box4 w (.int .i64 s.st) (.int .i64 s.ops) (.slice na s.next.length nc) (.slice ya s.says.length yc) 24
    go_enter Try.func24, Try.ntmps24
    go_wp2_with (go_at_call 61; with_reducible refine (HA.out _ g0).mono ?_; rintro e w1 ⟨rfl, hx⟩; have hc := (bcell hx).1)
    go_ret2
    exact ⟨_, rfl, Reads.nil _ _ _ _ _, grew_trans g0 hx⟩
end Go.Proofs.Ytnebpcpihldllaa
