/- The law TopProgress (3). Printed by gen_pgtop.py. -/
import Derived.Test.YtojkohpniokaaaaPgEitherP
import Derived.Test.YtojkohpniokaaaaPgLClasses
namespace Go.Lin.Pg
def askG (c t : Nat) : Prop := c < 3 ∧ t < 3 ∧ (c = 0 → t = 0)
theorem ask_nat {g : Gr} (hv : valid g = true) {c t : Nat} (hc : c < 3) (ht : t < 3) (h0 : c = 0 → t = 0) : askM g (c : Int) (t : Int) = 0 := by
  unfold askM
  rw [if_pos hv, if_pos]
  unfold clOk isTh
  rcases (show c = 0 ∨ c = 1 ∨ c = 2 by omega) with rfl | rfl | rfl
  · rw [h0 rfl]; rfl
  · simp; omega
  · simp; omega
/-- What the array holds when the first j rows and the first t entries of the next one are stored (of the first row the first alone). -/
def FT (g : Gr) (j t k : Nat) : Bool := ((decide (k / 3 < j) || (decide (k / 3 = j) && decide (k % 3 < t))) && (!(decide (k / 3 = 0)) || decide (k % 3 = 0))) && hol g ((k / 3 : Nat) : Int) ((k % 3 : Nat) : Int)
theorem FT_skip (g : Gr) (t k : Nat) (ht : 0 < t) : FT g 0 (t + 1) k = FT g 0 t k := by
  unfold FT
  congr 1
  rw [Bool.eq_iff_iff]
  simp only [Bool.and_eq_true, Bool.or_eq_true, decide_eq_true_eq, Bool.not_eq_true', decide_eq_false_iff_not]
  omega
theorem FT_set (g : Gr) {j t : Nat} (ht : t < 3) (h0 : j = 0 → t = 0) (k : Nat) : FT g j (t + 1) k = if j * 3 + t = k then hol g (j : Int) (t : Int) else FT g j t k := by
  have h1 : ¬ j = 0 ∨ t = 0 := by
    by_cases hj : j = 0
    · exact .inr (h0 hj)
    · exact .inl hj
  clear h0
  by_cases e : j * 3 + t = k
  · subst e
    rw [if_pos rfl]
    unfold FT
    rw [show (j * 3 + t) / 3 = j by omega, show (j * 3 + t) % 3 = t by omega]
    have : ((decide (j < j) || (decide (j = j) && decide (t < t + 1))) && (!(decide (j = 0)) || decide (t = 0))) = true := by
      rcases h1 with h | h <;> simp [h]
    rw [this, Bool.true_and]
  · rw [if_neg e]
    unfold FT
    congr 1
    rw [Bool.eq_iff_iff]
    simp only [Bool.and_eq_true, Bool.or_eq_true, decide_eq_true_eq, Bool.not_eq_true', decide_eq_false_iff_not]
    omega
theorem FT_row (g : Gr) (j k : Nat) : FT g j 3 k = FT g (j + 1) 0 k := by
  unfold FT
  congr 1
  rw [Bool.eq_iff_iff]
  simp only [Bool.and_eq_true, Bool.or_eq_true, decide_eq_true_eq, Bool.not_eq_true', decide_eq_false_iff_not]
  omega
theorem FT_all (g : Gr) {c t : Nat} (hc : c < 3) (ht : t < 3) (h0 : c = 0 → t = 0) : FT g 3 0 (c * 3 + t) = hol g (c : Int) (t : Int) := by
  have h1 : ¬ c = 0 ∨ t = 0 := by
    by_cases hj : c = 0
    · exact .inr (h0 hj)
    · exact .inl hj
  clear h0
  unfold FT
  rw [show (c * 3 + t) / 3 = c by omega, show (c * 3 + t) % 3 = t by omega]
  have : ((decide (c < 3) || (decide (c = 3) && decide (t < 0))) && (!(decide (c = 0)) || decide (t = 0))) = true := by
    rcases h1 with h | h <;> simp [h, hc]
  rw [this, Bool.true_and]
theorem FT_none (g : Gr) (k : Nat) : FT g 0 0 k = false := by
  unfold FT
  simp
end Go.Lin.Pg
namespace Go.Proofs.Ytojkohpniokaaaa
open Go Go.RowKit Go.Lin Go.Lin.Pg

theorem wd_shape {w : World} {v : Value} {l : List Int} (h : IsWd w v l) : ∃ a n c, v = .slice a n c := let ⟨a, c, e⟩ := isWd_slice h; ⟨a, _, c, e⟩

/-- Nine bools in a block. -/
def Nine (w : World) (B : Nat) (f : Nat → Bool) : Prop := ∃ cur, w.heap[B]? = some (.cells cur 29 (0, 0)) ∧ cur.size = 9 ∧ ∀ k, k < 9 → cur[k]? = some (.bool (f k))
theorem Nine.grew {w w' : World} {B : Nat} {f : Nat → Bool} (h : Nine w B f) (hg : Grew w w') : Nine w' B f := let ⟨cur, h1, h2, h3⟩ := h; ⟨cur, (hg.block _ (lt_of_obj h1)).trans h1, h2, h3⟩
theorem Nine.lt {w : World} {B : Nat} {f : Nat → Bool} (h : Nine w B f) : B < w.heap.size := let ⟨_, h1, _⟩ := h; lt_of_obj h1
theorem Nine.cell {w : World} {B : Nat} {f : Nat → Bool} (h : Nine w B f) {k : Nat} (hk : k < 9) : w.cell? ⟨B, k, none⟩ = some (.bool (f k)) ∧ w.frozen? ⟨B, k, none⟩ = false := by
  obtain ⟨cur, h1, h2, h3⟩ := h
  exact ⟨by rw [cell_of_row w B k _ _ _ h1]; exact h3 k hk, frozen_obj h1 k⟩
theorem Nine.set {w : World} {B : Nat} {f f' : Nat → Bool} (h : Nine w B f) {k : Nat} (v : Bool) (hf : ∀ j, j < 9 → f' j = if k = j then v else f j) : Nine (w.setCell ⟨B, k, none⟩ (.bool v)) B f' := by
  obtain ⟨cur, h1, h2, h3⟩ := h
  refine ⟨cur.setIfInBounds k (.bool v), ?_, by simp [h2], fun t ht => ?_⟩
  · simp [World.setCell, Array.getElem?_modify, h1]
  · rw [Array.getElem?_setIfInBounds, hf t ht]
    by_cases e : k = t
    · subst e; rw [if_pos rfl, if_pos (by omega), if_pos rfl]
    · rw [if_neg e, if_neg e, h3 t ht]

set_option maxHeartbeats 16000000 in
set_option maxRecDepth 20000 in
theorem topProgress_law (g : Gr) (r path circ : List Int) (v rv pv qv : Value) (w : World) (hn : -9223372036854775808 ≤ g.n ∧ g.n ≤ 9223372036854775807) (hv : IsGr w v g) (hr : IsWd w rv r) (hp : IsWd w pv path) (hq : IsWd w qv circ) :
    Calls Try.prog 3 #[v, rv, pv, qv] w fun e w' => e = .returned (.bool true) ∧ Grew w w' := by
  have HV := hid hv
  obtain ⟨s, rfl, hmv0⟩ := hv
  obtain ⟨gl, hgl⟩ : ∃ gl, g.ms.length = gl := ⟨_, rfl⟩
  obtain ⟨sa, sc, rfl, ⟨hgl1, hgl2⟩, hmvs0⟩ := hmv0
  rw [hgl] at HV hgl1 hgl2 ⊢
  have HGL := hid hgl
  have HMVS := hid hmvs0
  clear hmvs0 hgl
  obtain ⟨w0, hw0, g0, cp0, cq0, hz0⟩ := box2 w (.int .i64 g.n) (.slice sa gl sc) 24
  have HG0 := hid g0
  have HAW := hid (fun (W : World) (_ : Grew w W) => awake17_any W)
  have HLO := hid (fun (W : World) (h : Grew w W) => long15_any _ g W (HV.out.grew h))
  have HRW := hid hr
  have HPW := hid hp
  have HQW := hid hq
  have HVA := hid (fun (W : World) (h : Grew w W) => rValid16_any _ g W (HV.out.grew h))
  obtain ⟨lo, hlo⟩ : ∃ b, decide ((g.ms.length : Int) > 100) = b := ⟨_, rfl⟩
  obtain ⟨vb, hvb⟩ : ∃ b, valid g = b := ⟨_, rfl⟩
  rw [hlo] at HLO
  rw [hvb] at HVA
  obtain ⟨rl, hrl⟩ : ∃ n, r.length = n := ⟨_, rfl⟩
  obtain ⟨pl, hpl⟩ : ∃ n, path.length = n := ⟨_, rfl⟩
  obtain ⟨ql, hql⟩ : ∃ n, circ.length = n := ⟨_, rfl⟩
  obtain ⟨ra, rc, rfl⟩ := isWd_slice hr
  obtain ⟨pa, pc, rfl⟩ := isWd_slice hp
  obtain ⟨qa, qc, rfl⟩ := isWd_slice hq
  rw [hrl] at HRW ⊢
  rw [hpl] at HPW ⊢
  rw [hql] at HQW ⊢
  have HVB := hid hvb
  clear hlo hp hq hr hpl hql hrl hvb
  cases lo with
  | true =>
    go_enter Try.func3, Try.ntmps3
    go_wp2_with (first
      | (go_at_call 15; (with_reducible refine (HLO.out  _ HG0.out).mono ?_); rintro e w1 ⟨rfl, hx⟩; have cp1 := (hx.cell (p := ⟨w.heap.size, 0, none⟩) hz0).trans cp0; have cq1 := (hx.cell (p := ⟨w.heap.size, 1, none⟩) hz0).trans cq0; have hz1 := Nat.lt_of_lt_of_le hz0 hx.size; have HG1 := hid (grew_trans HG0.out hx); clear hx)
      | (go_at_call 17; (with_reducible refine (HAW.out  _ HG1.out).mono ?_); rintro e w2 ⟨rfl, hx⟩; have cp2 := (hx.cell (p := ⟨w.heap.size, 0, none⟩) hz1).trans cp1; have cq2 := (hx.cell (p := ⟨w.heap.size, 1, none⟩) hz1).trans cq1; have hz2 := Nat.lt_of_lt_of_le hz1 hx.size; have HG2 := hid (grew_trans HG1.out hx); clear hx))
    go_ret
    exact ⟨rfl, HG2.out⟩
  | false =>
    cases vb with
    | false =>
      go_enter Try.func3, Try.ntmps3
      go_wp2_with (first
        | (go_at_call 15; (with_reducible refine (HLO.out  _ HG0.out).mono ?_); rintro e w1 ⟨rfl, hx⟩; have cp1 := (hx.cell (p := ⟨w.heap.size, 0, none⟩) hz0).trans cp0; have cq1 := (hx.cell (p := ⟨w.heap.size, 1, none⟩) hz0).trans cq0; have hz1 := Nat.lt_of_lt_of_le hz0 hx.size; have HG1 := hid (grew_trans HG0.out hx); clear hx)
        | (go_at_call 16; (with_reducible refine (HVA.out  _ HG1.out).mono ?_); rintro e w2 ⟨rfl, hx⟩; have cp2 := (hx.cell (p := ⟨w.heap.size, 0, none⟩) hz1).trans cp1; have cq2 := (hx.cell (p := ⟨w.heap.size, 1, none⟩) hz1).trans cq1; have hz2 := Nat.lt_of_lt_of_le hz1 hx.size; have HG2 := hid (grew_trans HG1.out hx); clear hx)
        | (go_at_call 17; (with_reducible refine (HAW.out  _ HG2.out).mono ?_); rintro e w3 ⟨rfl, hx⟩; have cp3 := (hx.cell (p := ⟨w.heap.size, 0, none⟩) hz2).trans cp2; have cq3 := (hx.cell (p := ⟨w.heap.size, 1, none⟩) hz2).trans cq2; have hz3 := Nat.lt_of_lt_of_le hz2 hx.size; have HG3 := hid (grew_trans HG2.out hx); clear hx))
      go_ret
      exact ⟨rfl, HG3.out⟩
    | true =>
      by_cases hrl : (rl : Int) > 100
      · have hd : decide ((rl : Int) > 100) = true := decide_eq_true hrl
        have hd2 : decide (100 < rl) = true := decide_eq_true (by omega)
        go_enter Try.func3, Try.ntmps3
        go_wp2_with (first
          | (go_at_call 15; (with_reducible refine (HLO.out  _ HG0.out).mono ?_); rintro e w1 ⟨rfl, hx⟩; have cp1 := (hx.cell (p := ⟨w.heap.size, 0, none⟩) hz0).trans cp0; have cq1 := (hx.cell (p := ⟨w.heap.size, 1, none⟩) hz0).trans cq0; have hz1 := Nat.lt_of_lt_of_le hz0 hx.size; have HG1 := hid (grew_trans HG0.out hx); clear hx)
          | (go_at_call 16; (with_reducible refine (HVA.out  _ HG1.out).mono ?_); rintro e w2 ⟨rfl, hx⟩; have cp2 := (hx.cell (p := ⟨w.heap.size, 0, none⟩) hz1).trans cp1; have cq2 := (hx.cell (p := ⟨w.heap.size, 1, none⟩) hz1).trans cq1; have hz2 := Nat.lt_of_lt_of_le hz1 hx.size; have HG2 := hid (grew_trans HG1.out hx); clear hx)
          | (go_at_call 17; (with_reducible refine (HAW.out  _ HG2.out).mono ?_); rintro e w3 ⟨rfl, hx⟩; have cp3 := (hx.cell (p := ⟨w.heap.size, 0, none⟩) hz2).trans cp2; have cq3 := (hx.cell (p := ⟨w.heap.size, 1, none⟩) hz2).trans cq2; have hz3 := Nat.lt_of_lt_of_le hz2 hx.size; have HG3 := hid (grew_trans HG2.out hx); clear hx))
        go_ret
        exact ⟨rfl, HG3.out⟩
      have hdrl : decide ((rl : Int) > 100) = false := decide_eq_false hrl
      have herl : decide (100 < rl) = false := decide_eq_false (by omega)
      by_cases hpl : (pl : Int) > 1100
      · have hd : decide ((pl : Int) > 1100) = true := decide_eq_true hpl
        have hd2 : decide (1100 < pl) = true := decide_eq_true (by omega)
        go_enter Try.func3, Try.ntmps3
        go_wp2_with (first
          | (go_at_call 15; (with_reducible refine (HLO.out  _ HG0.out).mono ?_); rintro e w1 ⟨rfl, hx⟩; have cp1 := (hx.cell (p := ⟨w.heap.size, 0, none⟩) hz0).trans cp0; have cq1 := (hx.cell (p := ⟨w.heap.size, 1, none⟩) hz0).trans cq0; have hz1 := Nat.lt_of_lt_of_le hz0 hx.size; have HG1 := hid (grew_trans HG0.out hx); clear hx)
          | (go_at_call 16; (with_reducible refine (HVA.out  _ HG1.out).mono ?_); rintro e w2 ⟨rfl, hx⟩; have cp2 := (hx.cell (p := ⟨w.heap.size, 0, none⟩) hz1).trans cp1; have cq2 := (hx.cell (p := ⟨w.heap.size, 1, none⟩) hz1).trans cq1; have hz2 := Nat.lt_of_lt_of_le hz1 hx.size; have HG2 := hid (grew_trans HG1.out hx); clear hx)
          | (go_at_call 17; (with_reducible refine (HAW.out  _ HG2.out).mono ?_); rintro e w3 ⟨rfl, hx⟩; have cp3 := (hx.cell (p := ⟨w.heap.size, 0, none⟩) hz2).trans cp2; have cq3 := (hx.cell (p := ⟨w.heap.size, 1, none⟩) hz2).trans cq2; have hz3 := Nat.lt_of_lt_of_le hz2 hx.size; have HG3 := hid (grew_trans HG2.out hx); clear hx))
        go_ret
        exact ⟨rfl, HG3.out⟩
      have hdpl : decide ((pl : Int) > 1100) = false := decide_eq_false hpl
      have hepl : decide (1100 < pl) = false := decide_eq_false (by omega)
      by_cases hql : (ql : Int) > 1100
      · have hd : decide ((ql : Int) > 1100) = true := decide_eq_true hql
        have hd2 : decide (1100 < ql) = true := decide_eq_true (by omega)
        go_enter Try.func3, Try.ntmps3
        go_wp2_with (first
          | (go_at_call 15; (with_reducible refine (HLO.out  _ HG0.out).mono ?_); rintro e w1 ⟨rfl, hx⟩; have cp1 := (hx.cell (p := ⟨w.heap.size, 0, none⟩) hz0).trans cp0; have cq1 := (hx.cell (p := ⟨w.heap.size, 1, none⟩) hz0).trans cq0; have hz1 := Nat.lt_of_lt_of_le hz0 hx.size; have HG1 := hid (grew_trans HG0.out hx); clear hx)
          | (go_at_call 16; (with_reducible refine (HVA.out  _ HG1.out).mono ?_); rintro e w2 ⟨rfl, hx⟩; have cp2 := (hx.cell (p := ⟨w.heap.size, 0, none⟩) hz1).trans cp1; have cq2 := (hx.cell (p := ⟨w.heap.size, 1, none⟩) hz1).trans cq1; have hz2 := Nat.lt_of_lt_of_le hz1 hx.size; have HG2 := hid (grew_trans HG1.out hx); clear hx)
          | (go_at_call 17; (with_reducible refine (HAW.out  _ HG2.out).mono ?_); rintro e w3 ⟨rfl, hx⟩; have cp3 := (hx.cell (p := ⟨w.heap.size, 0, none⟩) hz2).trans cp2; have cq3 := (hx.cell (p := ⟨w.heap.size, 1, none⟩) hz2).trans cq2; have hz3 := Nat.lt_of_lt_of_le hz2 hx.size; have HG3 := hid (grew_trans HG2.out hx); clear hx))
        go_ret
        exact ⟨rfl, HG3.out⟩
      have hdql : decide ((ql : Int) > 1100) = false := decide_eq_false hql
      have heql : decide (1100 < ql) = false := decide_eq_false (by omega)
      have HHO := hid (fun (c t : Int) (W : World) (h : Grew w W) => holds20_any _ g c t W hn (HV.out.grew h))
      have HRK := hid (fun (c t : Int) (W : World) (h : Grew w W) => ranks18_any _ g c t W hn (HV.out.grew h))
      have HPR := hid (fun (c t : Int) (W : World) (h : Grew w W) => prove21_any _ g c t (.slice ra rl rc) r W hn (HV.out.grew h) (HRW.out.grew h).ints)
      have HRE := hid (fun (c t : Int) (W : World) (h : Grew w W) => refutes22_any _ g c t (.slice pa pl pc) (.slice qa ql qc) path circ W hn (HV.out.grew h) (HPW.out.grew h).ints (HQW.out.grew h).ints)
      have HLY := hid (fun (c t : Int) (ha : askM g c t = 0) (hh : hol g c t = true) (W : World) (h : Grew w W) => lasso_yes hn (HV.out.grew h) ha hh)
      have HLN := hid (fun (c t : Int) (ha : askM g c t = 0) (hh : hol g c t = false) (W : World) (h : Grew w W) => lasso_no hn (HV.out.grew h) ha hh)
      have HRP := hid (fun (c t : Int) (u : Value) (l : List Int) (W : World) (hu : IsWd W u l) (h : Grew w W) => rProve23_any _ g c t u l W (HV.out.grew h) hu.ints)
      have HRR := hid (fun (c t : Int) (u1 u2 : Value) (l1 l2 : List Int) (W : World) (h1 : IsWd W u1 l1) (h2 : IsWd W u2 l2) (h : Grew w W) => rRefutes24_any _ g c t u1 u2 l1 l2 W (HV.out.grew h) h1.ints h2.ints)
      have HEV := hid (fun (W : World) (h : Grew w W) => everybody25_any _ g W hn (HV.out.grew h))
      have hh : everyA g = (allT g 3, 0) := by unfold everyA; rw [HVB.out]; rfl
      rw [hh] at HEV
      simp only at HEV
      clear hh
      go_enter Try.func3, Try.ntmps3
      go_wp2_with (first
        | (go_at_call 15; (with_reducible refine (HLO.out  _ HG0.out).mono ?_); rintro e w1 ⟨rfl, hx⟩; have cp1 := (hx.cell (p := ⟨w.heap.size, 0, none⟩) hz0).trans cp0; have cq1 := (hx.cell (p := ⟨w.heap.size, 1, none⟩) hz0).trans cq0; have hz1 := Nat.lt_of_lt_of_le hz0 hx.size; have HG1 := hid (grew_trans HG0.out hx); clear hx)
        | (go_at_call 16; (with_reducible refine (HVA.out  _ HG1.out).mono ?_); rintro e w2 ⟨rfl, hx⟩; have cp2 := (hx.cell (p := ⟨w.heap.size, 0, none⟩) hz1).trans cp1; have cq2 := (hx.cell (p := ⟨w.heap.size, 1, none⟩) hz1).trans cq1; have hz2 := Nat.lt_of_lt_of_le hz1 hx.size; have HG2 := hid (grew_trans HG1.out hx); clear hx))
      obtain ⟨WA, hWA⟩ : ∃ WA, w2.alloc (.cells #[.bool false, .bool false, .bool false, .bool false, .bool false, .bool false, .bool false, .bool false, .bool false] 29) = WA := ⟨_, rfl⟩
      rw [hWA]
      have gA : Grew w2 WA := by rw [← hWA]; exact grew_alloc (grew_refl _) _
      obtain ⟨B, hB⟩ : ∃ B, w2.heap.size = B := ⟨_, rfl⟩
      have hnine : Nine WA B (FT g 0 0) := ⟨_, by rw [← hWA, ← hB]; exact heap_alloc_new w2 _, rfl, fun k hk => by
        rw [FT_none]
        rcases (show k = 0 ∨ k = 1 ∨ k = 2 ∨ k = 3 ∨ k = 4 ∨ k = 5 ∨ k = 6 ∨ k = 7 ∨ k = 8 by omega) with rfl | rfl | rfl | rfl | rfl | rfl | rfl | rfl | rfl <;> rfl⟩
      rw [hB] at hz2 ⊢
      have HN0 := hid hnine
      have hzA : w.heap.size < WA.heap.size := by have := hnine.lt; omega
      have HC0 := hid ((gA.cell (p := ⟨w.heap.size, 0, none⟩) (by rw [hB]; exact hz2)).trans cp2)
      have HC1 := hid ((gA.cell (p := ⟨w.heap.size, 1, none⟩) (by rw [hB]; exact hz2)).trans cq2)
      have HGA := hid (grew_trans HG2.out gA)
      have hBw : w.heap.size ≤ B := Nat.le_of_lt hz2
      clear cp0 cq0 cp1 cq1 cp2 cq2 hnine gA hWA hB hw0 g0 hz0 hz1
      go_loopg [53] 3 (fun k i wr => ∃ j : Nat, j ≤ 3 ∧ i = .int .i64 (j : Int) ∧ Hid (k = 3 - j) ∧ Hid (Nine wr B (FT g j 0)) ∧ Hid (Keeps (fun i _ => i = B) WA wr))
      case atStart => exact ⟨0, by omega, rfl, hid rfl, HN0, hid (Keeps.refl _ _)⟩
      case round =>
        clear HN0
        obtain ⟨j, hj, rfl, HKJ, HNJ, HKP⟩ := hrel
        rename World => wr
        by_cases hj3 : j < 3
        · have hjI : (j : Int) < 3 := by omega
          have HJ3 := hid hj3
          go_wp2
          go_loopg [11, 12, 13, 14, 15, 16, 17, 18, 19, 20, 21, 22, 23, 24, 25, 26, 56, 65, 72, 80, 87, 95, 144, 162] 3 (fun k _ _ _ _ _ _ _ _ _ _ _ _ _ _ _ _ i _ _ _ _ _ _ _ wq => ∃ q : Nat, q ≤ 3 ∧ i = .int .i64 (q : Int) ∧ Hid (k = 3 - q) ∧ Hid (Nine wq B (FT g j q)) ∧ Hid (Keeps (fun i _ => i = B) WA wq))
          case atStart => exact ⟨0, by omega, rfl, hid rfl, HNJ, HKP⟩
          case round =>
            clear HNJ HKP
            obtain ⟨q, hq, rfl, HKQ, HNQ, HKP⟩ := hrel
            rename World => wq
            have HG100 := hid (HGA.out.trans (HKP.out.below (Nat.le_of_lt hzA) (fun i _ e => by rw [e]; exact hBw)))
            have cp100 := cell_keeps HKP.out (fun _ _ => by omega) HC0.out
            have cq100 := cell_keeps HKP.out (fun _ _ => by omega) HC1.out
            have hz100 : w.heap.size < wq.heap.size := Nat.lt_of_lt_of_le hzA HKP.out.size
            by_cases hq3 : q < 3
            · have hqI : (q : Int) < 3 := by omega
              have HQ3 := hid hq3
              by_cases hsk : j = 0 ∧ 0 < q
              · obtain ⟨rfl, hq0⟩ := hsk
                have hq0I : (q : Int) > 0 := by omega
                have hd0 : decide ((q : Int) > 0) = true := decide_eq_true hq0I
                have HQ0 := hid hq0
                clear cp100 cq100
                go_wp2
                go_roundg (3 - (q + 1))
                case measure => have := HKQ.out; have := HQ3.out; omega
                case rel => exact ⟨q + 1, by have := HQ3.out; omega, by have := HQ3.out; go_num, hid rfl, hid (by obtain ⟨cur, h1, h2, h3⟩ := HNQ.out; exact ⟨cur, h1, h2, fun k hk => by rw [FT_skip g q k HQ0.out]; exact h3 k hk⟩), HKP⟩
              · have h0 : j = 0 → q = 0 := fun e => by
                  rcases Nat.eq_zero_or_pos q with h | h
                  · exact h
                  · exact absurd ⟨e, h⟩ hsk
                have ha := ask_nat HVB.out hj3 hq3 h0
                have hHO := HHO.out (j : Int) (q : Int)
                rw [holds_ok ha] at hHO
                have hRE := HRE.out (j : Int) (q : Int)
                rw [refute_ok ha] at hRE
                simp only at hHO hRE
                have hPR := HPR.out (j : Int) (q : Int)
                have hpe := prove_err ha r
                have hrfs := refute_says (path := path) (circ := circ) ha
                have hprs := fun e => prove_says (c := (j : Int)) (t := (q : Int)) (e := e) (g := g) (r := r)
                obtain ⟨⟨pb, pe⟩, hpp⟩ : ∃ x, proveA g (j : Int) (q : Int) r = x := ⟨_, rfl⟩
                rw [hpp] at hPR hpe hprs
                simp only at hPR hpe
                obtain ⟨rb, hrb⟩ : ∃ x, refutesB g.ms (j : Int) (q : Int) path circ = x := ⟨_, rfl⟩
                rw [hrb] at hRE hrfs
                have hRK := HRK.out (j : Int) (q : Int)
                have hLY := HLY.out (j : Int) (q : Int) ha
                have hLN := HLN.out (j : Int) (q : Int) ha
                have hRP := HRP.out (j : Int) (q : Int)
                have HFS := hid (fun k => FT_set g (j := j) (t := q) hq3 h0 k)
                have hk9 : j * 3 + q < 9 := by omega
                have HNN := HNQ
                have hown := own_prove ha
                have hrok := ranks_ok ha
                have hrno := ranks_no ha
                obtain ⟨hb, hhb⟩ : ∃ b, hol g (j : Int) (q : Int) = b := ⟨_, rfl⟩
                rw [hhb] at hHO hrfs hLY hLN hown hrok hrno HFS
                have hp1 := fun (h : pb = true) => (hprs pe (by rw [h])).1
                rw [hhb] at hp1
                have HH0 := hid h0
                clear hpp hrb hprs ha
                have core : (hb = true → rb = false) ∧ (pb = true → hb = true) := by
                  refine ⟨fun h => ?_, hp1⟩
                  cases rb with
                  | false => rfl
                  | true => rw [hrfs rfl] at h; cases h
                have split : ∀ (pe : Int) (pb rb : Bool), True := fun _ _ _ => trivial
                clear split hrfs hp1
                cases hb with
                | true =>
                  obtain rfl := core.1 rfl
                  have HLYc := hid (hLY rfl)
                  rw [hrok rfl] at hRK
                  have hR2 := hRP
                  have HRPc := hid (fun (u : Value) (W : World) (hu : IsWd W u (ranksM g.ms g.N (j : Int) (q : Int))) (h : Grew w W) => hRP u _ W hu h)
                  rw [hown rfl] at HRPc
                  simp only at hRK HRPc
                  have HRKc := hid hRK; have HHOc := hid hHO; have HPRc := hid hPR; have HREc := hid hRE; have HPE := hid hpe
                  clear hLY hLN hRK hRP hHO hPR hRE hpe hown hrok hrno hhb core hR2 h0
                  rcases HPE.out with rfl | rfl <;> cases pb <;> by_cases hj0 : j = 0
                  all_goals as_aux_lemma => (
                    first
                    | (have hq0' := HH0.out hj0
                       have e1 : ((j : Int) == 0) = true := by simp [hj0]
                       have e2 : decide ((q : Int) > 0) = false := by simp [hq0']
                       have e3 : decide (0 < q) = false := by simp [hq0']
                       clear hq0')
                    | (have e1 : ((j : Int) == 0) = false := by simp [hj0])
                    clear hj0 HH0 HPE hsk
                    go_wp2_with (first
                      | (go_at_call 18; (with_reducible refine (HRKc.out  _ HG100.out).mono ?_); rintro e w101 ⟨u, rfl, hx, hu⟩; have cp101 := (hx.cell (p := ⟨w.heap.size, 0, none⟩) hz100).trans cp100; have cq101 := (hx.cell (p := ⟨w.heap.size, 1, none⟩) hz100).trans cq100; have hz101 := Nat.lt_of_lt_of_le hz100 hx.size; have HG101 := hid (grew_trans HG100.out hx); obtain ⟨ua, un, uc, rfl⟩ := wd_shape hu; have HU := hid hu; clear hu; have HY101 := hid (grew_trans (grew_refl _) hx); clear hx)
                      | (go_at_call 19; (with_reducible refine (HLYc.out  _ HG101.out).mono ?_); rintro e w102 ⟨rfl, hx⟩; have cp102 := (hx.cell (p := ⟨w.heap.size, 0, none⟩) hz101).trans cp101; have cq102 := (hx.cell (p := ⟨w.heap.size, 1, none⟩) hz101).trans cq101; have hz102 := Nat.lt_of_lt_of_le hz101 hx.size; have HG102 := hid (grew_trans HG101.out hx); have HU1 := hid (HU.out.grew hx); have HY102 := hid (grew_trans HY101.out hx); clear hx)
                      | (go_at_call 20; (with_reducible refine (HHOc.out  _ HG102.out).mono ?_); rintro e w103 ⟨rfl, hx⟩; have cp103 := (hx.cell (p := ⟨w.heap.size, 0, none⟩) hz102).trans cp102; have cq103 := (hx.cell (p := ⟨w.heap.size, 1, none⟩) hz102).trans cq102; have hz103 := Nat.lt_of_lt_of_le hz102 hx.size; have HG103 := hid (grew_trans HG102.out hx); have HU2 := hid (HU1.out.grew hx); have HY103 := hid (grew_trans HY102.out hx); clear hx)
                      | (go_at_call 21; (with_reducible refine (HPRc.out  _ HG103.out).mono ?_); rintro e w104 ⟨rfl, hx⟩; have cp104 := (hx.cell (p := ⟨w.heap.size, 0, none⟩) hz103).trans cp103; have cq104 := (hx.cell (p := ⟨w.heap.size, 1, none⟩) hz103).trans cq103; have hz104 := Nat.lt_of_lt_of_le hz103 hx.size; have HG104 := hid (grew_trans HG103.out hx); have HU3 := hid (HU2.out.grew hx); have HY104 := hid (grew_trans HY103.out hx); clear hx)
                      | (go_at_call 22; (with_reducible refine (HREc.out  _ HG104.out).mono ?_); rintro e w105 ⟨rfl, hx⟩; have cp105 := (hx.cell (p := ⟨w.heap.size, 0, none⟩) hz104).trans cp104; have cq105 := (hx.cell (p := ⟨w.heap.size, 1, none⟩) hz104).trans cq104; have hz105 := Nat.lt_of_lt_of_le hz104 hx.size; have HG105 := hid (grew_trans HG104.out hx); have HU4 := hid (HU3.out.grew hx); have HY105 := hid (grew_trans HY104.out hx); clear hx)
                      | (go_at_call 23; (with_reducible refine (HRPc.out _ _ HU4.out HG105.out).mono ?_); rintro e w106 ⟨rfl, hx⟩; have hz106 := Nat.lt_of_lt_of_le hz105 hx.size; have HG106 := hid (grew_trans HG105.out hx); obtain ⟨n9, f9⟩ := (HNN.out.grew (grew_trans HY105.out hx)).cell hk9; have hB9 := (HNN.out.grew (grew_trans HY105.out hx)).lt; have HY106 := hid (grew_trans HY105.out hx); clear hx))
                    go_roundg (3 - (q + 1))
                    case measure => have := HKQ.out; have := HQ3.out; omega
                    case rel => exact ⟨_, by have := HQ3.out; omega, by have := HQ3.out; go_num, hid rfl, hid ((HNN.out.grew HY106.out).set _ (fun k _ => HFS.out k)), hid (HKP.out.trans (HY106.out.keeps.trans (keeps_setB _ _ _ _)))⟩)
                | false =>
                  obtain rfl : pb = false := by
                    cases pb with
                    | false => rfl
                    | true => exact absurd (core.2 rfl) (by decide)
                  have HLNc := hid (hLN rfl)
                  rw [hrno rfl] at hRK
                  simp only at hRK
                  have HRKc := hid hRK; have HHOc := hid hHO; have HPRc := hid hPR; have HREc := hid hRE; have HPE := hid hpe
                  clear hLY hLN hRK hRP hHO hPR hRE hpe hown hrok hrno hhb core h0
                  rcases HPE.out with rfl | rfl <;> cases rb <;> by_cases hj0 : j = 0
                  all_goals as_aux_lemma => (
                    first
                    | (have hq0' := HH0.out hj0
                       have e1 : ((j : Int) == 0) = true := by simp [hj0]
                       have e2 : decide ((q : Int) > 0) = false := by simp [hq0']
                       have e3 : decide (0 < q) = false := by simp [hq0']
                       clear hq0')
                    | (have e1 : ((j : Int) == 0) = false := by simp [hj0])
                    clear hj0 HH0 HPE hsk
                    go_wp2_with (first
                      | (go_at_call 18; (with_reducible refine (HRKc.out  _ HG100.out).mono ?_); rintro e w101 ⟨u, rfl, hx, hu⟩; have cp101 := (hx.cell (p := ⟨w.heap.size, 0, none⟩) hz100).trans cp100; have cq101 := (hx.cell (p := ⟨w.heap.size, 1, none⟩) hz100).trans cq100; have hz101 := Nat.lt_of_lt_of_le hz100 hx.size; have HG101 := hid (grew_trans HG100.out hx); obtain ⟨ua, un, uc, rfl⟩ := wd_shape hu; clear hu; have HY101 := hid (grew_trans (grew_refl _) hx); clear hx)
                      | (go_at_call 19; (with_reducible refine (HLNc.out  _ HG101.out).mono ?_); rintro e w102 ⟨a1, n1, k1, a2, n2, k2, p2, c2, rfl, hx, hrf, hw1, hw2⟩; have cp102 := (hx.cell (p := ⟨w.heap.size, 0, none⟩) hz101).trans cp101; have cq102 := (hx.cell (p := ⟨w.heap.size, 1, none⟩) hz101).trans cq101; have hz102 := Nat.lt_of_lt_of_le hz101 hx.size; have HG102 := hid (grew_trans HG101.out hx); have HRF := hid (fun (W : World) (h1 : IsWd W (.slice a1 n1 k1) p2) (h2 : IsWd W (.slice a2 n2 k2) c2) (h3 : Grew w W) => HRR.out (j : Int) (q : Int) (.slice a1 n1 k1) (.slice a2 n2 k2) p2 c2 W h1 h2 h3); rw [hrf.out] at HRF; simp only at HRF; have HY102 := hid (grew_trans HY101.out hx); clear hx)
                      | (go_at_call 20; (with_reducible refine (HHOc.out  _ HG102.out).mono ?_); rintro e w103 ⟨rfl, hx⟩; have cp103 := (hx.cell (p := ⟨w.heap.size, 0, none⟩) hz102).trans cp102; have cq103 := (hx.cell (p := ⟨w.heap.size, 1, none⟩) hz102).trans cq102; have hz103 := Nat.lt_of_lt_of_le hz102 hx.size; have HG103 := hid (grew_trans HG102.out hx); have HA1 := hid (hw1.out.grew hx); have HA2 := hid (hw2.out.grew hx); have HY103 := hid (grew_trans HY102.out hx); clear hx)
                      | (go_at_call 21; (with_reducible refine (HPRc.out  _ HG103.out).mono ?_); rintro e w104 ⟨rfl, hx⟩; have cp104 := (hx.cell (p := ⟨w.heap.size, 0, none⟩) hz103).trans cp103; have cq104 := (hx.cell (p := ⟨w.heap.size, 1, none⟩) hz103).trans cq103; have hz104 := Nat.lt_of_lt_of_le hz103 hx.size; have HG104 := hid (grew_trans HG103.out hx); have HB1 := hid (HA1.out.grew hx); have HB2 := hid (HA2.out.grew hx); have HY104 := hid (grew_trans HY103.out hx); clear hx)
                      | (go_at_call 22; (with_reducible refine (HREc.out  _ HG104.out).mono ?_); rintro e w105 ⟨rfl, hx⟩; have cp105 := (hx.cell (p := ⟨w.heap.size, 0, none⟩) hz104).trans cp104; have cq105 := (hx.cell (p := ⟨w.heap.size, 1, none⟩) hz104).trans cq104; have hz105 := Nat.lt_of_lt_of_le hz104 hx.size; have HG105 := hid (grew_trans HG104.out hx); have HC1 := hid (HB1.out.grew hx); have HC2 := hid (HB2.out.grew hx); have HY105 := hid (grew_trans HY104.out hx); clear hx)
                      | (go_at_call 24; (with_reducible refine (HRF.out _ HC1.out HC2.out HG105.out).mono ?_); rintro e w106 ⟨rfl, hx⟩; have hz106 := Nat.lt_of_lt_of_le hz105 hx.size; have HG106 := hid (grew_trans HG105.out hx); obtain ⟨n9, f9⟩ := (HNN.out.grew (grew_trans HY105.out hx)).cell hk9; have hB9 := (HNN.out.grew (grew_trans HY105.out hx)).lt; have HY106 := hid (grew_trans HY105.out hx); clear hx))
                    go_roundg (3 - (q + 1))
                    case measure => have := HKQ.out; have := HQ3.out; omega
                    case rel => exact ⟨_, by have := HQ3.out; omega, by have := HQ3.out; go_num, hid rfl, hid ((HNN.out.grew HY106.out).set _ (fun k _ => HFS.out k)), hid (HKP.out.trans (HY106.out.keeps.trans (keeps_setB _ _ _ _)))⟩)
            · obtain rfl : q = 3 := by omega
              have HRW2 := hid (show Nine wq B (FT g (j + 1) 0) by obtain ⟨cur, h1, h2, h3⟩ := HNQ.out; exact ⟨cur, h1, h2, fun k hk => by rw [← FT_row g j k]; exact h3 k hk⟩)
              clear cp100 cq100
              go_wp2
              go_roundg (3 - (j + 1))
              case measure => have := HKJ.out; have := HJ3.out; omega
              case rel => exact ⟨j + 1, by have := HJ3.out; omega, by have := HJ3.out; go_num, hid rfl, HRW2, HKP⟩
        · obtain rfl : j = 3 := by omega
          have hcell : ∀ c t : Nat, c < 3 → t < 3 → (c = 0 → t = 0) → wr.cell? ⟨B, c * 3 + t, none⟩ = some (.bool (hol g (c : Int) (t : Int))) := fun c t hc ht h0 => by
            have h := (HNJ.out.cell (k := c * 3 + t) (by omega)).1
            rw [FT_all g hc ht h0] at h
            exact h
          have HCELL := hid hcell
          have n0 := hcell 0 0 (by omega) (by omega) (fun _ => rfl)
          have n3 := hcell 1 0 (by omega) (by omega) (fun h => by omega)
          have n4 := hcell 1 1 (by omega) (by omega) (fun h => by omega)
          have n5 := hcell 1 2 (by omega) (by omega) (fun h => by omega)
          have hBr := HNJ.out.lt
          have hall : allT g 3 = (hol g 1 ((0 : Nat) : Int) && hol g 1 ((1 : Nat) : Int) && hol g 1 ((2 : Nat) : Int)) := by
            rw [show (3 : Nat) = 2 + 1 from rfl, allT_succ, show (2 : Nat) = 1 + 1 from rfl, allT_succ, show (1 : Nat) = 0 + 1 from rfl, allT_succ]
            simp [allT]
          have hlk : allT g 3 = true → hol g ((0 : Nat) : Int) ((0 : Nat) : Int) = true := hol_everybody_locks HVB.out
          have hl2 : ∀ t : Int, hol g ((0 : Nat) : Int) ((0 : Nat) : Int) = true → hol g 2 t = true := fun t h => hol_locks_alone HVB.out h
          rw [hall] at HEV hlk
          have HL2 := hid hl2
          simp only [Nat.zero_mul, Nat.add_zero, Nat.one_mul, Nat.reduceAdd] at n0 n3 n4 n5
          obtain ⟨l0, hl0⟩ : ∃ b, hol g ((0 : Nat) : Int) ((0 : Nat) : Int) = b := ⟨_, rfl⟩
          obtain ⟨a0, ha0⟩ : ∃ b, hol g 1 ((0 : Nat) : Int) = b := ⟨_, rfl⟩
          obtain ⟨a1, ha1⟩ : ∃ b, hol g 1 ((1 : Nat) : Int) = b := ⟨_, rfl⟩
          obtain ⟨a2, ha2⟩ : ∃ b, hol g 1 ((2 : Nat) : Int) = b := ⟨_, rfl⟩
          have HL0 := hid hl0
          rw [hl0] at n0 hlk HL2
          have ha0' : hol g ((1 : Nat) : Int) ((0 : Nat) : Int) = a0 := ha0
          have ha1' : hol g ((1 : Nat) : Int) ((1 : Nat) : Int) = a1 := ha1
          have ha2' : hol g ((1 : Nat) : Int) ((2 : Nat) : Int) = a2 := ha2
          rw [ha0'] at n3
          rw [ha1'] at n4
          rw [ha2'] at n5
          rw [ha0, ha1, ha2] at HEV hlk
          have HGW := hid (HGA.out.trans (HKP.out.below (Nat.le_of_lt hzA) (fun i _ e => by rw [e]; exact hBw)))
          have cp := cell_keeps HKP.out (fun _ _ => by omega) HC0.out
          have cq := cell_keeps HKP.out (fun _ _ => by omega) HC1.out
          have hzr : w.heap.size < wr.heap.size := Nat.lt_of_lt_of_le hzA HKP.out.size
          have HNR := HNJ
          have cases4 : (a0 = false) ∨ (a0 = true ∧ a1 = false) ∨ (a0 = true ∧ a1 = true ∧ a2 = false) ∨ (a0 = true ∧ a1 = true ∧ a2 = true ∧ l0 = true) := by
            cases a0
            · exact .inl rfl
            · cases a1
              · exact .inr (.inl ⟨rfl, rfl⟩)
              · cases a2
                · exact .inr (.inr (.inl ⟨rfl, rfl, rfl⟩))
                · exact .inr (.inr (.inr ⟨rfl, rfl, rfl, hlk rfl⟩))
          clear hcell hall hlk hl2 hl0 ha0 ha1 ha2 ha0' ha1' ha2'
          rcases cases4 with rfl | ⟨rfl, rfl⟩ | ⟨rfl, rfl, rfl⟩ | ⟨rfl, rfl, rfl, rfl⟩
          all_goals (
            simp only [Bool.false_and, Bool.and_false, Bool.and_self] at HEV
            go_wp2_with (go_at_call 25; (with_reducible refine (HEV.out _ HGW.out).mono ?_); rintro e wz ⟨rfl, hx⟩; have HGZ := hid (grew_trans HGW.out hx); have m0 := (hx.cell (p := ⟨B, 0, none⟩) hBr).trans n0; have m3 := (hx.cell (p := ⟨B, 3, none⟩) hBr).trans n3; have m4 := (hx.cell (p := ⟨B, 4, none⟩) hBr).trans n4; have m5 := (hx.cell (p := ⟨B, 5, none⟩) hBr).trans n5; have hBz := Nat.lt_of_lt_of_le hBr hx.size; have HXZ := hid hx; clear hx)
            go_loopg [29, 221] 3 (fun k _ i wy => ∃ q : Nat, q ≤ 3 ∧ i = .int .i64 (q : Int) ∧ Hid (k = 3 - q) ∧ wy = wz)
            case atStart => exact ⟨0, by omega, rfl, hid rfl, rfl⟩
            case round =>
              obtain ⟨q, hq, rfl, HKQ, rfl⟩ := hrel
              by_cases hq3 : q < 3
              · have hqI : (q : Int) < 3 := by omega
                have HQ3 := hid hq3
                have x1 := (HXZ.out.cell (p := ⟨B, 1 * 3 + q, none⟩) hBr).trans (HCELL.out 1 q (by omega) hq3 (fun h => by omega))
                have x2 := (HXZ.out.cell (p := ⟨B, 2 * 3 + q, none⟩) hBr).trans (HCELL.out 2 q (by omega) hq3 (fun h => by omega))
                simp only [Nat.one_mul, Nat.reduceMul] at x1 x2
                have i1 : hol g ((1 : Nat) : Int) (q : Int) = true → hol g ((2 : Nat) : Int) (q : Int) = true := hol_waits_alone HVB.out
                have i2 : _ → hol g ((2 : Nat) : Int) (q : Int) = true := HL2.out _
                obtain ⟨y1, hy1⟩ : ∃ b, hol g ((1 : Nat) : Int) (q : Int) = b := ⟨_, rfl⟩
                obtain ⟨y2, hy2⟩ : ∃ b, hol g ((2 : Nat) : Int) (q : Int) = b := ⟨_, rfl⟩
                rw [hy1] at x1 i1
                rw [hy2] at x2 i1 i2
                clear hy1 hy2
                have I1 := hid i1; have I2 := hid i2
                clear i1 i2
                cases y2
                · cases y1
                  · first
                    | (cases l0
                       · go_wp2
                         go_roundg (3 - (q + 1))
                         case measure => have := HKQ.out; have := HQ3.out; omega
                         case rel => exact ⟨q + 1, by have := HQ3.out; omega, by have := HQ3.out; go_num, hid rfl, rfl⟩
                       · exact absurd (I2.out (by first | rfl | trivial)) (by decide))
                    | exact absurd (I2.out (by first | rfl | trivial)) (by decide)
                  · exact absurd (I1.out rfl) (by decide)
                · cases y1 <;> first
                    | (cases l0 <;> (
                         go_wp2
                         go_roundg (3 - (q + 1))
                         case measure => have := HKQ.out; have := HQ3.out; omega
                         case rel => exact ⟨q + 1, by have := HQ3.out; omega, by have := HQ3.out; go_num, hid rfl, rfl⟩))
                    | (go_wp2
                       go_roundg (3 - (q + 1))
                       case measure => have := HKQ.out; have := HQ3.out; omega
                       case rel => exact ⟨q + 1, by have := HQ3.out; omega, by have := HQ3.out; go_num, hid rfl, rfl⟩)
              · obtain rfl : q = 3 := by omega
                go_wp2_with (go_at_call 17; (with_reducible refine (HAW.out _ HGZ.out).mono ?_); rintro e wu ⟨rfl, hx⟩)
                go_ret
                exact ⟨rfl, grew_trans HGZ.out hx⟩)
end Go.Proofs.Ytojkohpniokaaaa
