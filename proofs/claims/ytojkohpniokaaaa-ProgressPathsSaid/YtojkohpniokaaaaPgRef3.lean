/- Walks of the reference: Holds (33), Ranks (34), Everybody (42), greatest (80), Longest (43), Bound (44); of the program: Everybody (25), Max (94), greatest (74), Longest (27), Bound (28). -/
import Derived.Test.YtojkohpniokaaaaPgRef2
import Derived.Test.YtojkohpniokaaaaPgLawP
namespace Go.Lin.Pg
theorem clm_cases {g : Gr} {c t : Int} (h : askM g c t = 0) : c = 0 ∨ c = 1 ∨ c = 2 := by
  have := (ask_valid h).2
  unfold clOk at this
  simp only [Bool.or_eq_true, Bool.and_eq_true, beq_iff_eq] at this
  rcases this with ⟨h, _⟩ | ⟨h, _⟩ | ⟨h, _⟩
  · exact .inl h
  · exact .inr (.inl h)
  · exact .inr (.inr h)

/-- The greatest of numbers that are at least 0. -/
def maxI (l : List Int) : Int := l.foldl max 0
theorem maxI_take {l : List Int} {j : Nat} (h : j < l.length) : maxI (l.take (j + 1)) = max (maxI (l.take j)) (nth l j) := by
  unfold maxI
  rw [take_succ_nth h, List.foldl_append]; rfl
def greatA (g : Gr) (c t : Int) : Int × Int := if askM g c t = 0 then (if hol g c t then (maxI (ranksM g.ms g.N c t), 0) else (0, 5)) else (0, askM g c t)

def allT (g : Gr) (j : Nat) : Bool := (List.range j).all (fun i => hol g 1 (i : Int))
theorem allT_succ (g : Gr) (j : Nat) : allT g (j + 1) = (allT g j && hol g 1 (j : Int)) := by
  unfold allT; rw [List.range_succ, List.all_append]; simp
def everyA (g : Gr) : Bool × Int := if valid g then (allT g 3, 0) else (false, 70)
theorem ask_waits {g : Gr} (h : valid g = true) {j : Nat} (hj : j < 3) : askM g 1 (j : Int) = 0 := by
  unfold askM
  rw [if_pos h, if_pos]
  unfold clOk isTh
  simp
  omega
theorem allT_false {g : Gr} {j : Nat} (hj : j < 3) (h : hol g 1 (j : Int) = false) : allT g 3 = false := by
  unfold allT
  exact List.all_eq_false.2 ⟨j, List.mem_range.2 hj, by rw [h]; simp⟩
end Go.Lin.Pg
namespace Go.Proofs.Ytojkohpniokaaaa
open Go Go.RowKit Go.Lin Go.Lin.Pg

set_option maxHeartbeats 2000000 in
theorem rHolds33_any (v : Value) (g : Gr) (c t : Int) (w : World) (hv : IsGr w v g) :
    Calls Try.prog 33 #[v, .int .i64 c, .int .i64 t] w fun e w' => e = .returned (.tuple #[.bool (holdsA g c t).1, .int .i64 (holdsA g c t).2]) ∧ Grew w w' := by
  have HV := hid hv
  obtain ⟨s, rfl, -⟩ := hv
  obtain ⟨W0, hW0, g0, k0, k1, hz⟩ := box2 w (.int .i64 g.n) s 24
  have HG0 := hid g0
  have HASK := hid (asked70_any _ g c t W0 (HV.out.grew g0))
  by_cases ha : askM g c t = 0
  · have hval := (ask_valid ha).1
    have he : holdsA g c t = (hol g c t, 0) := by unfold holdsA; rw [if_pos ha]
    rw [he]
    simp only
    rw [ha] at HASK
    have hr := fun W (h : Grew w W) => ranks75_any g g.N (gOk_valid hval) c t (clm_cases ha) (.agg #[.int .i64 g.n, s]) W (HV.out.grew h)
    have hhh : holdsB g.ms g.N c t = hol g c t := rfl
    rw [hhh] at hr
    obtain ⟨h, hh⟩ : ∃ h, hol g c t = h := ⟨_, rfl⟩
    rw [hh] at hr ⊢
    have HR := hid hr
    clear he ha hh hval hhh hr
    cases h
    all_goals (
      go_enter Try.func33, Try.ntmps33
      go_wp2_with (first
        | (go_at_call 70; (with_reducible refine HASK.out.mono ?_); rintro e w1 ⟨rfl, hx⟩; have HX := hid hx; have k0' := (hx.cell (p := ⟨w.heap.size, 0, none⟩) hz).trans k0; have k1' := (hx.cell (p := ⟨w.heap.size, 1, none⟩) hz).trans k1; clear hx)
        | (go_at_call 75; (with_reducible refine (HR.out _ (grew_trans HG0.out HX.out)).mono ?_); rintro e w2 ⟨u, rfl, hy, -⟩; have HY := hid hy; clear hy))
      go_ret2
      exact ⟨rfl, grew_trans HG0.out (grew_trans HX.out HY.out)⟩)
  · have he : holdsA g c t = (false, askM g c t) := by unfold holdsA; rw [if_neg ha]
    rw [he]
    obtain ⟨r, hr⟩ : ∃ r, askM g c t = r := ⟨_, rfl⟩
    rw [hr] at HASK ha ⊢
    have ha1 : (r == 0) = false := by simpa using ha
    have ha2 : (r != 0) = true := by simpa using ha
    clear he hr
    go_enter Try.func33, Try.ntmps33
    go_wp2_with (go_at_call 70; (with_reducible refine HASK.out.mono ?_); rintro e w1 ⟨rfl, hx⟩)
    go_ret2
    exact ⟨rfl, grew_trans HG0.out hx⟩

set_option maxHeartbeats 2000000 in
theorem rRanks34_any (v : Value) (g : Gr) (c t : Int) (w : World) (hv : IsGr w v g) :
    Calls Try.prog 34 #[v, .int .i64 c, .int .i64 t] w fun e w' => ∃ u, e = .returned (.tuple #[u, .int .i64 (ranksA g c t).2]) ∧ Grew w w' ∧ IsWd w' u (ranksA g c t).1 := by
  have HV := hid hv
  obtain ⟨s, rfl, -⟩ := hv
  obtain ⟨W0, hW0, g0, k0, k1, hz⟩ := box2 w (.int .i64 g.n) s 24
  have HG0 := hid g0
  have HASK := hid (asked70_any _ g c t W0 (HV.out.grew g0))
  by_cases ha : askM g c t = 0
  · have hval := (ask_valid ha).1
    have he : ranksA g c t = if hol g c t then (ranksM g.ms g.N c t, 0) else ([], 5) := by unfold ranksA; rw [if_pos ha]
    rw [he]
    rw [ha] at HASK
    have hr := fun W (h : Grew w W) => ranks75_any g g.N (gOk_valid hval) c t (clm_cases ha) (.agg #[.int .i64 g.n, s]) W (HV.out.grew h)
    have hhh : holdsB g.ms g.N c t = hol g c t := rfl
    rw [hhh] at hr
    obtain ⟨h, hh⟩ : ∃ h, hol g c t = h := ⟨_, rfl⟩
    rw [hh] at hr ⊢
    have HR := hid hr
    clear he ha hh hval hhh hr
    cases h
    · simp only [Bool.false_eq_true, if_false] at HR ⊢
      go_enter Try.func34, Try.ntmps34
      go_wp2_with (first
        | (go_at_call 70; (with_reducible refine HASK.out.mono ?_); rintro e w1 ⟨rfl, hx⟩; have HX := hid hx; have k0' := (hx.cell (p := ⟨w.heap.size, 0, none⟩) hz).trans k0; have k1' := (hx.cell (p := ⟨w.heap.size, 1, none⟩) hz).trans k1; clear hx)
        | (go_at_call 75; (with_reducible refine (HR.out _ (grew_trans HG0.out HX.out)).mono ?_); rintro e w2 ⟨u, rfl, hy, hu⟩; have HY := hid hy; have HU := hid hu; clear hy hu))
      go_ret2
      exact ⟨_, rfl, grew_trans HG0.out (grew_trans HX.out HY.out), wd_nil _⟩
    · simp only [if_true] at HR ⊢
      go_enter Try.func34, Try.ntmps34
      go_wp2_with (first
        | (go_at_call 70; (with_reducible refine HASK.out.mono ?_); rintro e w1 ⟨rfl, hx⟩; have HX := hid hx; have k0' := (hx.cell (p := ⟨w.heap.size, 0, none⟩) hz).trans k0; have k1' := (hx.cell (p := ⟨w.heap.size, 1, none⟩) hz).trans k1; clear hx)
        | (go_at_call 75; (with_reducible refine (HR.out _ (grew_trans HG0.out HX.out)).mono ?_); rintro e w2 ⟨u, rfl, hy, hu⟩; have HY := hid hy; have HU := hid hu; clear hy hu))
      go_ret2
      exact ⟨_, rfl, grew_trans HG0.out (grew_trans HX.out HY.out), HU.out⟩
  · have he : ranksA g c t = ([], askM g c t) := by unfold ranksA; rw [if_neg ha]
    rw [he]
    obtain ⟨r, hr⟩ : ∃ r, askM g c t = r := ⟨_, rfl⟩
    rw [hr] at HASK ha ⊢
    have ha1 : (r == 0) = false := by simpa using ha
    have ha2 : (r != 0) = true := by simpa using ha
    clear he hr
    go_enter Try.func34, Try.ntmps34
    go_wp2_with (go_at_call 70; (with_reducible refine HASK.out.mono ?_); rintro e w1 ⟨rfl, hx⟩)
    go_ret2
    exact ⟨_, rfl, grew_trans HG0.out hx, wd_nil _⟩

/-! ### The greatest rank -/

set_option maxHeartbeats 2000000 in
theorem max94_any (v : Value) (l : List Int) (w : World) (hn : 1 ≤ l.length) (h0 : ∀ p, 0 ≤ nth l p) (hv : IsInts Any w v l) :
    Calls Try.prog 94 #[v] w fun e w' => e = .returned (.int .i64 (maxI l)) ∧ Grew w w' := by
  obtain ⟨n, hn'⟩ : ∃ n, l.length = n := ⟨_, rfl⟩
  obtain ⟨a, cap, rfl, hm, hc⟩ := hv
  rw [hn'] at hm hc hn ⊢
  have HC := hid hc; have HN := hid hn'; have H0 := hid h0
  obtain ⟨b, off, o, rfl, hb, _, hcj⟩ := hc 0 (by omega)
  have hbl := lt_of_obj hb
  simp only [Nat.add_zero] at hcj
  have hn1 : ¬ ((n : Int) < 1) := by omega
  have h1 : maxI (l.take 1) = nth l 0 := by
    rw [show (1 : Nat) = 0 + 1 from rfl, maxI_take (by omega)]
    have := h0 0
    simp only [List.take_zero, maxI, List.foldl_nil]
    omega
  have H1 := hid h1
  have hn0 : (0 : Int) < (n : Int) := by omega
  clear hc hn' h0 hb h1
  go_enter Try.func94, Try.ntmps94
  go_wp2
  go_loopg [3, 4] n (fun k mx i wr => ∃ j : Nat, 1 ≤ j ∧ j ≤ n ∧ i = .int .i64 (j : Int) ∧ mx = .int .i64 (maxI (l.take j)) ∧ Hid (n - j ≤ k) ∧ wr = w)
  case atStart => exact ⟨1, Nat.le_refl _, hn, rfl, by rw [H1.out], hid (by omega), rfl⟩
  case round =>
    obtain ⟨j, hj1, hj, rfl, rfl, HK, rfl⟩ := hrel
    obtain ⟨mx, hmx⟩ : ∃ mx, maxI (l.take j) = mx := ⟨_, rfl⟩
    have HMX := hid hmx
    rw [hmx]
    clear hmx
    by_cases hlt : j < n
    · obtain ⟨_, _, o', e1, hb', _, hcj'⟩ := HC.out j hlt
      simp only [Option.some.injEq, Addr.mk.injEq, and_true] at e1
      obtain ⟨rfl, rfl⟩ := e1
      have hltI : (j : Int) < (n : Int) := by omega
      have hnx := maxI_take (l := l) (j := j) (by rw [HN.out]; exact hlt)
      rw [HMX.out] at hnx
      have HNX := hid hnx
      have HLT := hid hlt
      clear hb' hnx
      go_wp2
      go_roundg (n - (j + 1))
      case measure => have := HK.out; have := HLT.out; omega
      case rel => exact ⟨j + 1, by omega, by have := HLT.out; omega, by go_num, by rw [HNX.out], hid (by omega), rfl⟩
    · obtain rfl : j = n := by omega
      have hx := HMX.out
      rw [List.take_of_length_le (by rw [HN.out]; exact Nat.le_refl _)] at hx
      have HX := hid hx
      clear hx
      go_wp2
      go_ret
      exact ⟨by rw [HX.out]; rfl, grew_refl _⟩

theorem ranks_some {g : Gr} (hv : valid g = true) (c t : Int) : 1 ≤ (ranksM g.ms g.N c t).length ∧ ∀ p, 0 ≤ nth (ranksM g.ms g.N c t) p := by
  have hG := gOk_valid hv
  refine ⟨?_, own_nonneg hG.inN⟩
  have h1 := hG.h1
  unfold ranksM
  rw [rounds_length]; exact h1

set_option maxHeartbeats 2000000 in
theorem greatest74_any (v : Value) (g : Gr) (c t : Int) (w : World) (hn : -9223372036854775808 ≤ g.n ∧ g.n ≤ 9223372036854775807) (hv : IsGr w v g) :
    Calls Try.prog 74 #[v, .int .i64 c, .int .i64 t] w fun e w' => e = .returned (.tuple #[.int .i64 (greatA g c t).1, .int .i64 (greatA g c t).2]) ∧ Grew w w' := by
  have HV := hid hv
  obtain ⟨s, rfl, -⟩ := hv
  obtain ⟨W0, hW0, g0, k0, k1, hz⟩ := box2 w (.int .i64 g.n) s 24
  have HG0 := hid g0
  have HRK := hid (ranks18_any _ g c t W0 hn (HV.out.grew g0))
  obtain ⟨⟨l, r⟩, hl⟩ : ∃ x, ranksA g c t = x := ⟨_, rfl⟩
  rw [hl] at HRK
  simp only at HRK
  have hg : greatA g c t = if r = 0 then (maxI l, 0) else (0, r) := by
    unfold ranksA at hl
    unfold greatA
    by_cases ha : askM g c t = 0
    · rw [if_pos ha] at hl ⊢
      cases hh : hol g c t with
      | true => rw [hh] at hl; simp only [if_true, Prod.mk.injEq] at hl ⊢; obtain ⟨rfl, rfl⟩ := hl; rfl
      | false => rw [hh] at hl; simp only [Bool.false_eq_true, if_false, Prod.mk.injEq] at hl ⊢; obtain ⟨rfl, rfl⟩ := hl; rfl
    · rw [if_neg ha] at hl ⊢
      simp only [Prod.mk.injEq] at hl
      obtain ⟨rfl, rfl⟩ := hl
      rw [if_neg ha]
  rw [hg]
  by_cases hr : r = 0
  · subst hr
    have hls : 1 ≤ l.length ∧ ∀ p, 0 ≤ nth l p := by
      unfold ranksA at hl
      by_cases ha : askM g c t = 0
      · rw [if_pos ha] at hl
        cases hh : hol g c t with
        | true => rw [hh] at hl; simp only [if_true, Prod.mk.injEq] at hl; rw [← hl.1]; exact ranks_some (ask_valid ha).1 c t
        | false => rw [hh] at hl; simp at hl
      · rw [if_neg ha] at hl
        simp only [Prod.mk.injEq] at hl
        exact absurd hl.2 ha
    have HMX := hid (fun (u : Value) (W : World) (h : IsInts Any W u l) => max94_any u l W hls.1 hls.2 h)
    simp only [if_true]
    clear hg hl hls
    go_enter Try.func74, Try.ntmps74
    go_wp2_with (first
      | (go_at_call 18; (with_reducible refine HRK.out.mono ?_); rintro e w1 ⟨u, rfl, hx, hu⟩; have HX := hid hx; have HU := hid hu.ints; clear hx hu)
      | (go_at_call 94; (with_reducible refine (HMX.out _ _ HU.out).mono ?_); rintro e w2 ⟨rfl, hy⟩; have HY := hid hy; clear hy))
    go_ret2
    exact ⟨rfl, grew_trans HG0.out (grew_trans HX.out HY.out)⟩
  · rw [if_neg hr]
    have ha1 : (r == 0) = false := by simpa using hr
    have ha2 : (r != 0) = true := by simpa using hr
    clear hg hl
    go_enter Try.func74, Try.ntmps74
    go_wp2_with (go_at_call 18; (with_reducible refine HRK.out.mono ?_); rintro e w1 ⟨u, rfl, hx, -⟩; have HX := hid hx; clear hx)
    go_ret2
    exact ⟨rfl, grew_trans HG0.out HX.out⟩

theorem longest27_any (v : Value) (g : Gr) (w : World) (hn : -9223372036854775808 ≤ g.n ∧ g.n ≤ 9223372036854775807) (hv : IsGr w v g) :
    Calls Try.prog 27 #[v] w fun e w' => e = .returned (.tuple #[.int .i64 (greatA g 0 0).1, .int .i64 (greatA g 0 0).2]) ∧ Grew w w' := by
  have HV := hid hv
  obtain ⟨s, rfl, -⟩ := hv
  obtain ⟨W0, hW0, g0, k0, k1, hz⟩ := box2 w (.int .i64 g.n) s 24
  have HG0 := hid g0
  have HRK := hid (greatest74_any _ g 0 0 W0 hn (HV.out.grew g0))
  obtain ⟨⟨l, r⟩, hl⟩ : ∃ x, greatA g 0 0 = x := ⟨_, rfl⟩
  rw [hl] at HRK ⊢
  simp only at HRK ⊢
  clear hl
  go_enter Try.func27, Try.ntmps27
  go_wp2_with (go_at_call 74; (with_reducible refine HRK.out.mono ?_); rintro e w1 ⟨rfl, hx⟩; have HX := hid hx; clear hx)
  go_ret2
  exact ⟨rfl, grew_trans HG0.out HX.out⟩

theorem bound28_any (v : Value) (g : Gr) (t : Int) (w : World) (hn : -9223372036854775808 ≤ g.n ∧ g.n ≤ 9223372036854775807) (hv : IsGr w v g) :
    Calls Try.prog 28 #[v, .int .i64 t] w fun e w' => e = .returned (.tuple #[.int .i64 (greatA g 1 t).1, .int .i64 (greatA g 1 t).2]) ∧ Grew w w' := by
  have HV := hid hv
  obtain ⟨s, rfl, -⟩ := hv
  obtain ⟨W0, hW0, g0, k0, k1, hz⟩ := box2 w (.int .i64 g.n) s 24
  have HG0 := hid g0
  have HRK := hid (greatest74_any _ g 1 t W0 hn (HV.out.grew g0))
  obtain ⟨⟨l, r⟩, hl⟩ : ∃ x, greatA g 1 t = x := ⟨_, rfl⟩
  rw [hl] at HRK ⊢
  simp only at HRK ⊢
  clear hl
  go_enter Try.func28, Try.ntmps28
  go_wp2_with (go_at_call 74; (with_reducible refine HRK.out.mono ?_); rintro e w1 ⟨rfl, hx⟩; have HX := hid hx; clear hx)
  go_ret2
  exact ⟨rfl, grew_trans HG0.out HX.out⟩

/-! ### of the reference -/

set_option maxHeartbeats 2000000 in
theorem greatest80_any (v : Value) (g : Gr) (c t : Int) (w : World) (ha : askM g c t = 0) (hv : IsGr w v g) :
    Calls Try.prog 80 #[v, .int .i64 c, .int .i64 t] w fun e w' => e = .returned (.tuple #[.int .i64 (greatA g c t).1, .int .i64 (greatA g c t).2]) ∧ Grew w w' := by
  have HV := hid hv
  obtain ⟨s, rfl, -⟩ := hv
  obtain ⟨W0, hW0, g0, k0, k1, hz⟩ := box2 w (.int .i64 g.n) s 24
  have HG0 := hid g0
  have hval := (ask_valid ha).1
  have hr := ranks75_any g g.N (gOk_valid hval) c t (clm_cases ha) (.agg #[.int .i64 g.n, s]) W0 (HV.out.grew g0)
  have hhh : holdsB g.ms g.N c t = hol g c t := rfl
  rw [hhh] at hr
  have he : greatA g c t = if hol g c t then (maxI (ranksM g.ms g.N c t), 0) else (0, 5) := by unfold greatA; rw [if_pos ha]
  rw [he]
  obtain ⟨h, hh⟩ : ∃ h, hol g c t = h := ⟨_, rfl⟩
  rw [hh] at hr ⊢
  have HR := hid hr
  obtain ⟨l, hl⟩ : ∃ l, ranksM g.ms g.N c t = l := ⟨_, rfl⟩
  have hlen : l.length = g.N := by rw [← hl]; unfold ranksM; exact rounds_length _
  have hN8 := (gOk_valid hval).h8
  rw [hl] at HR ⊢
  clear he ha hh hval hhh hr hl
  cases h
  · simp only [Bool.false_eq_true, if_false] at HR ⊢
    go_enter Try.func80, Try.ntmps80
    go_wp2_with (go_at_call 75; (with_reducible refine HR.out.mono ?_); rintro e w1 ⟨u, rfl, hx, -⟩; have HX := hid hx; clear hx)
    go_ret2
    exact ⟨rfl, grew_trans HG0.out HX.out⟩
  · simp only [if_true] at HR ⊢
    obtain ⟨n, hn'⟩ : ∃ n, l.length = n := ⟨_, rfl⟩
    have HN := hid hn'
    have hn8 : n ≤ 8 := by omega
    clear hlen hN8
    go_enter Try.func80, Try.ntmps80
    go_wp2_with (go_at_call 75; (with_reducible refine HR.out.mono ?_); rintro e w1 ⟨u, rfl, hx, hu⟩; have HX := hid hx; obtain ⟨a, cap, rfl, hm, hc⟩ := hu.ints; have HC := hid hc; rw [hn'] at hm HC; rw [hn']; clear hx hu hc)
    go_loopg [10, 12, 24] n (fun k mx _ i wr => ∃ j : Nat, j ≤ n ∧ i = .int .i64 (j : Int) ∧ mx = .int .i64 (maxI (l.take j)) ∧ Hid (k = n - j) ∧ wr = w1)
    case atStart => exact ⟨0, Nat.zero_le _, rfl, rfl, hid rfl, rfl⟩
    case round =>
      obtain ⟨j, hj, rfl, rfl, HK, rfl⟩ := hrel
      obtain ⟨mx, hmx⟩ : ∃ mx, maxI (l.take j) = mx := ⟨_, rfl⟩
      have HMX := hid hmx
      rw [hmx]
      clear hmx
      by_cases hlt : j < n
      · obtain ⟨b, off, o', rfl, hb', _, hcj'⟩ := HC.out j hlt
        have hbl := lt_of_obj hb'
        have hltI : (j : Int) < (n : Int) := by omega
        have hnx := maxI_take (l := l) (j := j) (by rw [HN.out]; exact hlt)
        rw [HMX.out] at hnx
        have HNX := hid hnx
        have HLT := hid hlt
        clear hb' hnx
        go_wp2
        go_roundg (n - (j + 1))
        case measure => have := HK.out; have := HLT.out; omega
        case rel => exact ⟨j + 1, by have := HLT.out; omega, by go_num, by rw [HNX.out], hid rfl, rfl⟩
      · obtain rfl : j = n := by omega
        have hx := HMX.out
        rw [List.take_of_length_le (by rw [HN.out]; exact Nat.le_refl _)] at hx
        have HMM := hid hx
        clear hx
        go_wp2
        go_ret2
        exact ⟨by rw [HMM.out]; rfl, grew_trans HG0.out HX.out⟩

set_option maxHeartbeats 1000000 in
theorem longest43_any (v : Value) (g : Gr) (w : World) (hv : IsGr w v g) :
    Calls Try.prog 43 #[v] w fun e w' => e = .returned (.tuple #[.int .i64 (greatA g 0 0).1, .int .i64 (greatA g 0 0).2]) ∧ Grew w w' := by
  have HV := hid hv
  obtain ⟨s, rfl, -⟩ := hv
  obtain ⟨W0, hW0, g0, k0, k1, hz⟩ := box2 w (.int .i64 g.n) s 24
  have HG0 := hid g0
  have HVA := hid (rValid16_any _ g W0 (HV.out.grew g0))
  obtain ⟨b, hb⟩ : ∃ b, valid g = b := ⟨_, rfl⟩
  rw [hb] at HVA
  cases b with
  | false =>
    have he : greatA g 0 0 = (0, 70) := by unfold greatA askM; rw [hb]; rfl
    rw [he]
    clear he hb
    go_enter Try.func43, Try.ntmps43
    go_wp2_with (go_at_call 16; (with_reducible refine HVA.out.mono ?_); rintro e w1 ⟨rfl, hx⟩; have HX := hid hx; clear hx)
    go_ret2
    exact ⟨rfl, grew_trans HG0.out HX.out⟩
  | true =>
    have ha : askM g 0 0 = 0 := by unfold askM; rw [hb]; rfl
    have HRK := hid (fun (W : World) (h : Grew w W) => greatest80_any (.agg #[.int .i64 g.n, s]) g 0 0 W ha (HV.out.grew h))
    obtain ⟨⟨l, r⟩, hl⟩ : ∃ x, greatA g 0 0 = x := ⟨_, rfl⟩
    rw [hl] at HRK ⊢
    simp only at HRK ⊢
    clear hl ha hb
    go_enter Try.func43, Try.ntmps43
    go_wp2_with (first
      | (go_at_call 16; (with_reducible refine HVA.out.mono ?_); rintro e w1 ⟨rfl, hx⟩; have HX := hid hx; have k0' := (hx.cell (p := ⟨w.heap.size, 0, none⟩) hz).trans k0; have k1' := (hx.cell (p := ⟨w.heap.size, 1, none⟩) hz).trans k1; clear hx)
      | (go_at_call 80; (with_reducible refine (HRK.out _ (grew_trans HG0.out HX.out)).mono ?_); rintro e w2 ⟨rfl, hy⟩; have HY := hid hy; clear hy))
    go_ret2
    exact ⟨rfl, grew_trans HG0.out (grew_trans HX.out HY.out)⟩

set_option maxHeartbeats 1000000 in
theorem bound44_any (v : Value) (g : Gr) (t : Int) (w : World) (hv : IsGr w v g) :
    Calls Try.prog 44 #[v, .int .i64 t] w fun e w' => e = .returned (.tuple #[.int .i64 (greatA g 1 t).1, .int .i64 (greatA g 1 t).2]) ∧ Grew w w' := by
  have HV := hid hv
  obtain ⟨s, rfl, -⟩ := hv
  obtain ⟨W0, hW0, g0, k0, k1, hz⟩ := box2 w (.int .i64 g.n) s 24
  have HG0 := hid g0
  have HASK := hid (asked70_any _ g 1 t W0 (HV.out.grew g0))
  by_cases ha : askM g 1 t = 0
  · have HRK := hid (fun (W : World) (h : Grew w W) => greatest80_any (.agg #[.int .i64 g.n, s]) g 1 t W ha (HV.out.grew h))
    rw [ha] at HASK
    obtain ⟨⟨l, r⟩, hl⟩ : ∃ x, greatA g 1 t = x := ⟨_, rfl⟩
    rw [hl] at HRK ⊢
    simp only at HRK ⊢
    clear hl ha
    go_enter Try.func44, Try.ntmps44
    go_wp2_with (first
      | (go_at_call 70; (with_reducible refine HASK.out.mono ?_); rintro e w1 ⟨rfl, hx⟩; have HX := hid hx; have k0' := (hx.cell (p := ⟨w.heap.size, 0, none⟩) hz).trans k0; have k1' := (hx.cell (p := ⟨w.heap.size, 1, none⟩) hz).trans k1; clear hx)
      | (go_at_call 80; (with_reducible refine (HRK.out _ (grew_trans HG0.out HX.out)).mono ?_); rintro e w2 ⟨rfl, hy⟩; have HY := hid hy; clear hy))
    go_ret2
    exact ⟨rfl, grew_trans HG0.out (grew_trans HX.out HY.out)⟩
  · have he : greatA g 1 t = (0, askM g 1 t) := by unfold greatA; rw [if_neg ha]
    rw [he]
    obtain ⟨r, hr⟩ : ∃ r, askM g 1 t = r := ⟨_, rfl⟩
    rw [hr] at HASK ha ⊢
    have ha1 : (r == 0) = false := by simpa using ha
    have ha2 : (r != 0) = true := by simpa using ha
    clear he hr
    go_enter Try.func44, Try.ntmps44
    go_wp2_with (go_at_call 70; (with_reducible refine HASK.out.mono ?_); rintro e w1 ⟨rfl, hx⟩)
    go_ret2
    exact ⟨rfl, grew_trans HG0.out hx⟩

/-! ### Everybody -/

set_option maxHeartbeats 2000000 in
theorem everybody25_any (v : Value) (g : Gr) (w : World) (hn : -9223372036854775808 ≤ g.n ∧ g.n ≤ 9223372036854775807) (hv : IsGr w v g) :
    Calls Try.prog 25 #[v] w fun e w' => e = .returned (.tuple #[.bool (everyA g).1, .int .i64 (everyA g).2]) ∧ Grew w w' := by
  have HV := hid hv
  obtain ⟨s, rfl, -⟩ := hv
  obtain ⟨W0, hW0, g0, k0, k1, hz⟩ := box2 w (.int .i64 g.n) s 24
  have HG0 := hid g0
  have HHO := hid (fun (t : Int) (W : World) (h : Grew w W) => holds20_any (.agg #[.int .i64 g.n, s]) g 1 t W hn (HV.out.grew h))
  obtain ⟨b, hb⟩ : ∃ b, valid g = b := ⟨_, rfl⟩
  have hr : everyA g = if b then (allT g 3, 0) else (false, 70) := by unfold everyA; rw [hb]
  rw [hr]
  have HB := hid hb
  clear hr hb
  go_enter Try.func25, Try.ntmps25
  go_wp2
  go_loopg [4, 5, 6, 7, 8, 11] 3 (fun k al _ _ _ i _ wr => ∃ j : Nat, j ≤ 3 ∧ i = .int .i64 (j : Int) ∧ al = .bool (allT g j) ∧ Hid (k = 3 - j) ∧ Hid (j ≠ 0 → b = true) ∧ Hid (Grew W0 wr))
  case atStart => exact ⟨0, by omega, rfl, rfl, hid rfl, hid (fun h => absurd rfl h), hid (grew_refl _)⟩
  case round =>
    obtain ⟨j, hj, rfl, rfl, HK, HJ, HGR⟩ := hrel
    rename World => wr
    obtain ⟨al, hal⟩ : ∃ al, allT g j = al := ⟨_, rfl⟩
    have HAL := hid hal
    rw [hal]
    clear hal
    have k0' := (HGR.out.cell (p := ⟨w.heap.size, 0, none⟩) hz).trans k0
    have k1' := (HGR.out.cell (p := ⟨w.heap.size, 1, none⟩) hz).trans k1
    have hzr := Nat.lt_of_lt_of_le hz HGR.out.size
    have HGW := hid (grew_trans HG0.out HGR.out)
    clear k0 k1
    by_cases hlt : j < 3
    · have hltI : (j : Int) < 3 := by omega
      have HLT := hid hlt
      have hho := HHO.out (j : Int) wr HGW.out
      cases b with
      | false =>
        have hh : holdsA g 1 (j : Int) = (false, 70) := by
          unfold holdsA askM; rw [HB.out]; rfl
        rw [hh] at hho
        have HH := hid hho
        clear hh hho
        go_wp2_with (go_at_call 20; (with_reducible refine HH.out.mono ?_); rintro e w1 ⟨rfl, hx⟩; have HX := hid hx; clear hx)
        go_ret2
        exact ⟨rfl, grew_trans HGW.out HX.out⟩
      | true =>
        have hh : holdsA g 1 (j : Int) = (hol g 1 (j : Int), 0) := by
          unfold holdsA; rw [if_pos (ask_waits HB.out hlt)]
        rw [hh] at hho
        have hs := allT_succ g j
        rw [HAL.out] at hs
        obtain ⟨q, hq⟩ : ∃ q, hol g 1 (j : Int) = q := ⟨_, rfl⟩
        rw [hq] at hho hs
        have HH := hid hho; have HS := hid hs
        clear hh hho hs hq
        cases al
        all_goals (
          go_wp2_with (go_at_call 20; (with_reducible refine HH.out.mono ?_); rintro e w1 ⟨rfl, hx⟩; have HX := hid hx; clear hx)
          go_roundg (3 - (j + 1))
          case measure => have := HK.out; have := HLT.out; omega
          case rel => exact ⟨j + 1, by have := HLT.out; omega, by go_num, by rw [HS.out]; rfl, hid rfl, hid (fun _ => by first | rfl | trivial), hid (grew_trans HGR.out HX.out)⟩)
    · obtain rfl : j = 3 := by omega
      obtain rfl := HJ.out (by omega)
      have HAL' := HAL
      go_wp2
      go_ret2
      exact ⟨by rw [HAL'.out]; rfl, HGW.out⟩

set_option maxHeartbeats 2000000 in
theorem rEverybody42_any (v : Value) (g : Gr) (w : World) (hv : IsGr w v g) :
    Calls Try.prog 42 #[v] w fun e w' => e = .returned (.tuple #[.bool (everyA g).1, .int .i64 (everyA g).2]) ∧ Grew w w' := by
  have HV := hid hv
  obtain ⟨s, rfl, -⟩ := hv
  obtain ⟨W0, hW0, g0, k0, k1, hz⟩ := box2 w (.int .i64 g.n) s 24
  have HG0 := hid g0
  have HVA := hid (rValid16_any _ g W0 (HV.out.grew g0))
  obtain ⟨b, hb⟩ : ∃ b, valid g = b := ⟨_, rfl⟩
  have hr : everyA g = if b then (allT g 3, 0) else (false, 70) := by unfold everyA; rw [hb]
  rw [hr]
  rw [hb] at HVA
  clear hr
  cases b with
  | false =>
    simp only [Bool.false_eq_true, if_false]
    clear hb
    go_enter Try.func42, Try.ntmps42
    go_wp2_with (go_at_call 16; (with_reducible refine HVA.out.mono ?_); rintro e w1 ⟨rfl, hx⟩; have HX := hid hx; clear hx)
    go_ret2
    exact ⟨rfl, grew_trans HG0.out HX.out⟩
  | true =>
    simp only [if_true]
    have HRK := hid (fun (t : Int) (W : World) (h : Grew w W) => ranks75_any g g.N (gOk_valid hb) 1 t (.inr (.inl rfl)) (.agg #[.int .i64 g.n, s]) W (HV.out.grew h))
    have HHL := hid (show ∀ t, holdsB g.ms g.N 1 t = hol g 1 t from fun _ => rfl)
    clear hb
    go_enter Try.func42, Try.ntmps42
    go_wp2_with (go_at_call 16; (with_reducible refine HVA.out.mono ?_); rintro e w1 ⟨rfl, hx⟩; have HX := hid hx; have k0' := (hx.cell (p := ⟨w.heap.size, 0, none⟩) hz).trans k0; have k1' := (hx.cell (p := ⟨w.heap.size, 1, none⟩) hz).trans k1; have hzx := Nat.lt_of_lt_of_le hz hx.size; clear hx)
    have K0 := hid k0'; have K1 := hid k1'
    clear k0 k1 k0' k1' hW0 g0
    go_loopg [4, 5, 6, 10, 13] 3 (fun k _ _ _ i _ wr => ∃ j : Nat, j ≤ 3 ∧ i = .int .i64 (j : Int) ∧ Hid (k = 3 - j) ∧ Hid (allT g j = true) ∧ Hid (Grew w1 wr))
    case atStart => exact ⟨0, by omega, rfl, hid rfl, hid rfl, hid (grew_refl _)⟩
    case round =>
      obtain ⟨j, hj, rfl, HK, HAL, HGR⟩ := hrel
      rename World => wr
      have k0' := (HGR.out.cell (p := ⟨w.heap.size, 0, none⟩) hzx).trans K0.out
      have k1' := (HGR.out.cell (p := ⟨w.heap.size, 1, none⟩) hzx).trans K1.out
      have hzr := Nat.lt_of_lt_of_le hzx HGR.out.size
      have HGW := hid (grew_trans HG0.out (grew_trans HX.out HGR.out))
      by_cases hlt : j < 3
      · have hltI : (j : Int) < 3 := by omega
        have HLT := hid hlt
        have hho := HRK.out (j : Int) wr HGW.out
        rw [HHL.out] at hho
        have hs := allT_succ g j
        rw [HAL.out, Bool.true_and] at hs
        have hfl := fun h => allT_false (g := g) hlt h
        obtain ⟨q, hq⟩ : ∃ q, hol g 1 (j : Int) = q := ⟨_, rfl⟩
        rw [hq] at hho hs hfl
        have HH := hid hho; have HS := hid hs; have HFL := hid hfl
        clear hho hs hq hfl
        cases q with
        | false =>
          have HF3 := hid (HFL.out rfl)
          go_wp2_with (go_at_call 75; (with_reducible refine HH.out.mono ?_); rintro e w2 ⟨u, rfl, hx, -⟩; have HX2 := hid hx; clear hx)
          go_ret2
          exact ⟨by rw [HF3.out]; rfl, grew_trans HGW.out HX2.out⟩
        | true =>
          go_wp2_with (go_at_call 75; (with_reducible refine HH.out.mono ?_); rintro e w2 ⟨u, rfl, hx, -⟩; have HX2 := hid hx; clear hx)
          go_roundg (3 - (j + 1))
          case measure => have := HK.out; have := HLT.out; omega
          case rel => exact ⟨j + 1, by have := HLT.out; omega, by go_num, hid rfl, hid HS.out, hid (grew_trans HGR.out HX2.out)⟩
      · obtain rfl : j = 3 := by omega
        go_wp2
        go_ret2
        exact ⟨by rw [HAL.out]; rfl, HGW.out⟩
end Go.Proofs.Ytojkohpniokaaaa
