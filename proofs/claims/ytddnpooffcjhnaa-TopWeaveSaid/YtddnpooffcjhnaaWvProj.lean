/- Projection, of the program (41). -/
import Derived.Test.YtddnpooffcjhnaaWvDel
namespace Go.Lin.Wv
/-- What a projection to a and b takes out. -/
def qP (a b z : Int) : Bool := (z != a) && (z != b)
def projM (L : Lt) (x : List Int) (a b : Int) : List Int × Int := if wrong L [x] = 0 then (if isL L a && isL L b then (kept (qP a b) x, 0) else ([], 2)) else ([], wrong L [x])
end Go.Lin.Wv
namespace Go.Proofs.Ytddnpooffcjhnaa
open Go.RowKit Go.Lin Go.Lin.Wv

set_option maxHeartbeats 1000000 in
theorem delete84_nil (gf : Nat) (caps : Array Value) (w : World) (hcf : Entered gf) :
    Calls Try.prog 84 #[.slice none 0 0, .func (.func gf) #[] caps] w fun e w' => e = .returned (.slice none 0 0) ∧ Grew w w' := by
  have HI := hid (index101_any gf caps (fun _ => false) (.slice none 0 0) [] w hcf (Reads.nil _ _ _ _ _) (fun i hi => by simp at hi))
  go_enter Try.func84, Try.ntmps84
  go_wp2_with (go_at_call 101; with_reducible refine HI.out.mono ?_; rintro e w1 ⟨r, rfl, hr1, hk1⟩; have HK1 := hid hk1; clear hk1; obtain rfl : r = -1 := (by rcases hr1 with ⟨h, _⟩ | ⟨i, hi, _⟩; exact h; simp at hi); clear hr1)
  go_ret
  exact ⟨rfl, HK1.out⟩

theorem delete84_seg (q : Int → Bool) (gf : Nat) (caps : Array Value) (base : Nat) (v : Value) (n : Nat) (xs : List Int) (w : World) (hcf : Entered gf) (hq : ∀ x ∈ xs, ∀ W, Below base w W → Calls Try.prog gf (#[.int .i64 x] ++ caps) W fun e w'' => e = .returned (.bool (q x)) ∧ Grew W w'')
    (hbase : base ≤ w.heap.size) (hs : Seg w base 3 1 v n (xs.map (.int .i64))) (hn : xs.length = n) (hl : n ≤ 100000) :
    Calls Try.prog 84 #[v, .func (.func gf) #[] caps] w fun e w' => ∃ u, e = .returned u ∧ IsWd w' u (kept q xs) ∧ Below base w w' := by
  subst hn
  obtain ⟨hlen, h⟩ := hs
  rcases h with ⟨rfl, h0⟩ | ⟨g, off, cap, cur, rfl, hbg, hgc, h1, h2, h3, h4⟩
  · have hx : xs = [] := List.length_eq_zero_iff.1 h0
    subst hx
    exact (delete84_nil gf caps w hcf).mono fun e w' ⟨h5, h6⟩ => ⟨_, h5, wd_nil _, h6.mono hbase⟩
  · refine (delete84_any q gf caps base g off cur.size cap xs w hcf hq hbg hbase ⟨rfl, cur, hgc, rfl, by omega, fun t ht => ?_⟩ (by omega) h1).mono ?_
    · have h5 := congrArg (fun l => l[t]?) h4
      rw [List.getElem?_take_of_lt (by omega), List.getElem?_drop, Array.getElem?_toList, List.getElem?_map, List.getElem?_eq_getElem ht, Option.map_some, ← nth_lt ht] at h5
      exact h5
    · rintro e w' ⟨rfl, hb, cur', g1, g2, g3⟩
      have hk : (kept q xs).length ≤ xs.length := List.length_filter_le _ _
      exact ⟨_, rfl, ⟨_, cap, rfl, by omega, _, _, rfl, by omega, fun i hi => ⟨g, off, _, rfl, g1, trivial, by rw [cell_of_row w' g _ _ _ _ g1]; exact g3 i hi⟩⟩, hb⟩

theorem entered85 : Entered 85 := fun _ _ => by kernel_rfl

set_option maxHeartbeats 1000000 in
theorem says85 (a b z : Int) (b6 b7 : Nat) (W : World) (h6 : W.cell? ⟨b6, 0, none⟩ = some (.int .i64 a)) (h7 : W.cell? ⟨b7, 0, none⟩ = some (.int .i64 b)) :
    Calls Try.prog 85 #[.int .i64 z, .pointer (some ⟨b6, 0, none⟩), .pointer (some ⟨b7, 0, none⟩)] W fun e w' => e = .returned (.bool (qP a b z)) ∧ Grew W w' := by
  have z6 := World.block_lt_of_cell? W _ h6
  have z7 := World.block_lt_of_cell? W _ h7
  simp only at z6 z7
  unfold qP
  obtain ⟨p1, hp1⟩ : ∃ p, (z != a) = p := ⟨_, rfl⟩
  obtain ⟨p2, hp2⟩ : ∃ p, (z != b) = p := ⟨_, rfl⟩
  rw [hp1, hp2]
  have hg := grew_refl W
  cases p1 <;> cases p2
  all_goals
    go_enter Try.func85, Try.ntmps85
    go_wp2
    go_ret
    exact ⟨rfl, hg⟩

theorem says85_below (a b : Int) (xs : List Int) (b6 b7 base : Nat) (w : World) (h6 : w.cell? ⟨b6, 0, none⟩ = some (.int .i64 a)) (h7 : w.cell? ⟨b7, 0, none⟩ = some (.int .i64 b)) (l6 : b6 < base) (l7 : b7 < base) :
    ∀ x ∈ xs, ∀ W, Below base w W → Calls Try.prog 85 (#[.int .i64 x] ++ #[.pointer (some ⟨b6, 0, none⟩), .pointer (some ⟨b7, 0, none⟩)]) W fun e w'' => e = .returned (.bool (qP a b x)) ∧ Grew W w'' :=
  fun z _ W hW => says85 a b z b6 b7 W ((hW.cell (p := ⟨b6, 0, none⟩) l6).trans h6) ((hW.cell (p := ⟨b7, 0, none⟩) l7).trans h7)

set_option maxHeartbeats 4000000 in
set_option maxRecDepth 20000 in
theorem proj41_any (v : Value) (L : Lt) (uv : Value) (x : List Int) (a b : Int) (w : World) (hn : L.n ≤ 9223372036854775807) (hv : IsLt w v L) (hx : IsWd w uv x) :
    Calls Try.prog 41 #[v, uv, .int .i64 a, .int .i64 b] w fun e w' => Gives e w w' (projM L x a b) := by
  have HV := hid hv
  obtain ⟨s, rfl, -⟩ := hv
  obtain ⟨ua, uc, rfl⟩ := isWd_slice hx
  obtain ⟨W0, hW0, g0, k0, k1, hz⟩ := box2 w (.int .i64 L.n) s 24
  obtain ⟨W1, hW1, g1, l0, lz⟩ := box1 W0 (.int .i64 a) 3
  obtain ⟨W2, hW2, g2, m0, mz⟩ := box1 W1 (.int .i64 b) 3
  obtain ⟨W3, hW3⟩ : ∃ W3, W2.alloc (.cells #[.slice ua x.length uc] 25) = W3 := ⟨_, rfl⟩
  have g3 : Grew W2 W3 := by rw [← hW3]; exact grew_alloc (grew_refl _) _
  have g02 := grew_trans g1 g2
  have g01 := grew_trans (grew_trans g0 g02) g3
  have K0 := (g02.cell (p := ⟨w.heap.size, 0, none⟩) hz).trans k0
  have K1 := (g02.cell (p := ⟨w.heap.size, 1, none⟩) hz).trans k1
  have KZ := Nat.lt_of_lt_of_le hz g02.size
  have L0 := ((grew_trans g2 g3).cell (p := ⟨W0.heap.size, 0, none⟩) lz).trans l0
  have LZ := Nat.lt_of_lt_of_le lz (grew_trans g2 g3).size
  have M0 := (g3.cell (p := ⟨W1.heap.size, 0, none⟩) mz).trans m0
  have MZ := Nat.lt_of_lt_of_le mz g3.size
  obtain ⟨m, hm⟩ : ∃ m, x.length = m := ⟨_, rfl⟩
  have HM := hid hm
  have HXM := hid (show IsWd w (.slice ua m uc) x by rw [← hm]; exact hx)
  obtain ⟨r, hr⟩ : ∃ r, wrong L [x] = r := ⟨_, rfl⟩
  have HG01 := hid g01
  have hg := grew_refl W3
  have hrows : IsRows Any W3 (.slice (some ⟨W2.heap.size, 0, none⟩) 1 1) [x] := by rw [← hW3]; exact rows_one (Reads.grew hx.ints (grew_trans g0 g02)) 25
  clear g0 g1 g2 g3 g02 k0 k1 l0 m0 lz mz hz
  by_cases hr0 : r = 0
  · subst hr0
    obtain ⟨hv1, hw1⟩ := wrong_one hr
    obtain ⟨⟨h1, h6⟩, -⟩ := valid_iff hv1
    obtain ⟨N, hN⟩ : ∃ N : Nat, L.n = N := ⟨L.n.toNat, by omega⟩
    have hN6 : N ≤ 6 := by omega
    have hok := newLoom_ok _ L _ [x] W3 hn (HV.out.grew g01) hrows hr
    have HOK := hid hok
    have HNN := hid hN
    have hem : projM L x a b = if isL L a && isL L b then (kept (qP a b) x, 0) else ([], 2) := by unfold projM; rw [if_pos hr]
    have hl10 : x.length ≤ 10 := by unfold isW at hw1; simp at hw1; exact hw1.1
    have HE10 := hid hl10
    obtain ⟨la, hla⟩ : ∃ r, isL L a = r := ⟨_, rfl⟩
    obtain ⟨lb, hlb⟩ : ∃ r, isL L b = r := ⟨_, rfl⟩
    have HA := hid (letter_isL hN hN6 a la hla)
    have HB := hid (letter_isL hN hN6 b lb hlb)
    rw [hla, hlb] at hem
    have HEM := hid hem
    rw [hm] at hW3 ⊢
    clear hr hx hm hok hv1 hw1 hem hl10 h1 h6 hN hN6 hla hlb g01 hrows
    cases la <;> cases lb
    all_goals
      go_enter Try.func41, Try.ntmps41
      go_wp2_with (first
        | (go_at_call 60; (with_reducible refine HOK.out.mono ?_); rintro e w1 ⟨B, N', hN', hN1, hN6', rfl, hB, hL, hx⟩; obtain rfl : N' = N := (by have := HNN.out; omega); have HL := hid hL; replace hg := grew_trans hg hx; have hc := (bcell hg).1; clear hL hx hB hN1 hN6' hN')
        | (go_at_call 78; (with_reducible refine (HA.out _ _ HL.out).mono ?_); rintro e w2 ⟨rfl, hx⟩; replace HL := hid (HL.out.grew hx); replace hg := grew_trans hg hx; replace hc := (bcell hg).1; clear hx)
        | (go_at_call 78; (with_reducible refine (HB.out _ _ HL.out).mono ?_); rintro e w3 ⟨rfl, hx⟩; replace HL := hid (HL.out.grew hx); replace hg := grew_trans hg hx; replace hc := (bcell hg).1; clear hx)
        | (go_at_call 80; (with_reducible refine (clone_ints _ m x _ HM.out (by have := HE10.out; have := HM.out; omega) (HXM.out.grew (grew_trans HG01.out hg)).ints).mono ?_); rintro e w4 ⟨u, rfl, hs4, hg4⟩; have HS4 := hid hs4; have HG4 := hid hg4; have HQ := hid (says85_below a b x W0.heap.size W1.heap.size w3.heap.size w4 ((hg4.cell (p := ⟨W0.heap.size, 0, none⟩) (Nat.lt_of_lt_of_le LZ hg.size)).trans ((hg.cell (p := ⟨W0.heap.size, 0, none⟩) LZ).trans L0)) ((hg4.cell (p := ⟨W1.heap.size, 0, none⟩) (Nat.lt_of_lt_of_le MZ hg.size)).trans ((hg.cell (p := ⟨W1.heap.size, 0, none⟩) MZ).trans M0)) (Nat.lt_of_lt_of_le LZ hg.size) (Nat.lt_of_lt_of_le MZ hg.size)); clear hs4 hg4)
        | (go_at_call 84; (with_reducible refine (delete84_seg (qP a b) 85 #[.pointer (some ⟨W0.heap.size, 0, none⟩), .pointer (some ⟨W1.heap.size, 0, none⟩)] w3.heap.size u m x w4 entered85 HQ.out HG4.out.size HS4.out HM.out (by have := HE10.out; have := HM.out; omega)).mono ?_); rintro e w5 ⟨u5, rfl, hu5, hb5⟩; have HU5 := hid hu5; have HG5 := hid (HG4.out.trans hb5); clear hu5 hb5))
      go_ret2
      first
        | exact ⟨_, by rw [HEM.out]; rfl, by rw [HEM.out]; exact wd_nil _, grew_trans HG01.out hg⟩
        | exact ⟨_, by rw [HEM.out]; rfl, by rw [HEM.out]; exact HU5.out, grew_trans HG01.out (grew_trans hg HG5.out)⟩
  · have hbad := newLoom_bad _ L _ [x] W3 hn (HV.out.grew g01) hrows (by rw [hr]; exact hr0)
    rw [hr] at hbad
    have hne : (r != 0) = true := by simpa using hr0
    have HEM := hid (show projM L x a b = ([], r) by unfold projM; rw [hr, if_neg hr0])
    have HB := hid hbad
    rw [hm] at hW3 ⊢
    clear hr hx hm hbad hr0 g01 hrows
    go_enter Try.func41, Try.ntmps41
    go_wp2_with (go_at_call 60; (with_reducible refine HB.out.mono ?_); rintro e w1 ⟨rfl, hx⟩; replace hg := grew_trans hg hx; clear hx)
    go_ret2
    exact ⟨_, by rw [HEM.out]; rfl, by rw [HEM.out]; exact wd_nil _, grew_trans HG01.out hg⟩

end Go.Proofs.Ytddnpooffcjhnaa
