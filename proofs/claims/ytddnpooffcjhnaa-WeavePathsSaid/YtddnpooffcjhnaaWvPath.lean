/- Path, of the program (45). -/
import Derived.Test.YtddnpooffcjhnaaWvPathPl
namespace Go.Lin.Wv
/-- 0 + 1 + .. + (n - 1). -/
def tri : Nat → Nat
  | 0 => 0
  | n + 1 => n + tri n
theorem tri_le {n : Nat} (h : n ≤ 10) : tri n ≤ 45 := by
  have : n = 0 ∨ n = 1 ∨ n = 2 ∨ n = 3 ∨ n = 4 ∨ n = 5 ∨ n = 6 ∨ n = 7 ∨ n = 8 ∨ n = 9 ∨ n = 10 := by omega
  rcases this with h | h | h | h | h | h | h | h | h | h | h <;> subst h <;> decide
theorem tri_step {n j d : Nat} (h : j + d < n) : d + tri (n - (j + 1)) ≤ tri (n - j) := by
  obtain ⟨r, hr⟩ : ∃ r, n - j = r + 1 := ⟨n - j - 1, by omega⟩
  rw [hr, show n - (j + 1) = r by omega]
  show d + tri r ≤ r + tri r
  omega

/-- What Path answers: the exchanges that lead from x to y, at most 45, or that there is no way. -/
def PathSays (L : Lt) (x y path : List Int) (e : Int) : Prop :=
  (wrong L [x, y] ≠ 0 ∧ path = [] ∧ e = wrong L [x, y]) ∨
  (wrong L [x, y] = 0 ∧ first (dep L) L.n.toNat x ≠ first (dep L) L.n.toNat y ∧ path = [] ∧ e = 5) ∨
  (wrong L [x, y] = 0 ∧ first (dep L) L.n.toNat x = first (dep L) L.n.toNat y ∧ e = 0 ∧ path.length ≤ 45 ∧ runP (dep L) x path = some y)

/-- The inner loop, from its middle: d steps are left. -/
theorem downM_succ (x : List Int) (k d : Nat) : downM x k (d + 1) = downM (swapM x (k + d)) k d := rfl
theorem downP_succ (k d : Nat) : downP k (d + 1) = ((k + d : Nat) : Int) :: downP k d := rfl
end Go.Lin.Wv

namespace Go.Proofs.Ytddnpooffcjhnaa
open Go.RowKit Go.Lin Go.Lin.Wv

theorem runP_down {D : Int → Int → Bool} {cur fin : List Int} {k d : Nat} (h : runP D cur (downP k (d + 1)) = some fin) : canM D cur ((k + d : Nat) : Int) = true ∧ runP D (swapM cur (k + d)) (downP k d) = some fin := by
  rw [downP_succ] at h
  unfold runP at h
  split at h
  · rename_i hc; rw [Int.toNat_natCast] at h; exact ⟨hc, h⟩
  · cases h

theorem runP_snoc {D : Int → Int → Bool} {x p cur : List Int} {k : Nat} (h : runP D x p = some cur) (hc : canM D cur (k : Int) = true) : runP D x (p ++ [(k : Int)]) = some (swapM cur k) := by
  rw [runP_append, h]
  show (if canM D cur (k : Int) then runP D (swapM cur (k : Int).toNat) [] else none) = some (swapM cur k)
  rw [if_pos hc, Int.toNat_natCast]; rfl

theorem wd_cell {w : World} {a : Option Addr} {n c : Nat} {xs : List Int} (h : IsWd w (.slice a n c) xs) (j : Nat) (hj : j < n) : ∃ b off o, a = some ⟨b, off, none⟩ ∧ w.heap[b]? = some o ∧ w.cell? ⟨b, off + j, none⟩ = some (.int .i64 (nth xs j)) := by
  obtain ⟨a1, c1, h1, _, a2, c2, h2, _, hc⟩ := h
  simp only [Value.slice.injEq] at h1 h2
  obtain ⟨rfl, rfl, rfl⟩ := h1
  obtain ⟨rfl, -, rfl⟩ := h2
  obtain ⟨b, off, o, e1, e2, _, e3⟩ := hc j hj
  exact ⟨b, off, o, e1, e2, e3⟩

theorem index88_at (g off cap n j d : Nat) (cur : List Int) (b : Int) (w : World) (hn : cur.length = n) (hR : IsInts Any w (.slice (some ⟨g, off, none⟩) n cap) cur) (hj : j + d < n) (h1 : ∀ t, t < d → nth cur (j + t) ≠ b) (h2 : nth cur (j + d) = b) (c : Nat) :
    Calls Try.prog 88 #[.slice (some ⟨g, off + j, none⟩) (n - j) c, .int .i64 b] w fun e w' => e = .returned (.int .i64 (d : Int)) ∧ Grew w w' := by
  have hR2 : Reads Any w (.slice (some ⟨g, off, none⟩) n cap) n (fun i => .int .i64 (nth cur i)) := by rw [← hn] at hR ⊢; exact hR
  have hp := part_ints hR2 hn j (n - j) c (by omega)
  have hl : (cur.drop j).take (n - j) = cur.drop j := List.take_of_length_le (by rw [List.length_drop, hn]; exact Nat.le_refl _)
  rw [hl, List.length_drop, hn] at hp
  have hnt : ∀ t, nth (cur.drop j) t = nth cur (j + t) := fun t => by unfold nth; simp [List.getD, List.getElem?_drop]
  refine (index88_any _ (cur.drop j) b w hp).mono fun e w' ⟨r, he, hr, hg⟩ => ⟨?_, hg⟩
  rw [he]
  rcases hr with ⟨_, h⟩ | ⟨i, hi, rfl, hi1, hi2⟩
  · exact absurd (by rw [hnt]; exact h2) (h d (by rw [List.length_drop, hn]; omega))
  · have : i = d := by
      rcases Nat.lt_trichotomy i d with h | h | h
      · exact absurd (by rw [← hnt]; exact hi2) (h1 i h)
      · exact h
      · exact absurd (by rw [hnt]; exact h2) (hi1 d h)
    rw [this]

set_option maxHeartbeats 8000000 in
set_option maxRecDepth 20000 in
theorem path45_any (v : Value) (L : Lt) (uv wv : Value) (x y : List Int) (w : World) (hn : L.n ≤ 9223372036854775807) (hv : IsLt w v L) (hx : IsWd w uv x) (hy : IsWd w wv y) :
    Calls Try.prog 45 #[v, uv, wv] w fun e w' => ∃ u path E, e = .returned (.tuple #[u, .int .i64 E]) ∧ PathSays L x y path E ∧ IsWd w' u path ∧ Grew w w' := by
  have HV := hid hv
  obtain ⟨s, rfl, -⟩ := hv
  obtain ⟨ua, uc, rfl⟩ := isWd_slice hx
  obtain ⟨xa, xc, rfl⟩ := isWd_slice hy
  obtain ⟨W0, hW0, g0, k0, k1, hz⟩ := box2 w (.int .i64 L.n) s 24
  obtain ⟨W1, hW1⟩ : ∃ W1, W0.alloc (.cells #[.slice ua x.length uc, .slice xa y.length xc] 25) = W1 := ⟨_, rfl⟩
  have g1 : Grew W0 W1 := by rw [← hW1]; exact grew_alloc (grew_refl _) _
  have g01 := grew_trans g0 g1
  obtain ⟨m, hm⟩ : ∃ m, x.length = m := ⟨_, rfl⟩
  have HM := hid hm
  obtain ⟨n, hnn⟩ : ∃ n, y.length = n := ⟨_, rfl⟩
  have HNN := hid hnn
  have HXM := hid (show IsWd w (.slice ua m uc) x by rw [← hm]; exact hx)
  have HYM := hid (show IsWd w (.slice xa n xc) y by rw [← hnn]; exact hy)
  obtain ⟨r, hr⟩ : ∃ r, wrong L [x, y] = r := ⟨_, rfl⟩
  have HR := hid hr
  have HG01 := hid g01
  by_cases hr0 : r = 0
  · subst hr0
    obtain ⟨hv1, hw1, hw2⟩ := wrong_two hr
    have hok := newLoom_ok _ L _ [x, y] W1 hn (HV.out.grew g01) (by rw [← hW1]; exact rows_two (Reads.grew hx.ints g0) (Reads.grew hy.ints g0) 25) hr
    have HOK := hid hok
    have HW1 := hid hw1; have HW2 := hid hw2; have HV1 := hid hv1
    rw [hm, hnn] at hW1 ⊢
    obtain ⟨q, hq⟩ : ∃ q, (first (dep L) L.n.toNat x == first (dep L) L.n.toNat y) = q := ⟨_, rfl⟩
    have HQ := hid hq
    clear hr hx hy hm hnn hok hv1 hw1 hw2 hq
    cases q
    · go_enter Try.func45, Try.ntmps45
      go_wp2_with (first
        | (go_at_call 60; (with_reducible refine HOK.out.mono ?_); rintro e w1 ⟨B, N, hN, hN1, hN6, rfl, hB, hL, hg1⟩; have HL := hid hL; have HN := hid hN; have HG1 := hid (grew_trans HG01.out hg1); obtain ⟨hl1, hlw1⟩ := isW_iff hN HW1.out; obtain ⟨hl2, hlw2⟩ := isW_iff hN HW2.out; have HL1 := hid hl1; have HL2 := hid hl2; clear hN hL hg1 hB)
        | (go_at_call 67; (with_reducible refine (first_any (dep L) B N x _ w1 hN6 hlw1 (by omega) HL.out (HXM.out.grew HG1.out)).mono ?_); rintro e w2 ⟨u, rfl, hs2, hg2⟩; have HS2 := hid hs2; have HG2 := hid hg2; clear hs2 hg2)
        | (go_at_call 67; (with_reducible refine (first_any (dep L) B N y _ w2 hN6 hlw2 (by omega) (HL.out.grew HG2.out) (HYM.out.grew (grew_trans HG1.out HG2.out))).mono ?_); rintro e w3 ⟨u3, rfl, hs3, hg3⟩; have HS3 := hid hs3; have HG3 := hid hg3; clear hs3 hg3)
        | (go_at_call 86; (with_reducible refine (equal86_any _ _ (first (dep L) N x) (first (dep L) N y) w3 (IsWd.of_seg (HS2.out.grew HG3.out)).ints (IsWd.of_seg HS3.out).ints).mono ?_); rintro e w4 ⟨rfl, hx⟩; have HG4 := hid hx; have hqq := HQ.out; rw [HN.out, Int.toNat_natCast] at hqq; rw [hqq]; have HQQ := hid hqq; clear hx hqq))
      go_ret2
      refine ⟨_, [], 5, rfl, .inr (.inl ⟨HR.out, ?_, rfl, rfl⟩), wd_nil _, grew_trans HG1.out (grew_trans HG2.out (grew_trans HG3.out HG4.out))⟩
      intro e
      have h := HQ.out
      rw [e, beq_self_eq_true] at h
      cases h
    · obtain ⟨N0, hN0⟩ : ∃ N0 : Nat, L.n = N0 := ⟨L.n.toNat, by have := (valid_iff HV1.out).1.1; omega⟩
      have hal : Wv.Alike (dep L) x y := by
        have h := HQ.out
        rw [hN0, Int.toNat_natCast, beq_iff_eq] at h
        exact (first_iff (dep_refl L) (dep_comm L) (isW_iff hN0 HW1.out).2 (isW_iff hN0 HW2.out).2).1 h
      have HAL := hid hal
      have hmn : m = n := by rw [← HM.out, ← HNN.out]; exact hal.length (dep_refl L)
      have hn10 : n ≤ 10 := by rw [← HNN.out]; exact (isW_iff hN0 HW2.out).1
      subst hmn
      have HT45 := hid (tri_le hn10)
      clear hal hN0 N0
      go_enter Try.func45, Try.ntmps45
      go_wp2_with (first
        | (go_at_call 60; (with_reducible refine HOK.out.mono ?_); rintro e w1 ⟨B, N, hN, hN1, hN6, rfl, hB, hL, hg1⟩; have HL := hid hL; have HN := hid hN; have HG1 := hid (grew_trans HG01.out hg1); obtain ⟨hl1, hlw1⟩ := isW_iff hN HW1.out; obtain ⟨hl2, hlw2⟩ := isW_iff hN HW2.out; have HL1 := hid hl1; have HL2 := hid hl2; have HLW := hid hlw1; clear hN hL hg1 hB)
        | (go_at_call 67; (with_reducible refine (first_any (dep L) B N x _ w1 hN6 hlw1 (by omega) HL.out (HXM.out.grew HG1.out)).mono ?_); rintro e w2 ⟨u, rfl, hs2, hg2⟩; have HS2 := hid hs2; have HG2 := hid hg2; clear hs2 hg2)
        | (go_at_call 67; (with_reducible refine (first_any (dep L) B N y _ w2 hN6 hlw2 (by omega) (HL.out.grew HG2.out) (HYM.out.grew (grew_trans HG1.out HG2.out))).mono ?_); rintro e w3 ⟨u3, rfl, hs3, hg3⟩; have HS3 := hid hs3; have HG3 := hid hg3; clear hs3 hg3 hlw1 hlw2)
        | (go_at_call 86; (with_reducible refine (equal86_any _ _ (first (dep L) N x) (first (dep L) N y) w3 (IsWd.of_seg (HS2.out.grew HG3.out)).ints (IsWd.of_seg HS3.out).ints).mono ?_); rintro e w4 ⟨rfl, hx⟩; have HG4 := hid (grew_trans HG1.out (grew_trans HG2.out (grew_trans HG3.out hx))); have HL4 := hid (HL.out.grew (grew_trans HG2.out (grew_trans HG3.out hx))); have hqq := HQ.out; rw [HN.out, Int.toNat_natCast] at hqq; rw [hqq]; clear hx hqq)
        | (go_at_call 80; (with_reducible refine (clone_ints _ m x w4 HM.out (by omega) (HXM.out.grew HG4.out).ints).mono ?_); rintro e w5 ⟨u5, rfl, hs5, hg5⟩; have HS5 := hid hs5; have HG5 := hid hg5; clear hs5 hg5))
      have HUB := hid (fun k (e : u5.ownBlock = some k) => (HS5.out.own k e).1)
      have HUS := hid (fun k (e : u5.ownBlock = some k) => (HS5.out.own k e).2.1)
      go_loopg [10, 12, 13, 14, 40] m (fun gk out _ _ _ i wr => ∃ (j c : Nat) (cur path : List Int), j ≤ m ∧ i = .int .i64 j ∧ gk = m - j ∧ c ≤ 45 ∧ Hid (path.length = c) ∧ Hid (c + tri (m - j) ≤ tri m) ∧ Hid (runP (dep L) x path = some cur) ∧ Hid (Wv.Alike (dep L) cur y) ∧ Hid (∀ t, t < j → nth cur t = nth y t) ∧ Hid (cur.length = m ∧ ∀ z ∈ cur, 0 ≤ z ∧ z < (N : Int)) ∧ Hid (Seg wr w4.heap.size 3 1 u5 m (cur.map (.int .i64))) ∧ Hid (Seg wr w5.heap.size 3 1 out c (path.map (.int .i64))) ∧ Hid (Below w4.heap.size w4 wr) ∧ Hid (w5.heap.size ≤ wr.heap.size))
      case atStart => exact ⟨0, 0, x, [], by omega, rfl, rfl, by omega, hid rfl, hid (by simp), hid rfl, HAL, hid (fun t ht => by omega), hid ⟨HM.out, HLW.out⟩, HS5, hid (Seg.nil _ _ _ _), HG5, hid (Nat.le_refl _)⟩
      case round =>
        obtain ⟨j, c, cur, path, hj, rfl, hgk, hc45, HPL, HTR, HRP, HAC, HNT, HCU, HSU, HSP, HBL, HSZ⟩ := hrel
        have HGK := hid hgk; clear hgk
        rename World => wr
        have hgw := grew_trans HG4.out HBL.out
        have HGW := hid hgw
        by_cases hlt : j < m
        · obtain ⟨by', yoff, yo, rfl, hyo, hyc⟩ := wd_cell HYM.out j hlt
          have hyl := lt_of_obj hyo
          have hyc1 := (hgw.cell (p := ⟨by', yoff + j, none⟩) hyl).trans hyc
          have hyl1 := Nat.lt_of_lt_of_le hyl hgw.size
          obtain ⟨b, hb⟩ : ∃ b, nth y j = b := ⟨_, rfl⟩
          rw [hb] at hyc1
          obtain ⟨d, p1, p2, p3, p4, p5, p6, p7⟩ := path_step (dep_refl L) (dep_comm L) (k := j) (by rw [HNN.out]; exact hlt) HAC.out HNT.out
          rw [hb] at p2 p3
          rw [HCU.out.1] at p1
          obtain ⟨g, off, cap, obj, rfl, hbg, hgc, hncap, hcapm, -⟩ := HSU.out.at (by omega)
          have hix := index88_at g off cap m j d cur b wr HCU.out.1 (by have h := isInts_any HSU.out; exact h) p1 p2 p3
          have HIX := hid hix
          have HP4 := hid p4; have HP6 := hid p6; have HP7 := hid p7
          have hwr : IntKind.i64.wrap ((j : Int) + (d : Int)) = (j : Int) + (d : Int) := IntWalk.i64_in _ (by omega)
          have hcj : ¬ cap ≤ j := by omega
          clear hyo hyc hgw hix p2 p3 p4 p5 p6 p7 hb
          go_wp2_with (go_at_call 88; (with_reducible refine (HIX.out _).mono ?_); rintro e w6 ⟨rfl, hx⟩; have HX6 := hid hx; clear hx)
          have hcnd := runP_append (D := dep L) path (downP j d) x
          have htri := tri_step (n := m) (j := j) (d := d) p1
          obtain ⟨fin, hfin⟩ : ∃ fin, downM cur j d = fin := ⟨_, rfl⟩
          rw [hfin] at HP4 HP6 HP7
          obtain ⟨T, hT⟩ : ∃ T, tri (m - (j + 1)) = T := ⟨_, rfl⟩
          have HT := hid hT
          have hcdT : c + d + T ≤ tri m := by have := HTR.out; rw [hT] at htri; omega
          have hcd : c + d ≤ 45 := by have := HT45.out; omega
          have HCDT := hid hcdT
          have HFIN := hid hfin
          have hoff : ∀ k, (Value.slice (some (⟨g, off, none⟩ : Addr)) m cap).ownBlock = some k → k = g := fun k e => by simp [Value.ownBlock] at e; exact e.symm
          have hgu := HUS.out g rfl
          have HGL4 := hid (HL4.out.grew HBL.out)
          clear hcnd htri hfin hT hcdT hgc hncap hcapm hyl hyc1 hyl1 hwr hcj
          go_loopg [10, 14] d (fun gk2 out2 kk wr2 => ∃ (q c2 : Nat) (z : Int) (cur2 path2 : List Int), q ≤ d ∧ gk2 = q ∧ kk = .int .i64 z ∧ Hid (z = ((j + q : Nat) : Int)) ∧ c2 ≤ 45 ∧ Hid (c2 + q = c + d) ∧ Hid (path2.length = c2) ∧ Hid (runP (dep L) x path2 = some cur2) ∧ Hid (downM cur2 j q = fin ∧ runP (dep L) cur2 (downP j q) = some fin) ∧ Hid (cur2.length = m ∧ ∀ z ∈ cur2, 0 ≤ z ∧ z < (N : Int)) ∧ Hid (Seg wr2 w4.heap.size 3 1 (.slice (some ⟨g, off, none⟩) m cap) m (cur2.map (.int .i64))) ∧ Hid (Seg wr2 w5.heap.size 3 1 out2 c2 (path2.map (.int .i64))) ∧ Hid (Below w4.heap.size w4 wr2) ∧ Hid (w5.heap.size ≤ wr2.heap.size))
          case atStart => exact ⟨d, c, (j : Int) + (d : Int), cur, path, Nat.le_refl _, rfl, rfl, hid (by omega), hc45, hid rfl, HPL, HRP, hid ⟨HFIN.out, HP4.out⟩, HCU, hid (HSU.out.grew HX6.out), hid (HSP.out.grew HX6.out), hid (HBL.out.trans (HX6.out.mono HBL.out.size)), hid (Nat.le_trans HSZ.out HX6.out.size)⟩
          case round =>
            clear HPL HTR HRP HAC HNT HCU HSU HSP HBL HSZ HX6 HP4 hc45
            obtain ⟨q, c2, z, cur2, path2, hq, hgk2, rfl, HZ, hc2, HC2, HPL, HRP, HDN, HCU, HSU, HSP, HBL, HSZ⟩ := hrel
            rename World => wr2
            have HGK2 := hid hgk2; clear hgk2
            rcases q with _ | q
            · have hz0 : z = (j : Int) := HZ.out
              subst hz0
              go_wp2
              go_roundg (m - (j + 1))
              case measure => have := HGK.out; omega
              case rel =>
                have hf : cur2 = fin := HDN.out.1
                subst hf
                exact ⟨j + 1, c2, cur2, path2, by omega, by go_num, rfl, hc2, HPL, hid (by have h1 := HC2.out; have h2 := HCDT.out; rw [HT.out]; omega), HRP, HP6, HP7, HCU, HSU, HSP, HBL, HSZ⟩
            · have hzz : z = ((j + (q + 1) : Nat) : Int) := HZ.out
              have hz0 : 0 ≤ z := by omega
              have hz10 : z ≤ 100 := by omega
              have hlt2 : (j : Int) < z := by omega
              have hzk : z - 1 = ((j + q : Nat) : Int) := by omega
              obtain ⟨hcan, hdn⟩ := runP_down HDN.out.2
              have hex := exchange81_keeps (D := dep L) B N w4.heap.size (.slice (some ⟨g, off, none⟩) m cap) cur2 m (z - 1) wr2 HCU.out.1 hN6 (by omega) HCU.out.2 (HL4.out.grew HBL.out) HBL.out.size HSU.out
              rw [hzk, hcan, ← hzk] at hex
              have hexm : exM (dep L) cur2 (z - 1) = swapM cur2 (j + q) := by rw [hzk, exM_yes hcan, Int.toNat_natCast]
              rw [hexm] at hex
              have HEX := hid hex; have HCAN := hid hcan; have HZK := hid hzk; have HDN2 := hid hdn
              obtain ⟨vs, hvs⟩ : ∃ vs, path2.map (Value.int .i64) = vs := ⟨_, rfl⟩
              have HVS := hid hvs
              rw [hvs] at HSP
              clear hvs hzz hex hexm hzk hcan hdn
              go_wp2_with (first
                | (go_at_call 81; (with_reducible refine HEX.out.mono ?_); rintro e w7 ⟨rfl, hs7, hk7⟩; have HS7 := hid hs7; have HK7 := hid hk7; have hseg := HSP.out.keeps hk7 (fun k o e _ h => by have h2 := hoff k h; have := (HSP.out.own k e).1; omega); have hsz7 := hk7.size; have hz57 := HSZ.out; clear hs7 hk7)
                | (at_builtin; go_loud (refine wpList_append_one rfl _ _ 25 rfl w5.heap.size 3 Try.underlying25 Try.info3 rfl (by decide) _ c2 _ rfl (hseg.alloc _) _ _ _ rfl (one_new _ _ _) rfl (by omega) ?_ ?_); (simp only [World.size_alloc]; omega); intro v9 w9 hown9 hgrow9 hblk9; have HGR9 := hid hgrow9; clear hgrow9 hblk9))
              have hk9 := ((Keeps.refl (fun k _ => u10.ownBlock = some k) w7).alloc (.cells #[.int .i64 (z - 1)] 3)).trans (keeps_of_grown HGR9.out)
              have HK9 := hid hk9
              have HSG9 := hid hseg
              have hb7 : Below w4.heap.size wr2 w7 := HK7.out.below HBL.out.size (fun k o e => by rw [hoff k e]; exact hbg)
              have hb9 : Below w4.heap.size w7 w9 := HK9.out.below (Nat.le_trans HBL.out.size HK7.out.size) (fun k o e => Nat.le_trans HG5.out.size ((HSG9.out.own k e).1))
              have HB9 := hid ((HBL.out.trans hb7).trans hb9)
              clear hk9 hseg hb7 hb9
              go_roundg q
              case measure => have := HGK2.out; omega
              case rel =>
                refine ⟨q, c2 + 1, z - 1, swapM cur2 (j + q), path2 ++ [z - 1], by omega, rfl, rfl, HZK, by have := HC2.out; omega, hid (by have := HC2.out; omega), hid (by rw [List.length_append, HPL.out]; rfl), hid (by rw [HZK.out]; exact runP_snoc HRP.out HCAN.out), hid ⟨HDN.out.1, HDN2.out⟩, hid ⟨(swapM_length _ _).trans HCU.out.1, fun t ht => HCU.out.2 t (mem_swapM (by rw [HCU.out.1]; omega) t ht)⟩, hid (HS7.out.keeps HK9.out (fun k o e _ h => by have h2 := hoff k e; have := (HSG9.out.own k h).1; omega)), hid (by rw [List.map_append, HVS.out]; exact hown9), HB9, hid (Nat.le_trans HSZ.out (Nat.le_trans HK7.out.size HK9.out.size))⟩
        · obtain rfl : j = m := by omega
          have hcy : cur = y := by
            refine ext_nth (by rw [HCU.out.1, HNN.out]) (fun i hi => HNT.out i (by rw [HCU.out.1] at hi; exact hi))
          subst hcy
          go_wp2
          go_ret2
          exact ⟨_, path, 0, rfl, .inr (.inr ⟨HR.out, beq_iff_eq.1 HQ.out, rfl, by rw [HPL.out]; exact hc45, HRP.out⟩), wd_seg HSP.out HPL.out, HGW.out⟩
  · have hbad := newLoom_bad _ L _ [x, y] W1 hn (HV.out.grew g01) (by rw [← hW1]; exact rows_two (Reads.grew hx.ints g0) (Reads.grew hy.ints g0) 25) (by rw [hr]; exact hr0)
    rw [hr] at hbad
    have hne : (r != 0) = true := by simpa using hr0
    have HB := hid hbad; have HR0 := hid hr0
    rw [hm, hnn] at hW1 ⊢
    clear hr hx hy hm hnn hbad hr0
    go_enter Try.func45, Try.ntmps45
    go_wp2_with (go_at_call 60; (with_reducible refine HB.out.mono ?_); rintro e w1 ⟨rfl, hg1⟩; have HG1 := hid (grew_trans HG01.out hg1); clear hg1)
    go_ret2
    exact ⟨_, [], r, rfl, .inl ⟨by rw [HR.out]; exact HR0.out, rfl, HR.out.symm⟩, wd_nil _, HG1.out⟩

end Go.Proofs.Ytddnpooffcjhnaa
