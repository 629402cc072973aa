/- Plain: what Common and Both answer. What Common answers, of the program and of the reference. Walk: what Both asks of two letters. -/
import Derived.Test.YtddnpooffcjhnaaWvJ
import Derived.Test.YtddnpooffcjhnaaWvM
import Derived.Test.YtddnpooffcjhnaaWvC
namespace Go.Lin.Wv

def commonM (L : Lt) (x y : List Int) : List Int × Int := if wrong L [x, y] = 0 then (first (dep L) L.n.toNat (common (dep L) L.n.toNat x y).1, 0) else ([], wrong L [x, y])
/-- Some letter of p depends on one of q. -/
def clash (D : Int → Int → Bool) (p q : List Int) : Bool := p.any fun a => q.any (D a)
def bothM (L : Lt) (x y : List Int) : List Int × Int :=
  if wrong L [x, y] = 0 then (if clash (dep L) (common (dep L) L.n.toNat x y).2.1 (common (dep L) L.n.toNat x y).2.2 then ([], 5) else Go.Proofs.Ytddnpooffcjhnaa.formedM (dep L) L.n.toNat ((common (dep L) L.n.toNat x y).1 ++ (common (dep L) L.n.toNat x y).2.1 ++ (common (dep L) L.n.toNat x y).2.2)) else ([], wrong L [x, y])

theorem common_alike (L : Lt) (N : Nat) (x y : List Int) : Alike (dep L) x ((common (dep L) N x y).1 ++ (common (dep L) N x y).2.1) ∧ Alike (dep L) y ((common (dep L) N x y).1 ++ (common (dep L) N x y).2.2) := meet_alike (dep_comm L) N _ x y

theorem good_of_alike {L : Lt} {N : Nat} {x u v : List Int} (h : GoodW N x) (ha : Alike (dep L) x (u ++ v)) : GoodW N u ∧ GoodW N v := by
  have hp := ha.perm (dep_refl L)
  have hl := hp.length_eq
  rw [List.length_append] at hl
  have := h.len
  exact ⟨⟨by omega, fun z hz => h.ok z (hp.mem_iff.2 (List.mem_append_left _ hz))⟩, ⟨by omega, fun z hz => h.ok z (hp.mem_iff.2 (List.mem_append_right _ hz))⟩⟩

theorem common_good {L : Lt} {N : Nat} {x y : List Int} (hx : GoodW N x) (hy : GoodW N y) : GoodW N (common (dep L) N x y).1 ∧ GoodW N (common (dep L) N x y).2.1 ∧ GoodW N (common (dep L) N x y).2.2 :=
  let ⟨h1, h2⟩ := common_alike L N x y
  ⟨(good_of_alike hx h1).1, (good_of_alike hx h1).2, (good_of_alike hy h2).2⟩

end Go.Lin.Wv
namespace Go.Proofs.Ytddnpooffcjhnaa
open Go.RowKit Go.Lin Go.Lin.Wv

set_option maxHeartbeats 4000000 in
set_option maxRecDepth 20000 in
theorem common21_any (v : Value) (L : Lt) (uv wv : Value) (x y : List Int) (w : World) (hn : L.n ≤ 9223372036854775807) (hv : IsLt w v L) (hx : IsWd w uv x) (hy : IsWd w wv y) :
    Calls Try.prog 21 #[v, uv, wv] w fun e w' => Gives e w w' (commonM L x y) := by
  have HV := hid hv
  obtain ⟨s, rfl, -⟩ := hv
  obtain ⟨ua, uc, rfl⟩ := isWd_slice hx
  obtain ⟨xa, xc, rfl⟩ := isWd_slice hy
  obtain ⟨W0, hW0, g0, k0, k1, hz⟩ := box2 w (.int .i64 L.n) s 24
  obtain ⟨W1, hW1⟩ : ∃ W1, W0.alloc (.cells #[.slice ua x.length uc, .slice xa y.length xc] 25) = W1 := ⟨_, rfl⟩
  have g1 : Grew W0 W1 := by rw [← hW1]; exact grew_alloc (grew_refl _) _
  have g01 := grew_trans g0 g1
  obtain ⟨m, hm⟩ : ∃ m, x.length = m := ⟨_, rfl⟩
  have HM := hid hm
  obtain ⟨n, hnn⟩ : ∃ n, y.length = n := ⟨_, rfl⟩
  have HNN := hid hnn
  have HXM := hid (show IsWd w (.slice ua m uc) x by rw [← hm]; exact hx)
  have HYM := hid (show IsWd w (.slice xa n xc) y by rw [← hnn]; exact hy)
  obtain ⟨r, hr⟩ : ∃ r, wrong L [x, y] = r := ⟨_, rfl⟩
  have HR := hid hr
  have HX := hid hx; have HY := hid hy
  have HG01 := hid g01
  by_cases hr0 : r = 0
  · subst hr0
    obtain ⟨hv1, hw1, hw2⟩ := wrong_two hr
    have hok := newLoom_ok _ L _ [x, y] W1 hn (HV.out.grew g01) (by rw [← hW1]; exact rows_two (Reads.grew hx.ints g0) (Reads.grew hy.ints g0) 25) hr
    have HOK := hid hok
    have HW1 := hid hw1; have HW2 := hid hw2
    rw [hm, hnn] at hW1 ⊢
    clear hr hx hy hm hnn hok hv1 hw1 hw2
    go_enter Try.func21, Try.ntmps21
    go_wp2_with (first
      | (go_at_call 60; (with_reducible refine HOK.out.mono ?_); rintro e w1 ⟨B, N, hN, hN1, hN6, rfl, hB, hL, hg1⟩; have HL := hid hL; have HN := hid hN; have HG1 := hid (grew_trans HG01.out hg1); obtain ⟨hl1, hlw1⟩ := isW_iff hN HW1.out; obtain ⟨hl2, hlw2⟩ := isW_iff hN HW2.out; have HL1 := hid hl1; have HL2 := hid hl2; clear hN hL hg1 hB)
      | (go_at_call 66; go_loud (refine (show Calls _ _ _ _ _ from common_any (dep L) B N x y _ _ w1 hN6 hlw1 hlw2 (by omega) (by omega) HL.out (HXM.out.grew HG1.out) (HYM.out.grew HG1.out)).mono ?_; rintro e w2 ⟨u, p, q, rfl, hu, hp, hq, hg2⟩; have HU := hid hu; have HG2 := hid hg2; have HCG := hid (common_good (L := L) ⟨hl1, hlw1⟩ ⟨hl2, hlw2⟩).1; clear hu hp hq hg2))
      | (go_at_call 67; (with_reducible refine (first_any (dep L) B N _ _ w2 hN6 HCG.out.ok (by have := HCG.out.len; omega) (HL.out.grew HG2.out) HU.out).mono ?_); rintro e w3 ⟨u3, rfl, hs3, hg3⟩; have HS3 := hid hs3; have HG3 := hid hg3; clear hs3 hg3))
    go_ret2
    refine ⟨u3, ?_, ?_, grew_trans HG1.out (grew_trans HG2.out HG3.out)⟩
    · rw [show (commonM L x y).2 = 0 by unfold commonM; rw [HR.out, if_pos rfl]]; rfl
    · rw [show (commonM L x y).1 = first (dep L) N (common (dep L) N x y).1 by unfold commonM; rw [HR.out, if_pos rfl, HN.out, Int.toNat_natCast]]; exact IsWd.of_seg HS3.out
  · have hbad := newLoom_bad _ L _ [x, y] W1 hn (HV.out.grew g01) (by rw [← hW1]; exact rows_two (Reads.grew hx.ints g0) (Reads.grew hy.ints g0) 25) (by rw [hr]; exact hr0)
    rw [hr] at hbad
    have hne : (r != 0) = true := by simpa using hr0
    have HB := hid hbad; have HR0 := hid hr0
    rw [hm, hnn] at hW1 ⊢
    clear hr hx hy hm hnn hbad hr0
    go_enter Try.func21, Try.ntmps21
    go_wp2_with (go_at_call 60; (with_reducible refine HB.out.mono ?_); rintro e w1 ⟨rfl, hg1⟩; have HG1 := hid (grew_trans HG01.out hg1); clear hg1)
    go_ret2
    exact ⟨_, by rw [show (commonM L x y).2 = r by unfold commonM; rw [HR.out, if_neg HR0.out]]; rfl, by rw [show (commonM L x y).1 = [] by unfold commonM; rw [HR.out, if_neg HR0.out]]; exact wd_nil _, HG1.out⟩

set_option maxHeartbeats 4000000 in
set_option maxRecDepth 20000 in
theorem rCommon22_any (v : Value) (L : Lt) (uv wv : Value) (x y : List Int) (w : World) (hv : IsLt w v L) (hx : IsWd w uv x) (hy : IsWd w wv y) :
    Calls Try.prog 22 #[v, uv, wv] w fun e w' => Gives e w w' (commonM L x y) := by
  have HV := hid hv
  obtain ⟨s, hveq, -⟩ := id hv
  subst hveq
  obtain ⟨ua, uc, rfl⟩ := isWd_slice hx
  obtain ⟨xa, xc, rfl⟩ := isWd_slice hy
  obtain ⟨W0, hW0, g0, k0, k1, hz⟩ := box2 w (.int .i64 L.n) s 24
  have hask := asked_any _ L _ _ x y W0 (hv.grew g0) (hx.grew g0).ints (hy.grew g0).ints
  obtain ⟨m, hm⟩ : ∃ m, x.length = m := ⟨_, rfl⟩
  have HM := hid hm
  obtain ⟨n, hnn⟩ : ∃ n, y.length = n := ⟨_, rfl⟩
  have HNN := hid hnn
  have HXM := hid (show IsWd w (.slice ua m uc) x by rw [← hm]; exact hx)
  have HYM := hid (show IsWd w (.slice xa n xc) y by rw [← hnn]; exact hy)
  obtain ⟨r, hr⟩ : ∃ r, wrong L [x, y] = r := ⟨_, rfl⟩
  rw [hr] at hask
  have HR := hid hr
  have HX := hid hx; have HY := hid hy
  rw [hm, hnn] at hask
  have HASK := hid hask
  rw [hm, hnn]
  have hg := grew_refl W0
  clear hask hr hx hy hm hnn hv
  by_cases hr0 : r = 0
  · subst hr0
    obtain ⟨hv1, hw1, hw2⟩ := wrong_two HR.out
    obtain ⟨⟨h1, h6⟩, -⟩ := valid_iff hv1
    obtain ⟨N, hN⟩ : ∃ N : Nat, L.n = N := ⟨L.n.toNat, by omega⟩
    have hN6 : N ≤ 6 := by omega
    obtain ⟨hl1, hlw1⟩ := isW_iff hN hw1; obtain ⟨hl2, hlw2⟩ := isW_iff hN hw2
    have HN := hid hN; have HL1 := hid hl1; have HL2 := hid hl2; have HVN := hid (show IsLt w (.agg #[.int .i64 (N : Int), s]) L by rw [← hN]; exact HV.out)
    rw [hN] at hW0 k0 HASK ⊢
    clear hN hv1 hw1 hw2 h1 h6
    go_enter Try.func22, Try.ntmps22
    go_wp2_with (first
      | (go_at_call 64; (with_reducible refine HASK.out.mono ?_); rintro e w1 ⟨rfl, hx⟩; replace hg := grew_trans hg hx; have hc := (bcell hg).1; have HG1 := hid (grew_trans g0 hg); clear hx)
      | (go_at_call 68; go_loud (refine (show Calls _ _ _ _ _ from rCommon_any _ L N _ _ x y w1 HN.out hN6 hlw1 (by have := HL1.out; omega) (by have := HL2.out; omega) (HVN.out.grew HG1.out) (HXM.out.grew HG1.out) (HYM.out.grew HG1.out)).mono ?_; rintro e w2 ⟨u, p, q, rfl, hu, hp, hq, hg2⟩; replace hg := grew_trans hg hg2; replace hc := (bcell hg).1; have HU := hid hu; have HG2 := hid hg2; have HCG := hid (common_good (L := L) ⟨HL1.out, hlw1⟩ ⟨HL2.out, hlw2⟩).1; clear hu hp hq hg2))
      | (go_at_call 69; (with_reducible refine (rFirst_any _ L _ _ N w2 HN.out hN6 HCG.out.ok (by have := HCG.out.len; omega) (HVN.out.grew (grew_trans HG1.out HG2.out)) (IsWd.of_seg HU.out)).mono ?_); rintro e w3 ⟨u3, rfl, hs3, hg3⟩; have HS3 := hid hs3; have HG3 := hid hg3; clear hs3 hg3))
    go_ret2
    refine ⟨u3, ?_, ?_, grew_trans HG1.out (grew_trans HG2.out HG3.out)⟩
    · rw [show (commonM L x y).2 = 0 by unfold commonM; rw [HR.out, if_pos rfl]]; rfl
    · rw [show (commonM L x y).1 = first (dep L) N (common (dep L) N x y).1 by unfold commonM; rw [HR.out, if_pos rfl, HN.out, Int.toNat_natCast]]
      have h := HS3.out
      rw [← first_len (L := L) HCG.out.ok] at h
      exact IsWd.of_seg h
  · have hne : (r != 0) = true := by simpa using hr0
    have HR0 := hid hr0
    clear hr0
    go_enter Try.func22, Try.ntmps22
    go_wp2_with (go_at_call 64; (with_reducible refine HASK.out.mono ?_); rintro e w1 ⟨rfl, hx⟩; have HG1 := hid (grew_trans g0 hx); clear hx)
    go_ret2
    exact ⟨_, by rw [show (commonM L x y).2 = r by unfold commonM; rw [HR.out, if_neg HR0.out]]; rfl, by rw [show (commonM L x y).1 = [] by unfold commonM; rw [HR.out, if_neg HR0.out]]; exact wd_nil _, HG1.out⟩

set_option maxHeartbeats 4000000 in
theorem both1_any {D : Int → Int → Bool} (B N c8 c14 a b : Nat) (w : World) (hN : N ≤ 6) (ha : a < N) (hb : b < N) (hL : Loom w B D N) (h8 : w.cell? ⟨c8, 0, none⟩ = some (.pointer (some ⟨B, 0, none⟩))) (h14 : w.cell? ⟨c14, 0, none⟩ = some (.int .i64 (a : Int))) :
    Calls Try.prog 71 #[.int .i64 (b : Int), .pointer (some ⟨c8, 0, none⟩), .pointer (some ⟨c14, 0, none⟩)] w fun e w' => e = .returned (.bool (D a b)) ∧ Grew w w' := by
  have hdc := hL.cs a b ha hb
  have hBl := hL.lt
  have ia0 : (0 : Int) ≤ (a : Int) := by omega
  have ia6 : (a : Int) < 6 := by omega
  have ib0 : (0 : Int) ≤ (b : Int) := by omega
  have ib6 : (b : Int) < 6 := by omega
  have ha6 : a < 6 := by omega
  have hb6 : b < 6 := by omega
  clear hL
  go_enter Try.func71, Try.ntmps71
  go_wp2
  go_region_law (fail)
  all_goals (
    go_wp2
    go_ret
    exact ⟨rfl, grew_drew (grew_refl w)⟩)

theorem both1_says {D : Int → Int → Bool} (B N c8 c14 a : Nat) (b : Int) (w : World) (hN : N ≤ 6) (ha : a < N) (hb : 0 ≤ b ∧ b < (N : Int)) (hL : Loom w B D N) (h8 : w.cell? ⟨c8, 0, none⟩ = some (.pointer (some ⟨B, 0, none⟩))) (h14 : w.cell? ⟨c14, 0, none⟩ = some (.int .i64 (a : Int))) :
    Says 71 #[.pointer (some ⟨c8, 0, none⟩), .pointer (some ⟨c14, 0, none⟩)] (.int .i64 b) (D a b) w := by
  obtain ⟨b', rfl⟩ : ∃ b' : Nat, b = b' := ⟨b.toNat, by omega⟩
  intro w' hw
  exact both1_any B N c8 c14 a b' w' hN ha (by omega) (hL.grew hw) ((hw.cell (p := ⟨c8, 0, none⟩) (World.block_lt_of_cell? w _ h8)).trans h8) ((hw.cell (p := ⟨c14, 0, none⟩) (World.block_lt_of_cell? w _ h14)).trans h14)

theorem entered71 : Entered 71 := fun _ _ => by kernel_rfl

end Go.Proofs.Ytddnpooffcjhnaa
