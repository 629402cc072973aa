/- What exported functions answer: Joined, Begins, Rest, First, of the program and of the reference. -/
import Derived.Test.YtddnpooffcjhnaaWvRestP
namespace Go.Lin.Wv

def joinedM (L : Lt) (x y : List Int) : List Int × Int := if wrong L [x, y] = 0 then Go.Proofs.Ytddnpooffcjhnaa.formedM (dep L) L.n.toNat (x ++ y) else ([], wrong L [x, y])
def beginsM (L : Lt) (x y : List Int) : Bool × Int := if wrong L [x, y] = 0 then ((rest (dep L) x y).isSome, 0) else (false, wrong L [x, y])
def restO (L : Lt) : Option (List Int) → List Int × Int
  | some l => (first (dep L) L.n.toNat l, 0)
  | none => ([], 5)
def restM (L : Lt) (x y : List Int) : List Int × Int := if wrong L [x, y] = 0 then restO L (rest (dep L) x y) else ([], wrong L [x, y])
def firstM (L : Lt) (x : List Int) : List Int × Int := if wrong L [x] = 0 then (first (dep L) L.n.toNat x, 0) else ([], wrong L [x])

theorem rest_sub {D : Int → Int → Bool} : ∀ {u w v : List Int}, rest D u w = some v → ∀ z ∈ v, z ∈ w
  | [], w, v, h, z, hz => by simp only [rest, Option.some.injEq] at h; subst h; exact hz
  | a :: u, w, v, h, z, hz => by
    unfold rest at h
    split at h
    · cases h
    · exact List.mem_of_mem_eraseIdx (rest_sub h z hz)

theorem rest_length {D : Int → Int → Bool} : ∀ {u w v : List Int}, rest D u w = some v → v.length ≤ w.length
  | [], w, v, h => by simp only [rest, Option.some.injEq] at h; subst h; exact Nat.le_refl _
  | a :: u, w, v, h => by
    unfold rest at h
    split at h
    · cases h
    · have := rest_length h
      rw [List.length_eraseIdx] at this
      split at this <;> omega

end Go.Lin.Wv
namespace Go.Proofs.Ytddnpooffcjhnaa
open Go.RowKit Go.Lin Go.Lin.Wv

theorem lens_two {x y : List Int} (hx : x.length ≤ 100) (hy : y.length ≤ 100) : ∀ i, i < [x, y].length → (nthL [x, y] i).length ≤ 100 := fun j hj => by
  have hj' : j = 0 ∨ j = 1 := by simp at hj; omega
  rcases hj' with rfl | rfl
  · exact hx
  · exact hy

theorem restP_any {D : Int → Int → Bool} (B N : Nat) (uv wv : Value) (p x : List Int) (w : World) (hN : N ≤ 6) (hlen : x.length ≤ 100) (hpw : ∀ z ∈ p, 0 ≤ z ∧ z < (N : Int)) (hxw : ∀ z ∈ x, 0 ≤ z ∧ z < (N : Int)) (hL : Loom w B D N) (hp : IsInts Any w uv p) (hx : IsWd w wv x) :
    Calls Try.prog 76 #[.pointer (some ⟨B, 0, none⟩), uv, wv] w fun e w' => ∃ u, e = .returned (.tuple #[u, .bool (rest D p x).isSome]) ∧ IsWd w' u ((rest D p x).getD []) ∧ Grew w w' :=
  (rest_any B N uv wv p x w hN hlen hpw hxw hL hp hx).mono fun e w' h => by
    rcases h with ⟨y, h1, u, rfl, h2, h3⟩ | ⟨h1, rfl, h3⟩
    · rw [h1]; exact ⟨u, rfl, h2, h3⟩
    · rw [h1]; exact ⟨_, rfl, wd_nil _, h3⟩

theorem restR_any (v : Value) (L : Lt) (uv wv : Value) (p x : List Int) (w : World) (hlen : x.length ≤ 1000) (hv : IsLt w v L) (hp : IsInts Any w uv p) (hx : IsWd w wv x) :
    Calls Try.prog 77 #[v, uv, wv] w fun e w' => ∃ u, e = .returned (.tuple #[u, .bool (rest (dep L) p x).isSome]) ∧ IsWd w' u ((rest (dep L) p x).getD []) ∧ Grew w w' :=
  (rRest_any v L uv wv p x w hlen hv hp hx).mono fun e w' h => by
    rcases h with ⟨y, h1, u, rfl, h2, h3⟩ | ⟨h1, rfl, h3⟩
    · rw [h1]; exact ⟨u, rfl, IsWd.of_seg h2, h3⟩
    · rw [h1]; exact ⟨_, rfl, wd_nil _, h3⟩

theorem wd_first {L : Lt} {N : Nat} {p y l : List Int} {w' : World} {b : Nat} {u : Value} (hy : ∀ z ∈ y, 0 ≤ z ∧ z < (N : Int)) (hq : rest (dep L) p y = some l) (h : Seg w' b 3 1 u l.length ((first (dep L) N l).map (.int .i64))) : IsWd w' u (first (dep L) N l) := by
  have e : l.length = (first (dep L) N l).length := (alike_first (dep_comm L) (fun z hz => hy z (rest_sub hq z hz))).length (dep_refl L)
  rw [e] at h
  exact IsWd.of_seg h

theorem letters_append {N : Nat} {x y : List Int} (hx : ∀ z ∈ x, 0 ≤ z ∧ z < (N : Int)) (hy : ∀ z ∈ y, 0 ≤ z ∧ z < (N : Int)) : ∀ z ∈ x ++ y, 0 ≤ z ∧ z < (N : Int) := fun z hz => (List.mem_append.1 hz).elim (hx z) (hy z)

set_option maxHeartbeats 4000000 in
set_option maxRecDepth 20000 in
theorem first33_any (v : Value) (L : Lt) (uv : Value) (x : List Int) (w : World) (hn : L.n ≤ 9223372036854775807) (hv : IsLt w v L) (hx : IsWd w uv x) :
    Calls Try.prog 33 #[v, uv] w fun e w' => Gives e w w' (firstM L x) := by
  have HV := hid hv
  obtain ⟨s, rfl, -⟩ := hv
  obtain ⟨ua, uc, rfl⟩ := isWd_slice hx
  obtain ⟨W0, hW0, g0, k0, k1, hz⟩ := box2 w (.int .i64 L.n) s 24
  obtain ⟨W1, hW1⟩ : ∃ W1, W0.alloc (.cells #[.slice ua x.length uc] 25) = W1 := ⟨_, rfl⟩
  have g1 : Grew W0 W1 := by rw [← hW1]; exact grew_alloc (grew_refl _) _
  have g01 := grew_trans g0 g1
  obtain ⟨m, hm⟩ : ∃ m, x.length = m := ⟨_, rfl⟩
  have HM := hid hm
  have HXM := hid (show IsWd w (.slice ua m uc) x by rw [← hm]; exact hx)
  
  obtain ⟨r, hr⟩ : ∃ r, wrong L [x] = r := ⟨_, rfl⟩
  have HR := hid hr
  have HX := hid hx
  have HG01 := hid g01
  by_cases hr0 : r = 0
  · subst hr0
    obtain ⟨hv1, hw1⟩ := wrong_one hr
    have hok := newLoom_ok _ L _ [x] W1 hn (HV.out.grew g01) (by rw [← hW1]; exact rows_one (Reads.grew hx.ints g0) 25) hr
    have HOK := hid hok
    have HW1 := hid hw1
    rw [hm] at hW1 ⊢
    clear hr hx hm hok hv1 hw1
    go_enter Try.func33, Try.ntmps33
    go_wp2_with (first
      | (go_at_call 60; (with_reducible refine HOK.out.mono ?_); rintro e w1 ⟨B, N, hN, hN1, hN6, rfl, hB, hL, hg1⟩; have HL := hid hL; have HN := hid hN; have HG1 := hid (grew_trans HG01.out hg1); obtain ⟨hl1, hlw1⟩ := isW_iff hN HW1.out; have HL1 := hid hl1; clear hN hL hg1 hB)
      | (go_at_call 67; (with_reducible refine (first_any (dep L) B N x _ w1 hN6 hlw1 (by omega) HL.out (HXM.out.grew HG1.out)).mono ?_); rintro e w2 ⟨u, rfl, hs2, hg2⟩; have HS2 := hid hs2; have HG2 := hid hg2; clear hs2 hg2))
    go_ret2
    refine ⟨u, ?_, ?_, grew_trans HG1.out HG2.out⟩
    · rw [show (firstM L x).2 = 0 by unfold firstM; rw [HR.out, if_pos rfl]]; rfl
    · rw [show (firstM L x).1 = first (dep L) N x by unfold firstM; rw [HR.out, if_pos rfl, HN.out, Int.toNat_natCast]]; exact IsWd.of_seg HS2.out
  · have hbad := newLoom_bad _ L _ [x] W1 hn (HV.out.grew g01) (by rw [← hW1]; exact rows_one (Reads.grew hx.ints g0) 25) (by rw [hr]; exact hr0)
    rw [hr] at hbad
    have hne : (r != 0) = true := by simpa using hr0
    have HB := hid hbad; have HR0 := hid hr0
    rw [hm] at hW1 ⊢
    clear hr hx hm hbad hr0
    go_enter Try.func33, Try.ntmps33
    go_wp2_with (go_at_call 60; (with_reducible refine HB.out.mono ?_); rintro e w1 ⟨rfl, hg1⟩; have HG1 := hid (grew_trans HG01.out hg1); clear hg1)
    go_ret2
    exact ⟨_, by rw [show (firstM L x).2 = r by unfold firstM; rw [HR.out, if_neg HR0.out]]; rfl, by rw [show (firstM L x).1 = [] by unfold firstM; rw [HR.out, if_neg HR0.out]]; exact wd_nil _, HG1.out⟩

set_option maxHeartbeats 4000000 in
set_option maxRecDepth 20000 in
theorem joined26_any (v : Value) (L : Lt) (uv wv : Value) (x y : List Int) (w : World) (hn : L.n ≤ 9223372036854775807) (hv : IsLt w v L) (hx : IsWd w uv x) (hy : IsWd w wv y) :
    Calls Try.prog 26 #[v, uv, wv] w fun e w' => Gives e w w' (joinedM L x y) := by
  have HV := hid hv
  obtain ⟨s, rfl, -⟩ := hv
  obtain ⟨ua, uc, rfl⟩ := isWd_slice hx
  obtain ⟨xa, xc, rfl⟩ := isWd_slice hy
  obtain ⟨W0, hW0, g0, k0, k1, hz⟩ := box2 w (.int .i64 L.n) s 24
  obtain ⟨W1, hW1⟩ : ∃ W1, W0.alloc (.cells #[.slice ua x.length uc, .slice xa y.length xc] 25) = W1 := ⟨_, rfl⟩
  have g1 : Grew W0 W1 := by rw [← hW1]; exact grew_alloc (grew_refl _) _
  have g01 := grew_trans g0 g1
  obtain ⟨m, hm⟩ : ∃ m, x.length = m := ⟨_, rfl⟩
  have HM := hid hm
  obtain ⟨n, hnn⟩ : ∃ n, y.length = n := ⟨_, rfl⟩
  have HNN := hid hnn
  have HXM := hid (show IsWd w (.slice ua m uc) x by rw [← hm]; exact hx)
  have HYM := hid (show IsWd w (.slice xa n xc) y by rw [← hnn]; exact hy)
  obtain ⟨r, hr⟩ : ∃ r, wrong L [x, y] = r := ⟨_, rfl⟩
  have HR := hid hr
  have HX := hid hx; have HY := hid hy
  have HG01 := hid g01
  by_cases hr0 : r = 0
  · subst hr0
    obtain ⟨hv1, hw1, hw2⟩ := wrong_two hr
    have hok := newLoom_ok _ L _ [x, y] W1 hn (HV.out.grew g01) (by rw [← hW1]; exact rows_two (Reads.grew hx.ints g0) (Reads.grew hy.ints g0) 25) hr
    have HOK := hid hok
    have HW1 := hid hw1; have HW2 := hid hw2
    rw [hm, hnn] at hW1 ⊢
    clear hr hx hy hm hnn hok hv1 hw1 hw2
    go_enter Try.func26, Try.ntmps26
    go_wp2_with (first
      | (go_at_call 60; (with_reducible refine HOK.out.mono ?_); rintro e w1 ⟨B, N, hN, hN1, hN6, rfl, hB, hL, hg1⟩; have HL := hid hL; have HN := hid hN; have HG1 := hid (grew_trans HG01.out hg1); obtain ⟨hl1, hlw1⟩ := isW_iff hN HW1.out; obtain ⟨hl2, hlw2⟩ := isW_iff hN HW2.out; have HL1 := hid hl1; have HL2 := hid hl2; clear hN hL hg1 hB)
      | (go_at_call 73; go_loud (refine (show Calls _ _ _ _ _ from concat_any _ [x, y] _ (rows_two (HXM.out.grew HG1.out).ints (HYM.out.grew HG1.out).ints 25) (by simp) (lens_two (by have := HL1.out; omega) (by have := HL2.out; omega))).mono ?_; rintro e w2 ⟨cv, rfl, hs2, hg2⟩; have hfx : [x, y].flatten = x ++ y := (by simp); rw [hfx] at hs2; have HS2 := hid hs2; have HG2 := hid (grew_trans (grew_alloc (grew_refl w1) _) hg2); have HF2 := hid (formed_any (D := dep L) B N cv (x ++ y) w2 hN6 (letters_append hlw1 hlw2) (HL.out.grew HG2.out) (IsWd.of_seg hs2)); clear hs2 hg2 hfx))
      | (go_at_call 72; (with_reducible refine HF2.out.mono ?_); rintro e w3 ⟨u, rfl, hu, hg3⟩; have HU := hid hu; have HG3 := hid hg3; obtain ⟨_, _, rfl⟩ := isWd_slice hu; clear hu hg3))
    go_ret2
    have hj : joinedM L x y = formedM (dep L) N (x ++ y) := by unfold joinedM; rw [HR.out, if_pos rfl, HN.out, Int.toNat_natCast]
    refine ⟨_, ?_, by rw [hj]; exact HU.out, grew_trans HG1.out (grew_trans HG2.out HG3.out)⟩
    rw [hj]; rfl
  · have hbad := newLoom_bad _ L _ [x, y] W1 hn (HV.out.grew g01) (by rw [← hW1]; exact rows_two (Reads.grew hx.ints g0) (Reads.grew hy.ints g0) 25) (by rw [hr]; exact hr0)
    rw [hr] at hbad
    have hne : (r != 0) = true := by simpa using hr0
    have HB := hid hbad; have HR0 := hid hr0
    rw [hm, hnn] at hW1 ⊢
    clear hr hx hy hm hnn hbad hr0
    go_enter Try.func26, Try.ntmps26
    go_wp2_with (go_at_call 60; (with_reducible refine HB.out.mono ?_); rintro e w1 ⟨rfl, hg1⟩; have HG1 := hid (grew_trans HG01.out hg1); clear hg1)
    go_ret2
    exact ⟨_, by rw [show (joinedM L x y).2 = r by unfold joinedM; rw [HR.out, if_neg HR0.out]]; rfl, by rw [show (joinedM L x y).1 = [] by unfold joinedM; rw [HR.out, if_neg HR0.out]]; exact wd_nil _, HG1.out⟩

set_option maxHeartbeats 4000000 in
set_option maxRecDepth 20000 in
theorem begins28_any (v : Value) (L : Lt) (uv wv : Value) (x y : List Int) (w : World) (hn : L.n ≤ 9223372036854775807) (hv : IsLt w v L) (hx : IsWd w uv x) (hy : IsWd w wv y) :
    Calls Try.prog 28 #[v, uv, wv] w fun e w' => e = .returned (.tuple #[.bool (beginsM L x y).1, .int .i64 (beginsM L x y).2]) ∧ Grew w w' := by
  have HV := hid hv
  obtain ⟨s, rfl, -⟩ := hv
  obtain ⟨ua, uc, rfl⟩ := isWd_slice hx
  obtain ⟨xa, xc, rfl⟩ := isWd_slice hy
  obtain ⟨W0, hW0, g0, k0, k1, hz⟩ := box2 w (.int .i64 L.n) s 24
  obtain ⟨W1, hW1⟩ : ∃ W1, W0.alloc (.cells #[.slice ua x.length uc, .slice xa y.length xc] 25) = W1 := ⟨_, rfl⟩
  have g1 : Grew W0 W1 := by rw [← hW1]; exact grew_alloc (grew_refl _) _
  have g01 := grew_trans g0 g1
  obtain ⟨m, hm⟩ : ∃ m, x.length = m := ⟨_, rfl⟩
  have HM := hid hm
  obtain ⟨n, hnn⟩ : ∃ n, y.length = n := ⟨_, rfl⟩
  have HNN := hid hnn
  have HXM := hid (show IsWd w (.slice ua m uc) x by rw [← hm]; exact hx)
  have HYM := hid (show IsWd w (.slice xa n xc) y by rw [← hnn]; exact hy)
  obtain ⟨r, hr⟩ : ∃ r, wrong L [x, y] = r := ⟨_, rfl⟩
  have HR := hid hr
  have HX := hid hx; have HY := hid hy
  have HG01 := hid g01
  by_cases hr0 : r = 0
  · subst hr0
    obtain ⟨hv1, hw1, hw2⟩ := wrong_two hr
    have hok := newLoom_ok _ L _ [x, y] W1 hn (HV.out.grew g01) (by rw [← hW1]; exact rows_two (Reads.grew hx.ints g0) (Reads.grew hy.ints g0) 25) hr
    have HOK := hid hok
    have HW1 := hid hw1; have HW2 := hid hw2
    rw [hm, hnn] at hW1 ⊢
    clear hr hx hy hm hnn hok hv1 hw1 hw2
    go_enter Try.func28, Try.ntmps28
    go_wp2_with (first
      | (go_at_call 60; (with_reducible refine HOK.out.mono ?_); rintro e w1 ⟨B, N, hN, hN1, hN6, rfl, hB, hL, hg1⟩; have HL := hid hL; have HN := hid hN; have HG1 := hid (grew_trans HG01.out hg1); obtain ⟨hl1, hlw1⟩ := isW_iff hN HW1.out; obtain ⟨hl2, hlw2⟩ := isW_iff hN HW2.out; have HL1 := hid hl1; have HL2 := hid hl2; clear hN hL hg1 hB)
      | (go_at_call 76; (with_reducible refine (restP_any B N _ _ x y w1 hN6 (by omega) hlw1 hlw2 HL.out (HXM.out.grew HG1.out).ints (HYM.out.grew HG1.out)).mono ?_); rintro e w2 ⟨u, rfl, hu, hg2⟩; have HG2 := hid hg2; clear hu hg2))
    go_ret2
    exact ⟨by unfold beginsM; rw [HR.out, if_pos rfl]; rfl, grew_trans HG1.out HG2.out⟩
  · have hbad := newLoom_bad _ L _ [x, y] W1 hn (HV.out.grew g01) (by rw [← hW1]; exact rows_two (Reads.grew hx.ints g0) (Reads.grew hy.ints g0) 25) (by rw [hr]; exact hr0)
    rw [hr] at hbad
    have hne : (r != 0) = true := by simpa using hr0
    have HB := hid hbad; have HR0 := hid hr0
    rw [hm, hnn] at hW1 ⊢
    clear hr hx hy hm hnn hbad hr0
    go_enter Try.func28, Try.ntmps28
    go_wp2_with (go_at_call 60; (with_reducible refine HB.out.mono ?_); rintro e w1 ⟨rfl, hg1⟩; have HG1 := hid (grew_trans HG01.out hg1); clear hg1)
    go_ret2
    exact ⟨by unfold beginsM; rw [HR.out, if_neg HR0.out]; rfl, HG1.out⟩

set_option maxHeartbeats 4000000 in
set_option maxRecDepth 20000 in
theorem rest30_any (v : Value) (L : Lt) (uv wv : Value) (x y : List Int) (w : World) (hn : L.n ≤ 9223372036854775807) (hv : IsLt w v L) (hx : IsWd w uv x) (hy : IsWd w wv y) :
    Calls Try.prog 30 #[v, uv, wv] w fun e w' => Gives e w w' (restM L x y) := by
  have HV := hid hv
  obtain ⟨s, rfl, -⟩ := hv
  obtain ⟨ua, uc, rfl⟩ := isWd_slice hx
  obtain ⟨xa, xc, rfl⟩ := isWd_slice hy
  obtain ⟨W0, hW0, g0, k0, k1, hz⟩ := box2 w (.int .i64 L.n) s 24
  obtain ⟨W1, hW1⟩ : ∃ W1, W0.alloc (.cells #[.slice ua x.length uc, .slice xa y.length xc] 25) = W1 := ⟨_, rfl⟩
  have g1 : Grew W0 W1 := by rw [← hW1]; exact grew_alloc (grew_refl _) _
  have g01 := grew_trans g0 g1
  obtain ⟨m, hm⟩ : ∃ m, x.length = m := ⟨_, rfl⟩
  have HM := hid hm
  obtain ⟨n, hnn⟩ : ∃ n, y.length = n := ⟨_, rfl⟩
  have HNN := hid hnn
  have HXM := hid (show IsWd w (.slice ua m uc) x by rw [← hm]; exact hx)
  have HYM := hid (show IsWd w (.slice xa n xc) y by rw [← hnn]; exact hy)
  obtain ⟨r, hr⟩ : ∃ r, wrong L [x, y] = r := ⟨_, rfl⟩
  have HR := hid hr
  have HX := hid hx; have HY := hid hy
  have HG01 := hid g01
  by_cases hr0 : r = 0
  · subst hr0
    obtain ⟨hv1, hw1, hw2⟩ := wrong_two hr
    have hok := newLoom_ok _ L _ [x, y] W1 hn (HV.out.grew g01) (by rw [← hW1]; exact rows_two (Reads.grew hx.ints g0) (Reads.grew hy.ints g0) 25) hr
    have HOK := hid hok
    have HW1 := hid hw1; have HW2 := hid hw2
    rw [hm, hnn] at hW1 ⊢
    clear hr hx hy hm hnn hok hv1 hw1 hw2
    cases hq : rest (dep L) x y with
    | some l =>
      have HQ := hid hq
      clear hq
      go_enter Try.func30, Try.ntmps30
      go_wp2_with (first
        | (go_at_call 60; (with_reducible refine HOK.out.mono ?_); rintro e w1 ⟨B, N, hN, hN1, hN6, rfl, hB, hL, hg1⟩; have HL := hid hL; have HN := hid hN; have HG1 := hid (grew_trans HG01.out hg1); obtain ⟨hl1, hlw1⟩ := isW_iff hN HW1.out; obtain ⟨hl2, hlw2⟩ := isW_iff hN HW2.out; have HL1 := hid hl1; have HL2 := hid hl2; clear hN hL hg1 hB)
        | (go_at_call 76; go_loud (refine (show Calls _ _ _ _ _ from restP_any B N _ _ x y w1 hN6 (by omega) hlw1 hlw2 HL.out (HXM.out.grew HG1.out).ints (HYM.out.grew HG1.out)).mono ?_; rintro e w2 ⟨u, rfl, hu, hg2⟩; rw [HQ.out] at hu ⊢; have HU := hid hu; have HG2 := hid hg2; clear hu hg2))
        | (go_at_call 67; (with_reducible refine (first_any (dep L) B N _ _ w2 hN6 (fun z hz => hlw2 z (rest_sub HQ.out z hz)) (by have := rest_length HQ.out; have := HL2.out; omega) (HL.out.grew HG2.out) HU.out).mono ?_); rintro e w3 ⟨u3, rfl, hs3, hg3⟩; have HS3 := hid hs3; have HG3 := hid hg3; clear hs3 hg3))
      go_ret2
      refine ⟨u3, ?_, ?_, grew_trans HG1.out (grew_trans HG2.out HG3.out)⟩
      · rw [show (restM L x y).2 = 0 by unfold restM; rw [HR.out, if_pos rfl, HQ.out]; rfl]; rfl
      · rw [show (restM L x y).1 = first (dep L) N l by unfold restM; rw [HR.out, if_pos rfl, HQ.out, restO, HN.out, Int.toNat_natCast]]; exact IsWd.of_seg HS3.out
    | none =>
      have HQ := hid hq
      clear hq
      go_enter Try.func30, Try.ntmps30
      go_wp2_with (first
        | (go_at_call 60; (with_reducible refine HOK.out.mono ?_); rintro e w1 ⟨B, N, hN, hN1, hN6, rfl, hB, hL, hg1⟩; have HL := hid hL; have HN := hid hN; have HG1 := hid (grew_trans HG01.out hg1); obtain ⟨hl1, hlw1⟩ := isW_iff hN HW1.out; obtain ⟨hl2, hlw2⟩ := isW_iff hN HW2.out; have HL1 := hid hl1; have HL2 := hid hl2; clear hN hL hg1 hB)
        | (go_at_call 76; go_loud (refine (show Calls _ _ _ _ _ from restP_any B N _ _ x y w1 hN6 (by omega) hlw1 hlw2 HL.out (HXM.out.grew HG1.out).ints (HYM.out.grew HG1.out)).mono ?_; rintro e w2 ⟨u, rfl, hu, hg2⟩; rw [HQ.out] at hu ⊢; have HU := hid hu; have HG2 := hid hg2; clear hu hg2))
        | (go_at_call 67; (with_reducible refine (first_any (dep L) B N _ _ w2 hN6 (fun z hz => hlw2 z (rest_sub HQ.out z hz)) (by have := rest_length HQ.out; have := HL2.out; omega) (HL.out.grew HG2.out) HU.out).mono ?_); rintro e w3 ⟨u3, rfl, hs3, hg3⟩; have HS3 := hid hs3; have HG3 := hid hg3; clear hs3 hg3))
      go_ret2
      refine ⟨.slice none 0 0, ?_, ?_, grew_trans HG1.out HG2.out⟩
      · rw [show (restM L x y).2 = 5 by unfold restM; rw [HR.out, if_pos rfl, HQ.out]; rfl]; rfl
      · rw [show (restM L x y).1 = [] by unfold restM; rw [HR.out, if_pos rfl, HQ.out]; rfl]; exact wd_nil _
  · have hbad := newLoom_bad _ L _ [x, y] W1 hn (HV.out.grew g01) (by rw [← hW1]; exact rows_two (Reads.grew hx.ints g0) (Reads.grew hy.ints g0) 25) (by rw [hr]; exact hr0)
    rw [hr] at hbad
    have hne : (r != 0) = true := by simpa using hr0
    have HB := hid hbad; have HR0 := hid hr0
    rw [hm, hnn] at hW1 ⊢
    clear hr hx hy hm hnn hbad hr0
    go_enter Try.func30, Try.ntmps30
    go_wp2_with (go_at_call 60; (with_reducible refine HB.out.mono ?_); rintro e w1 ⟨rfl, hg1⟩; have HG1 := hid (grew_trans HG01.out hg1); clear hg1)
    go_ret2
    exact ⟨_, by rw [show (restM L x y).2 = r by unfold restM; rw [HR.out, if_neg HR0.out]]; rfl, by rw [show (restM L x y).1 = [] by unfold restM; rw [HR.out, if_neg HR0.out]]; exact wd_nil _, HG1.out⟩

set_option maxHeartbeats 4000000 in
set_option maxRecDepth 20000 in
theorem rBegins29_any (v : Value) (L : Lt) (uv wv : Value) (x y : List Int) (w : World) (hv : IsLt w v L) (hx : IsWd w uv x) (hy : IsWd w wv y) :
    Calls Try.prog 29 #[v, uv, wv] w fun e w' => e = .returned (.tuple #[.bool (beginsM L x y).1, .int .i64 (beginsM L x y).2]) ∧ Grew w w' := by
  have HV := hid hv
  obtain ⟨s, hveq, -⟩ := id hv
  subst hveq
  obtain ⟨ua, uc, rfl⟩ := isWd_slice hx
  obtain ⟨xa, xc, rfl⟩ := isWd_slice hy
  obtain ⟨W0, hW0, g0, k0, k1, hz⟩ := box2 w (.int .i64 L.n) s 24
  have hask := asked_any _ L _ _ x y W0 (hv.grew g0) (hx.grew g0).ints (hy.grew g0).ints
  obtain ⟨m, hm⟩ : ∃ m, x.length = m := ⟨_, rfl⟩
  have HM := hid hm
  obtain ⟨n, hnn⟩ : ∃ n, y.length = n := ⟨_, rfl⟩
  have HNN := hid hnn
  have HXM := hid (show IsWd w (.slice ua m uc) x by rw [← hm]; exact hx)
  have HYM := hid (show IsWd w (.slice xa n xc) y by rw [← hnn]; exact hy)
  obtain ⟨r, hr⟩ : ∃ r, wrong L [x, y] = r := ⟨_, rfl⟩
  rw [hr] at hask
  have HR := hid hr
  have HX := hid hx; have HY := hid hy
  rw [hm, hnn] at hask
  have HASK := hid hask
  rw [hm, hnn]
  have hg := grew_refl W0
  clear hask hr hx hy hm hnn hv
  by_cases hr0 : r = 0
  · subst hr0
    obtain ⟨hv1, hw1, hw2⟩ := wrong_two HR.out
    obtain ⟨⟨h1, h6⟩, -⟩ := valid_iff hv1
    obtain ⟨N, hN⟩ : ∃ N : Nat, L.n = N := ⟨L.n.toNat, by omega⟩
    have hN6 : N ≤ 6 := by omega
    obtain ⟨hl1, hlw1⟩ := isW_iff hN hw1; obtain ⟨hl2, hlw2⟩ := isW_iff hN hw2
    have HN := hid hN; have HL1 := hid hl1; have HL2 := hid hl2; have HVN := hid (show IsLt w (.agg #[.int .i64 (N : Int), s]) L by rw [← hN]; exact HV.out)
    rw [hN] at hW0 k0 HASK ⊢
    clear hN hv1 hw1 hw2 h1 h6
    go_enter Try.func29, Try.ntmps29
    go_wp2_with (first
      | (go_at_call 64; (with_reducible refine HASK.out.mono ?_); rintro e w1 ⟨rfl, hx⟩; replace hg := grew_trans hg hx; have hc := (bcell hg).1; have HG1 := hid (grew_trans g0 hg); clear hx)
      | (go_at_call 77; (with_reducible refine (restR_any _ L _ _ x y w1 (by have := HL2.out; omega) (HVN.out.grew HG1.out) (HXM.out.grew HG1.out).ints (HYM.out.grew HG1.out)).mono ?_); rintro e w2 ⟨u, rfl, hu, hg2⟩; have HG2 := hid hg2; clear hu hg2))
    go_ret2
    exact ⟨by unfold beginsM; rw [HR.out, if_pos rfl]; rfl, grew_trans HG1.out HG2.out⟩
  · have hne : (r != 0) = true := by simpa using hr0
    have HR0 := hid hr0
    clear hr0
    go_enter Try.func29, Try.ntmps29
    go_wp2_with (go_at_call 64; (with_reducible refine HASK.out.mono ?_); rintro e w1 ⟨rfl, hx⟩; have HG1 := hid (grew_trans g0 hx); clear hx)
    go_ret2
    exact ⟨by unfold beginsM; rw [HR.out, if_neg HR0.out]; rfl, HG1.out⟩

set_option maxHeartbeats 4000000 in
set_option maxRecDepth 20000 in
theorem rRest31_any (v : Value) (L : Lt) (uv wv : Value) (x y : List Int) (w : World) (hv : IsLt w v L) (hx : IsWd w uv x) (hy : IsWd w wv y) :
    Calls Try.prog 31 #[v, uv, wv] w fun e w' => Gives e w w' (restM L x y) := by
  have HV := hid hv
  obtain ⟨s, hveq, -⟩ := id hv
  subst hveq
  obtain ⟨ua, uc, rfl⟩ := isWd_slice hx
  obtain ⟨xa, xc, rfl⟩ := isWd_slice hy
  obtain ⟨W0, hW0, g0, k0, k1, hz⟩ := box2 w (.int .i64 L.n) s 24
  have hask := asked_any _ L _ _ x y W0 (hv.grew g0) (hx.grew g0).ints (hy.grew g0).ints
  obtain ⟨m, hm⟩ : ∃ m, x.length = m := ⟨_, rfl⟩
  have HM := hid hm
  obtain ⟨n, hnn⟩ : ∃ n, y.length = n := ⟨_, rfl⟩
  have HNN := hid hnn
  have HXM := hid (show IsWd w (.slice ua m uc) x by rw [← hm]; exact hx)
  have HYM := hid (show IsWd w (.slice xa n xc) y by rw [← hnn]; exact hy)
  obtain ⟨r, hr⟩ : ∃ r, wrong L [x, y] = r := ⟨_, rfl⟩
  rw [hr] at hask
  have HR := hid hr
  have HX := hid hx; have HY := hid hy
  rw [hm, hnn] at hask
  have HASK := hid hask
  rw [hm, hnn]
  have hg := grew_refl W0
  clear hask hr hx hy hm hnn hv
  by_cases hr0 : r = 0
  · subst hr0
    obtain ⟨hv1, hw1, hw2⟩ := wrong_two HR.out
    obtain ⟨⟨h1, h6⟩, -⟩ := valid_iff hv1
    obtain ⟨N, hN⟩ : ∃ N : Nat, L.n = N := ⟨L.n.toNat, by omega⟩
    have hN6 : N ≤ 6 := by omega
    obtain ⟨hl1, hlw1⟩ := isW_iff hN hw1; obtain ⟨hl2, hlw2⟩ := isW_iff hN hw2
    have HN := hid hN; have HL1 := hid hl1; have HL2 := hid hl2; have HVN := hid (show IsLt w (.agg #[.int .i64 (N : Int), s]) L by rw [← hN]; exact HV.out)
    rw [hN] at hW0 k0 HASK ⊢
    clear hN hv1 hw1 hw2 h1 h6
    cases hq : rest (dep L) x y with
    | some l =>
      have HQ := hid hq
      clear hq
      go_enter Try.func31, Try.ntmps31
      go_wp2_with (first
        | (go_at_call 64; (with_reducible refine HASK.out.mono ?_); rintro e w1 ⟨rfl, hx⟩; replace hg := grew_trans hg hx; have hc := (bcell hg).1; have HG1 := hid (grew_trans g0 hg); clear hx)
        | (go_at_call 77; go_loud (refine (show Calls _ _ _ _ _ from restR_any _ L _ _ x y w1 (by have := HL2.out; omega) (HVN.out.grew HG1.out) (HXM.out.grew HG1.out).ints (HYM.out.grew HG1.out)).mono ?_; rintro e w2 ⟨u, rfl, hu, hg2⟩; rw [HQ.out] at hu ⊢; replace hg := grew_trans hg hg2; replace hc := (bcell hg).1; have HU := hid hu; have HG2 := hid hg2; clear hu hg2))
        | (go_at_call 69; (with_reducible refine (rFirst_any _ L _ _ N w2 HN.out hN6 (fun z hz => hlw2 z (rest_sub HQ.out z hz)) (by have := rest_length HQ.out; have := HL2.out; omega) (HVN.out.grew (grew_trans HG1.out HG2.out)) HU.out).mono ?_); rintro e w3 ⟨u3, rfl, hs3, hg3⟩; have HS3 := hid hs3; have HG3 := hid hg3; clear hs3 hg3))
      go_ret2
      refine ⟨u3, ?_, ?_, grew_trans HG1.out (grew_trans HG2.out HG3.out)⟩
      · rw [show (restM L x y).2 = 0 by unfold restM; rw [HR.out, if_pos rfl, HQ.out]; rfl]; rfl
      · rw [show (restM L x y).1 = first (dep L) N l by unfold restM; rw [HR.out, if_pos rfl, HQ.out, restO, HN.out, Int.toNat_natCast]]; exact wd_first hlw2 HQ.out HS3.out
    | none =>
      have HQ := hid hq
      clear hq
      go_enter Try.func31, Try.ntmps31
      go_wp2_with (first
        | (go_at_call 64; (with_reducible refine HASK.out.mono ?_); rintro e w1 ⟨rfl, hx⟩; replace hg := grew_trans hg hx; have hc := (bcell hg).1; have HG1 := hid (grew_trans g0 hg); clear hx)
        | (go_at_call 77; go_loud (refine (show Calls _ _ _ _ _ from restR_any _ L _ _ x y w1 (by have := HL2.out; omega) (HVN.out.grew HG1.out) (HXM.out.grew HG1.out).ints (HYM.out.grew HG1.out)).mono ?_; rintro e w2 ⟨u, rfl, hu, hg2⟩; rw [HQ.out] at hu ⊢; replace hg := grew_trans hg hg2; replace hc := (bcell hg).1; have HU := hid hu; have HG2 := hid hg2; clear hu hg2))
        | (go_at_call 69; (with_reducible refine (rFirst_any _ L _ _ N w2 HN.out hN6 (fun z hz => hlw2 z (rest_sub HQ.out z hz)) (by have := rest_length HQ.out; have := HL2.out; omega) (HVN.out.grew (grew_trans HG1.out HG2.out)) HU.out).mono ?_); rintro e w3 ⟨u3, rfl, hs3, hg3⟩; have HS3 := hid hs3; have HG3 := hid hg3; clear hs3 hg3))
      go_ret2
      refine ⟨.slice none 0 0, ?_, ?_, grew_trans HG1.out HG2.out⟩
      · rw [show (restM L x y).2 = 5 by unfold restM; rw [HR.out, if_pos rfl, HQ.out]; rfl]; rfl
      · rw [show (restM L x y).1 = [] by unfold restM; rw [HR.out, if_pos rfl, HQ.out]; rfl]; exact wd_nil _
  · have hne : (r != 0) = true := by simpa using hr0
    have HR0 := hid hr0
    clear hr0
    go_enter Try.func31, Try.ntmps31
    go_wp2_with (go_at_call 64; (with_reducible refine HASK.out.mono ?_); rintro e w1 ⟨rfl, hx⟩; have HG1 := hid (grew_trans g0 hx); clear hx)
    go_ret2
    exact ⟨_, by rw [show (restM L x y).2 = r by unfold restM; rw [HR.out, if_neg HR0.out]]; rfl, by rw [show (restM L x y).1 = [] by unfold restM; rw [HR.out, if_neg HR0.out]]; exact wd_nil _, HG1.out⟩

end Go.Proofs.Ytddnpooffcjhnaa
