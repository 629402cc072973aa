/- The law TopWeave: classes of words are told by projections, layers and first forms alike; the first words of a class are all in it; a word falls into what it has in common with another one and a rest. -/
import Derived.Test.YtddnpooffcjhnaaWvTopP
import Derived.Test.YtddnpooffcjhnaaWvYes
import Derived.Test.YtddnpooffcjhnaaWvClass
import Derived.Test.YtddnpooffcjhnaaWvBoth
import Derived.Test.YtddnpooffcjhnaaWvBefore
namespace Go.Proofs.Ytddnpooffcjhnaa
open Go.RowKit Go.Lin Go.Lin.Wv

theorem byte_of_wf {x : Int} (h : (Lit.int .u8 x).wf = true) : 0 ≤ x ∧ x ≤ 255 := by
  simp [Lit.wf, IntKind.min, IntKind.max, IntKind.signed, IntKind.bits] at h
  exact ⟨by omega, by omega⟩

theorem same_is {a b : Value} {l m : List Int} {q : Bool} (hq : (l == m) = q) (W : World) (ha : IsInts Any W a l) (hb : IsInts Any W b m) : Calls Try.prog 23 #[a, b] W fun e w' => e = .returned (.bool q) ∧ Grew W w' :=
  (sameInts_any a b l m W ha hb).mono fun e w' ⟨h1, h2⟩ => ⟨by rw [h1, hq], h2⟩
theorem sameL_eq {a b : Value} {l : List (List Int)} (W : World) (ha : IsLs W a l) (hb : IsLs W b l) : Calls Try.prog 20 #[a, b] W fun e w' => e = .returned (.bool true) ∧ Grew W w' :=
  (same20_any a b l l W ha hb).mono fun e w' ⟨h1, h2⟩ => ⟨by rw [h1, beq_self_eq_true], h2⟩
theorem path_err {L : Lt} {N : Nat} (hN : L.n = N) (hvl : valid L = true) (hn : L.n ≤ 9223372036854775807) {v uv wv : Value} {x y : List Int} {w : World} (gx : GoodW N x) (gy : GoodW N y) {E : Int} (hE : E = if (first (dep L) N x == first (dep L) N y) then 0 else 5)
    (hv : IsLt w v L) (hx : IsWd w uv x) (hy : IsWd w wv y) : Calls Try.prog 45 #[v, uv, wv] w fun e w' => ∃ u, e = .returned (.tuple #[u, .int .i64 E]) ∧ Grew w w' :=
  (path45_any v L uv wv x y w hn hv hx hy).mono fun e w' ⟨u, p, E', h1, h2, h3, h4⟩ => by
    refine ⟨u, ?_, h4⟩
    rcases path_good hN hvl gx gy h2 with ⟨h, _, rfl⟩ | ⟨h, rfl, _⟩
    · rw [h1, hE, if_neg (by simpa using h)]
    · rw [h1, hE, if_pos (by simpa using h)]

set_option maxHeartbeats 32000000 in
set_option maxRecDepth 40000 in
theorem topWeave_law (L : Lt) (x y : List Int) (b : Int) (v uv tv : Value) (w : World) (hb : 0 ≤ b ∧ b ≤ 255) (hn : L.n ≤ 9223372036854775807) (hv : IsLt w v L) (hx : IsWd w uv x) (hy : IsWd w tv y) :
    Calls Try.prog 15 #[v, uv, tv, .int .u8 b] w fun e w' => e = .returned (.bool true) ∧ Grew w w' := by
  obtain ⟨t, rfl⟩ : ∃ t : Nat, b = t := ⟨b.toNat, by omega⟩
  have ht : t ≤ 255 := by omega
  have hcv : IntKind.i64.wrap (t : Int) = (t : Int) := IntWalk.i64_in _ (by omega)
  clear hb
  obtain ⟨ua, uc, rfl⟩ := isWd_slice hx
  obtain ⟨ya, yc, rfl⟩ := isWd_slice hy
  have HV := hid hv
  obtain ⟨s, rfl, -⟩ := hv
  obtain ⟨W0, hW0, g0, k0, k1, hz⟩ := box2 w (.int .i64 L.n) s 24
  have HA := hid (fun (W : World) => awake_any W)
  have hl := long_any _ L _ [x, y] (W0.alloc (.cells #[.slice ua x.length uc, .slice ya y.length yc] 25)) ((HV.out.grew g0).grew (grew_alloc (grew_refl _) _)) (rows_two (hx.grew g0).ints (hy.grew g0).ints 25)
  have H38 := hid (fun (W : World) (hW : Grew w W) => rValid_any _ L W (HV.out.grew hW))
  have H53x := hid (fun (W : World) (hW : Grew w W) => isW_any _ L _ x W (HV.out.grew hW) (hx.grew hW).ints)
  have H53y := hid (fun (W : World) (hW : Grew w W) => isW_any _ L _ y W (HV.out.grew hW) (hy.grew hW).ints)
  obtain ⟨q, hq⟩ : ∃ q, longM L [x, y] = q := ⟨_, rfl⟩
  obtain ⟨V, hV⟩ : ∃ q, valid L = q := ⟨_, rfl⟩
  obtain ⟨bx, hbx⟩ : ∃ q, isW L x = q := ⟨_, rfl⟩
  obtain ⟨bw, hbw⟩ : ∃ q, isW L y = q := ⟨_, rfl⟩
  rw [hq] at hl; rw [hV] at H38; rw [hbx] at H53x; rw [hbw] at H53y
  have HL := hid hl
  have HX := hid hx; have HY := hid hy
  have hg := grew_refl W0
  clear hl hx hy hq
  by_cases hgood : q = false ∧ V = true ∧ bx = true ∧ bw = true
  · obtain ⟨rfl, rfl, rfl, rfl⟩ := hgood
    obtain ⟨⟨h1, h6⟩, -⟩ := valid_iff hV
    obtain ⟨N, hN⟩ : ∃ N : Nat, L.n = N := ⟨L.n.toNat, by omega⟩
    obtain ⟨hl1, hlw1⟩ := isW_iff hN hbx
    obtain ⟨hl2, hlw2⟩ := isW_iff hN hbw
    have gx : GoodW N x := ⟨hl1, hlw1⟩
    have gy : GoodW N y := ⟨hl2, hlw2⟩
    obtain ⟨c, rx, ry, gc, grx, gry, e1, e2, e3, e4, e5, e6, e7⟩ := top_parts hN hV gx gy
    have H33x := hid (fun (W : World) (hW : Grew w W) => first33_any _ L _ x W hn (HV.out.grew hW) (HX.out.grew hW))
    rw [firstM_good hN hV gx] at H33x
    have H33y := hid (fun (W : World) (hW : Grew w W) => first33_any _ L _ y W hn (HV.out.grew hW) (HY.out.grew hW))
    rw [firstM_good hN hV gy] at H33y
    have H43 := hid (fun (W : World) (hW : Grew w W) => equal43_any _ L _ _ x y W hn (HV.out.grew hW) (HX.out.grew hW) (HY.out.grew hW))
    rw [eqM_good hN hV gx gy] at H43
    obtain ⟨qq, hqq⟩ : ∃ q, (first (dep L) N x == first (dep L) N y) = q := ⟨_, rfl⟩
    obtain ⟨E, hE⟩ : ∃ E : Int, E = if qq then 0 else 5 := ⟨_, rfl⟩
    have hEq : (E == 0) = qq := by rw [hE]; cases qq <;> rfl
    have hqn : (qq != qq) = false := by simp
    have H45 := hid (fun (W : World) (hW : Grew w W) => path_err hN hV hn gx gy (E := E) (by rw [hqq]; exact hE) (HV.out.grew hW) (HX.out.grew hW) (HY.out.grew hW))
    rw [hqq] at H43
    have hca : classA L x t = ((classM (dep L) N x).take t, 0) := by unfold classA; rw [good_wrong hV hN (by simp; exact gx), if_pos rfl, if_pos ⟨by omega, by omega⟩, hN, Int.toNat_natCast, Int.toNat_natCast]
    have H18 := hid (fun (W : World) (hW : Grew w W) => class18_any _ L _ x t W hn (HV.out.grew hW) (HX.out.grew hW))
    rw [hca] at H18
    obtain ⟨C, hC⟩ : ∃ C, (classM (dep L) N x).take t = C := ⟨_, rfl⟩
    rw [hC] at H18
    obtain ⟨m, hm⟩ : ∃ m, C.length = m := ⟨_, rfl⟩
    have hmt : m ≤ t := by rw [← hm, ← hC]; exact List.length_take_le _ _
    have hmt2 : ¬ (t : Int) < (m : Int) := by omega
    have hmt3 : decide ((t : Int) < (m : Int)) = false := by rw [decide_eq_false_iff_not]; exact hmt2
    have hmt4 : decide (t < m) = false := by rw [decide_eq_false_iff_not]; omega
    have hCW : ∀ i, i < m → GoodW N (nthL C i) ∧ Wv.Alike (dep L) x (nthL C i) := fun i hi => by
      have h1 : nthL C i ∈ classM (dep L) N x := by
        have h0 : nthL C i ∈ (classM (dep L) N x).take t := by rw [hC]; exact nthL_mem (by rw [hm]; exact hi)
        exact List.mem_of_mem_take h0
      have h2 := (mem_classM (dep_refl L) (dep_comm L) gx.ok).1 h1
      exact ⟨⟨by rw [← h2.length (dep_refl L)]; exact gx.len, fun z hz => gx.ok z (((h2.perm (dep_refl L)).mem_iff).2 hz)⟩, h2⟩
    have HCW := hid hCW
    have H33u := hid (fun (W : World) (hW : Grew w W) (i : Nat) (hi : i < m) (u : Value) (hu : IsWd W u (nthL C i)) => (by
      have h := first33_any _ L u (nthL C i) W hn (HV.out.grew hW) hu
      rw [firstM_good hN hV (hCW i hi).1, ← (first_iff (dep_refl L) (dep_comm L) gx.ok (hCW i hi).1.ok).2 (hCW i hi).2] at h
      exact h : Calls Try.prog 33 #[_, u] W fun e w' => Gives e W w' (first (dep L) N x, 0)))
    have H52u := hid (fun (W : World) (hW : Grew w W) (i : Nat) (hi : i < m) (u : Value) (hu : IsWd W u (nthL C i)) => (by
      have h := layers52_any _ L u (nthL C i) W hn (HV.out.grew hW) hu
      rw [layersA_good hN hV (hCW i hi).1, ← (layers_iff (dep_refl L) (dep_comm L) gx.ok (hCW i hi).1.ok).2 (hCW i hi).2] at h
      exact h : Calls Try.prog 52 #[_, u] W fun e w' => GivesL e W w' (layersM (dep L) N x, 0)))
    have H52x := hid (fun (W : World) (hW : Grew w W) => layers52_any _ L _ x W hn (HV.out.grew hW) (HX.out.grew hW))
    rw [layersA_good hN hV gx] at H52x
    have H45u := hid (fun (W : World) (hW : Grew w W) (i : Nat) (hi : i < m) (u : Value) (hu : IsWd W u (nthL C i)) => path_yes hN hV hn gx (hCW i hi).1 (hCW i hi).2 (HV.out.grew hW) (HX.out.grew hW) hu)
    have H47u := hid (fun (W : World) (hW : Grew w W) (i : Nat) (hi : i < m) (u : Value) (hu : IsWd W u (nthL C i)) (up : Value) (p : List Int) (hp : IsWd W up p) (hpl : p.length ≤ 45) (hpr : runP (dep L) x p = some (nthL C i)) => isPath_yes hN hV hn gx (hCW i hi).1 (by omega) hpr (HV.out.grew hW) (HX.out.grew hW) hu hp)
    have H21 := hid (fun (W : World) (hW : Grew w W) => common21_any _ L _ _ x y W hn (HV.out.grew hW) (HX.out.grew hW) (HY.out.grew hW))
    rw [e1] at H21
    have H30x := hid (fun (W : World) (hW : Grew w W) (u : Value) (hu : IsWd W u c) => rest30_any _ L u _ c x W hn (HV.out.grew hW) hu (HX.out.grew hW))
    rw [e2] at H30x
    have H30y := hid (fun (W : World) (hW : Grew w W) (u : Value) (hu : IsWd W u c) => rest30_any _ L u _ c y W hn (HV.out.grew hW) hu (HY.out.grew hW))
    rw [e3] at H30y
    have H26x := hid (fun (W : World) (hW : Grew w W) (u u2 : Value) (hu : IsWd W u c) (hu2 : IsWd W u2 rx) => joined26_any _ L u u2 c rx W hn (HV.out.grew hW) hu hu2)
    rw [e4] at H26x
    have H26y := hid (fun (W : World) (hW : Grew w W) (u u2 : Value) (hu : IsWd W u c) (hu2 : IsWd W u2 ry) => joined26_any _ L u u2 c ry W hn (HV.out.grew hW) hu hu2)
    rw [e5] at H26y
    have H21r := hid (fun (W : World) (hW : Grew w W) (u u2 : Value) (hu : IsWd W u rx) (hu2 : IsWd W u2 ry) => common21_any _ L u u2 rx ry W hn (HV.out.grew hW) hu hu2)
    rw [e6] at H21r
    have H24 := hid (fun (W : World) (hW : Grew w W) => both24_any _ L _ _ x y W hn (HV.out.grew hW) (HX.out.grew hW) (HY.out.grew hW))
    obtain ⟨Fx, hFx⟩ : ∃ F, first (dep L) N x = F := ⟨_, rfl⟩
    obtain ⟨Fy, hFy⟩ : ∃ F, first (dep L) N y = F := ⟨_, rfl⟩
    obtain ⟨Lx, hLx⟩ : ∃ F, layersM (dep L) N x = F := ⟨_, rfl⟩
    rw [hFx] at hqq H33x H33u H26x e7
    rw [hFy] at hqq H33y H26y
    rw [hLx] at H52u H52x
    have H26j := hid (fun (W : World) (hW : Grew w W) (u u2 : Value) (hu : IsWd W u Fx) (hu2 : IsWd W u2 ry) => joined26_any _ L u u2 Fx ry W hn (HV.out.grew hW) hu hu2)
    have HQQ := hid hqq; have HM := hid hm
    clear hFx hFy hLx hqq hE hca hC hm hCW h1 h6 hN hl1 hlw1 hl2 hlw2 gx gy gc grx gry e1 e2 e3 e4 e5 e6 hV hbx hbw
    go_enter Try.func15, Try.ntmps15
    go_wp2_with (first
      | (go_at_call 16; (with_reducible refine HL.out.mono ?_); rintro e w1 ⟨rfl, hx⟩; replace hg := grew_trans (grew_alloc (grew_refl W0) _) hx; have hc := (bcell hg).1; clear hx)
      | (go_at_call 38; (with_reducible refine (H38.out _ (grew_trans g0 hg)).mono ?_); rintro e w2 ⟨rfl, hx⟩; replace hg := grew_trans hg hx; replace hc := (bcell hg).1; clear hx)
      | (go_at_call 53; (with_reducible refine (H53x.out _ (grew_trans g0 hg)).mono ?_); rintro e w3 ⟨rfl, hx⟩; replace hg := grew_trans hg hx; replace hc := (bcell hg).1; clear hx)
      | (go_at_call 53; (with_reducible refine (H53y.out _ (grew_trans g0 hg)).mono ?_); rintro e w4 ⟨rfl, hx⟩; replace hg := grew_trans hg hx; replace hc := (bcell hg).1; clear hx)
      | (go_at_call 33; (with_reducible refine (H33x.out _ (grew_trans g0 hg)).mono ?_); rintro e w5 ⟨u9, rfl, hu9, hx⟩; replace hg := grew_trans hg hx; replace hc := (bcell hg).1; have HU9 := hid hu9; have HGB := hid (grew_refl w5); clear hx hu9)
      | (go_at_call 33; (with_reducible refine (H33y.out _ (grew_trans g0 hg)).mono ?_); rintro e w6 ⟨u11, rfl, hu11, hx⟩; replace hg := grew_trans hg hx; replace hc := (bcell hg).1; replace HGB := hid (grew_trans HGB.out hx); have HS23 := hid (fun (W : World) (hW : Grew w6 W) => same_is HQQ.out W ((HU9.out.grew hx).grew hW).ints (hu11.grew hW).ints); have HU11 := hid hu11; have HGC := hid (grew_refl w6); clear hx hu11)
      | (go_at_call 43; (with_reducible refine (H43.out _ (grew_trans g0 hg)).mono ?_); rintro e w7 ⟨rfl, hx⟩; replace hg := grew_trans hg hx; replace hc := (bcell hg).1; replace HGB := hid (grew_trans HGB.out hx); replace HGC := hid (grew_trans HGC.out hx); clear hx)
      | (go_at_call 45; (with_reducible refine (H45.out _ (grew_trans g0 hg)).mono ?_); rintro e w8 ⟨u15, rfl, hx⟩; replace hg := grew_trans hg hx; replace hc := (bcell hg).1; replace HGB := hid (grew_trans HGB.out hx); replace HGC := hid (grew_trans HGC.out hx); clear hx)
      | (go_at_call 23; (with_reducible refine (HS23.out _ HGC.out).mono ?_); rintro e w9 ⟨rfl, hx⟩; replace hg := grew_trans hg hx; replace hc := (bcell hg).1; replace HGB := hid (grew_trans HGB.out hx); replace HGC := hid (grew_trans HGC.out hx); clear hx)
      | (go_at_call 18; (with_reducible refine (H18.out _ (grew_trans g0 hg)).mono ?_); rintro e w10 ⟨u17, rfl, hu17, hx⟩; obtain ⟨ca, cc, rfl, hcc⟩ := isLs_slice hu17; replace hg := grew_trans hg hx; rw [HM.out] at hu17 hcc ⊢; replace hc := (bcell hg).1; have HU17 := hid hu17; have HG10 := hid hg; have HU9b := hid (HU9.out.grew (grew_trans HGB.out hx)); have HU11b := hid (HU11.out.grew (grew_trans HGC.out hx)); clear hx hu17 HGB HGC HU9 HU11))
    clear hc hg
    go_loopg [19, 20, 21, 22, 23, 24, 25, 26, 27, 28, 29, 129, 133, 139, 145, 151, 158] m (fun gk _ _ _ _ _ _ _ _ _ _ _ j _ _ _ _ _ wr => ∃ i : Nat, i ≤ m ∧ j = .int .i64 (i : Int) ∧ Hid (gk = m - i) ∧ Hid (Grew w10 wr))
    case atStart => exact ⟨0, by omega, rfl, hid rfl, hid (grew_refl w10)⟩
    case round =>
      obtain ⟨i, hi, rfl, HGK, HGR⟩ := hrel
      rename World => wr
      have hg := grew_trans HG10.out HGR.out
      have hc := (bcell hg).1
      by_cases him : i < m
      · have hii : (i : Int) < (m : Int) := by omega
        obtain ⟨cb, coff, cobj, u, rfl, hco, hcu, hcw⟩ := HU17.out.at him
        have hcl := lt_of_obj hco
        have hcu1 := (HGR.out.cell (p := ⟨cb, coff + i, none⟩) hcl).trans hcu
        have hcl1 := Nat.lt_of_lt_of_le hcl HGR.out.size
        obtain ⟨ia, icp, hu⟩ := isWd_slice hcw
        obtain ⟨il, hil⟩ : ∃ l, (nthL C i).length = l := ⟨_, rfl⟩
        rw [hil] at hu
        subst hu
        have HUI := hid (hcw.grew HGR.out)
        have HGR2 := hid HGR.out
        have HU9c := hid (HU9b.out.grew HGR.out)
        have hm255 : m ≤ 255 := by omega
        clear hco hcu hcw hil
        go_wp2_with (first
          | (go_at_call 33; (with_reducible refine (H33u.out _ (grew_trans g0 hg) i him _ HUI.out).mono ?_); rintro e w11 ⟨u20, rfl, hu20, hx⟩; replace hg := grew_trans hg hx; replace hc := (bcell hg).1; replace HGR2 := hid (grew_trans HGR2.out hx); replace HUI := hid (HUI.out.grew hx); replace HU9c := hid (HU9c.out.grew hx); have HU20 := hid hu20; clear hu20; clear hx)
          | (go_at_call 52; (with_reducible refine (H52u.out _ (grew_trans g0 hg) i him _ HUI.out).mono ?_); rintro e w12 ⟨u22, rfl, hu22, hx⟩; replace hg := grew_trans hg hx; replace hc := (bcell hg).1; replace HGR2 := hid (grew_trans HGR2.out hx); replace HUI := hid (HUI.out.grew hx); replace HU9c := hid (HU9c.out.grew hx); replace HU20 := hid (HU20.out.grew hx); have HU22 := hid hu22; clear hu22; clear hx)
          | (go_at_call 52; (with_reducible refine (H52x.out _ (grew_trans g0 hg)).mono ?_); rintro e w13 ⟨u24, rfl, hu24, hx⟩; replace hg := grew_trans hg hx; replace hc := (bcell hg).1; replace HGR2 := hid (grew_trans HGR2.out hx); replace HUI := hid (HUI.out.grew hx); replace HU9c := hid (HU9c.out.grew hx); replace HU20 := hid (HU20.out.grew hx); replace HU22 := hid (HU22.out.grew hx); have HU24 := hid hu24; clear hu24; clear hx)
          | (go_at_call 45; (with_reducible refine (H45u.out _ (grew_trans g0 hg) i him _ HUI.out).mono ?_); rintro e w14 ⟨u26, p26, rfl, hu26, hp26, hr26, hx⟩; replace hg := grew_trans hg hx; replace hc := (bcell hg).1; replace HGR2 := hid (grew_trans HGR2.out hx); replace HUI := hid (HUI.out.grew hx); replace HU9c := hid (HU9c.out.grew hx); replace HU20 := hid (HU20.out.grew hx); replace HU22 := hid (HU22.out.grew hx); replace HU24 := hid (HU24.out.grew hx); have HU26 := hid hu26; have HP26 := hid hp26; have HR26 := hid hr26; clear hu26 hp26 hr26; clear hx)
          | (go_at_call 47; (with_reducible refine (H47u.out _ (grew_trans g0 hg) i him _ HUI.out _ p26 HU26.out HP26.out HR26.out).mono ?_); rintro e w15 ⟨rfl, hx⟩; replace hg := grew_trans hg hx; replace hc := (bcell hg).1; replace HGR2 := hid (grew_trans HGR2.out hx); replace HUI := hid (HUI.out.grew hx); replace HU9c := hid (HU9c.out.grew hx); replace HU20 := hid (HU20.out.grew hx); replace HU22 := hid (HU22.out.grew hx); replace HU24 := hid (HU24.out.grew hx);  clear hx)
          | (go_at_call 23; (with_reducible refine (same_true _ _ Fx _ HU20.out.ints HU9c.out.ints).mono ?_); rintro e w16 ⟨rfl, hx⟩; replace hg := grew_trans hg hx; replace hc := (bcell hg).1; replace HGR2 := hid (grew_trans HGR2.out hx); replace HU22 := hid (HU22.out.grew hx); replace HU24 := hid (HU24.out.grew hx);  clear hx)
          | (go_at_call 20; (with_reducible refine (sameL_eq _ HU22.out HU24.out).mono ?_); rintro e w17 ⟨rfl, hx⟩; replace hg := grew_trans hg hx; replace hc := (bcell hg).1; replace HGR2 := hid (grew_trans HGR2.out hx);   clear hx))
        go_roundg (m - (i + 1))
        case measure => have := HGK.out; omega
        case rel => exact ⟨i + 1, by omega, by go_num, hid rfl, HGR2⟩
      · obtain rfl : i = m := by omega
        have hni : ¬ (i : Int) < (i : Int) := by omega
        have HT9 := hid (HU9b.out.grew HGR.out)
        have HT11 := hid (HU11b.out.grew HGR.out)
        rcases e7 with e7 | e7 | ⟨z, e7, e8⟩
        · rw [e7] at H24
          clear e7 HGR
          go_wp2_with (first
            | (go_at_call 21; (with_reducible refine (H21.out _ (grew_trans g0 hg)).mono ?_); rintro e w20 ⟨u30, rfl, hu30, hx⟩; replace hg := grew_trans hg hx; replace hc := (bcell hg).1; replace HT9 := hid (HT9.out.grew hx); replace HT11 := hid (HT11.out.grew hx); have HU30 := hid hu30; clear hu30; clear hx)
            | (go_at_call 30; (with_reducible refine (H30x.out _ (grew_trans g0 hg) _ HU30.out).mono ?_); rintro e w21 ⟨u31, rfl, hu31, hx⟩; replace hg := grew_trans hg hx; replace hc := (bcell hg).1; replace HT9 := hid (HT9.out.grew hx); replace HT11 := hid (HT11.out.grew hx); replace HU30 := hid (HU30.out.grew hx); have HU31 := hid hu31; clear hu31; clear hx)
            | (go_at_call 30; (with_reducible refine (H30y.out _ (grew_trans g0 hg) _ HU30.out).mono ?_); rintro e w22 ⟨u32, rfl, hu32, hx⟩; replace hg := grew_trans hg hx; replace hc := (bcell hg).1; replace HT9 := hid (HT9.out.grew hx); replace HT11 := hid (HT11.out.grew hx); replace HU30 := hid (HU30.out.grew hx); replace HU31 := hid (HU31.out.grew hx); have HU32 := hid hu32; clear hu32; clear hx)
            | (go_at_call 26; (with_reducible refine (H26x.out _ (grew_trans g0 hg) _ _ HU30.out HU31.out).mono ?_); rintro e w23 ⟨u33, rfl, hu33, hx⟩; replace hg := grew_trans hg hx; replace hc := (bcell hg).1; replace HT9 := hid (HT9.out.grew hx); replace HT11 := hid (HT11.out.grew hx); replace HU30 := hid (HU30.out.grew hx); replace HU31 := hid (HU31.out.grew hx); replace HU32 := hid (HU32.out.grew hx); have HU33 := hid hu33; clear hu33; clear hx)
            | (go_at_call 26; (with_reducible refine (H26y.out _ (grew_trans g0 hg) _ _ HU30.out HU32.out).mono ?_); rintro e w24 ⟨u34, rfl, hu34, hx⟩; replace hg := grew_trans hg hx; replace hc := (bcell hg).1; replace HT9 := hid (HT9.out.grew hx); replace HT11 := hid (HT11.out.grew hx); replace HU30 := hid (HU30.out.grew hx); replace HU31 := hid (HU31.out.grew hx); replace HU32 := hid (HU32.out.grew hx); replace HU33 := hid (HU33.out.grew hx); have HU34 := hid hu34; clear hu34; clear hx)
            | (go_at_call 21; (with_reducible refine (H21r.out _ (grew_trans g0 hg) _ _ HU31.out HU32.out).mono ?_); rintro e w25 ⟨u35, rfl, hu35, hx⟩; replace hg := grew_trans hg hx; replace hc := (bcell hg).1; replace HT9 := hid (HT9.out.grew hx); replace HT11 := hid (HT11.out.grew hx); replace HU30 := hid (HU30.out.grew hx); replace HU31 := hid (HU31.out.grew hx); replace HU32 := hid (HU32.out.grew hx); replace HU33 := hid (HU33.out.grew hx); replace HU34 := hid (HU34.out.grew hx); obtain ⟨la, lc, hu35e⟩ := isWd_slice hu35; simp only [List.length_nil] at hu35e; subst hu35e; clear hu35; clear hx)
            | (go_at_call 23; (with_reducible refine (same_true _ _ Fx _ HU33.out.ints HT9.out.ints).mono ?_); rintro e w26 ⟨rfl, hx⟩; replace hg := grew_trans hg hx; replace hc := (bcell hg).1; replace HT9 := hid (HT9.out.grew hx); replace HT11 := hid (HT11.out.grew hx); replace HU30 := hid (HU30.out.grew hx); replace HU31 := hid (HU31.out.grew hx); replace HU32 := hid (HU32.out.grew hx); replace HU33 := hid (HU33.out.grew hx); replace HU34 := hid (HU34.out.grew hx);  clear hx)
            | (go_at_call 23; (with_reducible refine (same_true _ _ Fy _ HU34.out.ints HT11.out.ints).mono ?_); rintro e w27 ⟨rfl, hx⟩; replace hg := grew_trans hg hx; replace hc := (bcell hg).1; replace HT9 := hid (HT9.out.grew hx); replace HT11 := hid (HT11.out.grew hx); replace HU30 := hid (HU30.out.grew hx); replace HU31 := hid (HU31.out.grew hx); replace HU32 := hid (HU32.out.grew hx); replace HU33 := hid (HU33.out.grew hx); replace HU34 := hid (HU34.out.grew hx);  clear hx)
            | (go_at_call 24; (with_reducible refine (H24.out _ (grew_trans g0 hg)).mono ?_); rintro e w28 ⟨u36, rfl, hu36, hx⟩; replace hg := grew_trans hg hx; replace hc := (bcell hg).1; replace HT9 := hid (HT9.out.grew hx); replace HT11 := hid (HT11.out.grew hx); replace HU30 := hid (HU30.out.grew hx); replace HU31 := hid (HU31.out.grew hx); replace HU32 := hid (HU32.out.grew hx); replace HU33 := hid (HU33.out.grew hx); replace HU34 := hid (HU34.out.grew hx); have HU36 := hid hu36; clear hu36; clear hx)
            | (go_at_call 17; (with_reducible refine (HA.out _).mono ?_); rintro e w31 ⟨rfl, hx⟩; replace hg := grew_trans hg hx; replace hc := (bcell hg).1; clear hx))
          go_ret
          exact ⟨rfl, grew_trans g0 hg⟩
        · rw [e7] at H24
          clear e7 HGR
          go_wp2_with (first
            | (go_at_call 21; (with_reducible refine (H21.out _ (grew_trans g0 hg)).mono ?_); rintro e w20 ⟨u30, rfl, hu30, hx⟩; replace hg := grew_trans hg hx; replace hc := (bcell hg).1; replace HT9 := hid (HT9.out.grew hx); replace HT11 := hid (HT11.out.grew hx); have HU30 := hid hu30; clear hu30; clear hx)
            | (go_at_call 30; (with_reducible refine (H30x.out _ (grew_trans g0 hg) _ HU30.out).mono ?_); rintro e w21 ⟨u31, rfl, hu31, hx⟩; replace hg := grew_trans hg hx; replace hc := (bcell hg).1; replace HT9 := hid (HT9.out.grew hx); replace HT11 := hid (HT11.out.grew hx); replace HU30 := hid (HU30.out.grew hx); have HU31 := hid hu31; clear hu31; clear hx)
            | (go_at_call 30; (with_reducible refine (H30y.out _ (grew_trans g0 hg) _ HU30.out).mono ?_); rintro e w22 ⟨u32, rfl, hu32, hx⟩; replace hg := grew_trans hg hx; replace hc := (bcell hg).1; replace HT9 := hid (HT9.out.grew hx); replace HT11 := hid (HT11.out.grew hx); replace HU30 := hid (HU30.out.grew hx); replace HU31 := hid (HU31.out.grew hx); have HU32 := hid hu32; clear hu32; clear hx)
            | (go_at_call 26; (with_reducible refine (H26x.out _ (grew_trans g0 hg) _ _ HU30.out HU31.out).mono ?_); rintro e w23 ⟨u33, rfl, hu33, hx⟩; replace hg := grew_trans hg hx; replace hc := (bcell hg).1; replace HT9 := hid (HT9.out.grew hx); replace HT11 := hid (HT11.out.grew hx); replace HU30 := hid (HU30.out.grew hx); replace HU31 := hid (HU31.out.grew hx); replace HU32 := hid (HU32.out.grew hx); have HU33 := hid hu33; clear hu33; clear hx)
            | (go_at_call 26; (with_reducible refine (H26y.out _ (grew_trans g0 hg) _ _ HU30.out HU32.out).mono ?_); rintro e w24 ⟨u34, rfl, hu34, hx⟩; replace hg := grew_trans hg hx; replace hc := (bcell hg).1; replace HT9 := hid (HT9.out.grew hx); replace HT11 := hid (HT11.out.grew hx); replace HU30 := hid (HU30.out.grew hx); replace HU31 := hid (HU31.out.grew hx); replace HU32 := hid (HU32.out.grew hx); replace HU33 := hid (HU33.out.grew hx); have HU34 := hid hu34; clear hu34; clear hx)
            | (go_at_call 21; (with_reducible refine (H21r.out _ (grew_trans g0 hg) _ _ HU31.out HU32.out).mono ?_); rintro e w25 ⟨u35, rfl, hu35, hx⟩; replace hg := grew_trans hg hx; replace hc := (bcell hg).1; replace HT9 := hid (HT9.out.grew hx); replace HT11 := hid (HT11.out.grew hx); replace HU30 := hid (HU30.out.grew hx); replace HU31 := hid (HU31.out.grew hx); replace HU32 := hid (HU32.out.grew hx); replace HU33 := hid (HU33.out.grew hx); replace HU34 := hid (HU34.out.grew hx); obtain ⟨la, lc, hu35e⟩ := isWd_slice hu35; simp only [List.length_nil] at hu35e; subst hu35e; clear hu35; clear hx)
            | (go_at_call 23; (with_reducible refine (same_true _ _ Fx _ HU33.out.ints HT9.out.ints).mono ?_); rintro e w26 ⟨rfl, hx⟩; replace hg := grew_trans hg hx; replace hc := (bcell hg).1; replace HT9 := hid (HT9.out.grew hx); replace HT11 := hid (HT11.out.grew hx); replace HU30 := hid (HU30.out.grew hx); replace HU31 := hid (HU31.out.grew hx); replace HU32 := hid (HU32.out.grew hx); replace HU33 := hid (HU33.out.grew hx); replace HU34 := hid (HU34.out.grew hx);  clear hx)
            | (go_at_call 23; (with_reducible refine (same_true _ _ Fy _ HU34.out.ints HT11.out.ints).mono ?_); rintro e w27 ⟨rfl, hx⟩; replace hg := grew_trans hg hx; replace hc := (bcell hg).1; replace HT9 := hid (HT9.out.grew hx); replace HT11 := hid (HT11.out.grew hx); replace HU30 := hid (HU30.out.grew hx); replace HU31 := hid (HU31.out.grew hx); replace HU32 := hid (HU32.out.grew hx); replace HU33 := hid (HU33.out.grew hx); replace HU34 := hid (HU34.out.grew hx);  clear hx)
            | (go_at_call 24; (with_reducible refine (H24.out _ (grew_trans g0 hg)).mono ?_); rintro e w28 ⟨u36, rfl, hu36, hx⟩; replace hg := grew_trans hg hx; replace hc := (bcell hg).1; replace HT9 := hid (HT9.out.grew hx); replace HT11 := hid (HT11.out.grew hx); replace HU30 := hid (HU30.out.grew hx); replace HU31 := hid (HU31.out.grew hx); replace HU32 := hid (HU32.out.grew hx); replace HU33 := hid (HU33.out.grew hx); replace HU34 := hid (HU34.out.grew hx); have HU36 := hid hu36; clear hu36; clear hx)
            | (go_at_call 17; (with_reducible refine (HA.out _).mono ?_); rintro e w31 ⟨rfl, hx⟩; replace hg := grew_trans hg hx; replace hc := (bcell hg).1; clear hx))
          go_ret
          exact ⟨rfl, grew_trans g0 hg⟩
        · rw [e7] at H24
          rw [e8] at H26j
          clear e7 e8 HGR
          go_wp2_with (first
            | (go_at_call 21; (with_reducible refine (H21.out _ (grew_trans g0 hg)).mono ?_); rintro e w20 ⟨u30, rfl, hu30, hx⟩; replace hg := grew_trans hg hx; replace hc := (bcell hg).1; replace HT9 := hid (HT9.out.grew hx); replace HT11 := hid (HT11.out.grew hx); have HU30 := hid hu30; clear hu30; clear hx)
            | (go_at_call 30; (with_reducible refine (H30x.out _ (grew_trans g0 hg) _ HU30.out).mono ?_); rintro e w21 ⟨u31, rfl, hu31, hx⟩; replace hg := grew_trans hg hx; replace hc := (bcell hg).1; replace HT9 := hid (HT9.out.grew hx); replace HT11 := hid (HT11.out.grew hx); replace HU30 := hid (HU30.out.grew hx); have HU31 := hid hu31; clear hu31; clear hx)
            | (go_at_call 30; (with_reducible refine (H30y.out _ (grew_trans g0 hg) _ HU30.out).mono ?_); rintro e w22 ⟨u32, rfl, hu32, hx⟩; replace hg := grew_trans hg hx; replace hc := (bcell hg).1; replace HT9 := hid (HT9.out.grew hx); replace HT11 := hid (HT11.out.grew hx); replace HU30 := hid (HU30.out.grew hx); replace HU31 := hid (HU31.out.grew hx); have HU32 := hid hu32; clear hu32; clear hx)
            | (go_at_call 26; (with_reducible refine (H26x.out _ (grew_trans g0 hg) _ _ HU30.out HU31.out).mono ?_); rintro e w23 ⟨u33, rfl, hu33, hx⟩; replace hg := grew_trans hg hx; replace hc := (bcell hg).1; replace HT9 := hid (HT9.out.grew hx); replace HT11 := hid (HT11.out.grew hx); replace HU30 := hid (HU30.out.grew hx); replace HU31 := hid (HU31.out.grew hx); replace HU32 := hid (HU32.out.grew hx); have HU33 := hid hu33; clear hu33; clear hx)
            | (go_at_call 26; (with_reducible refine (H26y.out _ (grew_trans g0 hg) _ _ HU30.out HU32.out).mono ?_); rintro e w24 ⟨u34, rfl, hu34, hx⟩; replace hg := grew_trans hg hx; replace hc := (bcell hg).1; replace HT9 := hid (HT9.out.grew hx); replace HT11 := hid (HT11.out.grew hx); replace HU30 := hid (HU30.out.grew hx); replace HU31 := hid (HU31.out.grew hx); replace HU32 := hid (HU32.out.grew hx); replace HU33 := hid (HU33.out.grew hx); have HU34 := hid hu34; clear hu34; clear hx)
            | (go_at_call 21; (with_reducible refine (H21r.out _ (grew_trans g0 hg) _ _ HU31.out HU32.out).mono ?_); rintro e w25 ⟨u35, rfl, hu35, hx⟩; replace hg := grew_trans hg hx; replace hc := (bcell hg).1; replace HT9 := hid (HT9.out.grew hx); replace HT11 := hid (HT11.out.grew hx); replace HU30 := hid (HU30.out.grew hx); replace HU31 := hid (HU31.out.grew hx); replace HU32 := hid (HU32.out.grew hx); replace HU33 := hid (HU33.out.grew hx); replace HU34 := hid (HU34.out.grew hx); obtain ⟨la, lc, hu35e⟩ := isWd_slice hu35; simp only [List.length_nil] at hu35e; subst hu35e; clear hu35; clear hx)
            | (go_at_call 23; (with_reducible refine (same_true _ _ Fx _ HU33.out.ints HT9.out.ints).mono ?_); rintro e w26 ⟨rfl, hx⟩; replace hg := grew_trans hg hx; replace hc := (bcell hg).1; replace HT9 := hid (HT9.out.grew hx); replace HT11 := hid (HT11.out.grew hx); replace HU30 := hid (HU30.out.grew hx); replace HU31 := hid (HU31.out.grew hx); replace HU32 := hid (HU32.out.grew hx); replace HU33 := hid (HU33.out.grew hx); replace HU34 := hid (HU34.out.grew hx);  clear hx)
            | (go_at_call 23; (with_reducible refine (same_true _ _ Fy _ HU34.out.ints HT11.out.ints).mono ?_); rintro e w27 ⟨rfl, hx⟩; replace hg := grew_trans hg hx; replace hc := (bcell hg).1; replace HT9 := hid (HT9.out.grew hx); replace HT11 := hid (HT11.out.grew hx); replace HU30 := hid (HU30.out.grew hx); replace HU31 := hid (HU31.out.grew hx); replace HU32 := hid (HU32.out.grew hx); replace HU33 := hid (HU33.out.grew hx); replace HU34 := hid (HU34.out.grew hx);  clear hx)
            | (go_at_call 24; (with_reducible refine (H24.out _ (grew_trans g0 hg)).mono ?_); rintro e w28 ⟨u36, rfl, hu36, hx⟩; replace hg := grew_trans hg hx; replace hc := (bcell hg).1; replace HT9 := hid (HT9.out.grew hx); replace HT11 := hid (HT11.out.grew hx); replace HU30 := hid (HU30.out.grew hx); replace HU31 := hid (HU31.out.grew hx); replace HU32 := hid (HU32.out.grew hx); replace HU33 := hid (HU33.out.grew hx); replace HU34 := hid (HU34.out.grew hx); have HU36 := hid hu36; clear hu36; clear hx)
            | (go_at_call 26; (with_reducible refine (H26j.out _ (grew_trans g0 hg) _ _ HU33.out HU32.out).mono ?_); rintro e w29 ⟨u37, rfl, hu37, hx⟩; replace hg := grew_trans hg hx; replace hc := (bcell hg).1; replace HT9 := hid (HT9.out.grew hx); replace HT11 := hid (HT11.out.grew hx); replace HU30 := hid (HU30.out.grew hx); replace HU31 := hid (HU31.out.grew hx); replace HU32 := hid (HU32.out.grew hx); replace HU33 := hid (HU33.out.grew hx); replace HU34 := hid (HU34.out.grew hx); replace HU36 := hid (HU36.out.grew hx); have HU37 := hid hu37; clear hu37; clear hx)
            | (go_at_call 23; (with_reducible refine (same_true _ _ z _ HU37.out.ints HU36.out.ints).mono ?_); rintro e w30 ⟨rfl, hx⟩; replace hg := grew_trans hg hx; replace hc := (bcell hg).1;   clear hx)
            | (go_at_call 17; (with_reducible refine (HA.out _).mono ?_); rintro e w31 ⟨rfl, hx⟩; replace hg := grew_trans hg hx; replace hc := (bcell hg).1; clear hx))
          go_ret
          exact ⟨rfl, grew_trans g0 hg⟩
  · clear hV hbx hbw
    cases q <;> cases V <;> cases bx <;> cases bw
    all_goals first
     | exact absurd ⟨rfl, rfl, rfl, rfl⟩ hgood
     | (
      clear hgood
      go_enter Try.func15, Try.ntmps15
      go_wp2_with (first
  | (go_at_call 16; (with_reducible refine HL.out.mono ?_); rintro e w1 ⟨rfl, hx⟩; replace hg := grew_trans (grew_alloc (grew_refl W0) _) hx; have hc := (bcell hg).1; clear hx)
  | (go_at_call 38; (with_reducible refine (H38.out _ (grew_trans g0 hg)).mono ?_); rintro e w2 ⟨rfl, hx⟩; replace hg := grew_trans hg hx; replace hc := (bcell hg).1; clear hx)
  | (go_at_call 53; (with_reducible refine (H53x.out _ (grew_trans g0 hg)).mono ?_); rintro e w3 ⟨rfl, hx⟩; replace hg := grew_trans hg hx; replace hc := (bcell hg).1; clear hx)
  | (go_at_call 53; (with_reducible refine (H53y.out _ (grew_trans g0 hg)).mono ?_); rintro e w4 ⟨rfl, hx⟩; replace hg := grew_trans hg hx; replace hc := (bcell hg).1; clear hx)
  | (go_at_call 17; (with_reducible refine (HA.out _).mono ?_); rintro e w9 ⟨rfl, hx⟩; replace hg := grew_trans hg hx; replace hc := (bcell hg).1; clear hx))
      go_ret
      exact ⟨rfl, grew_trans g0 hg⟩)
end Go.Proofs.Ytddnpooffcjhnaa
