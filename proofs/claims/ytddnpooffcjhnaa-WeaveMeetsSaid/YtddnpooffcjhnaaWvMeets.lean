/- The law WeaveMeets: what two words have in common is the greatest word that begins both; the word that both begin is the least. -/
import Derived.Test.YtddnpooffcjhnaaWvMeetP
import Derived.Test.YtddnpooffcjhnaaWvBegP
import Derived.Test.YtddnpooffcjhnaaWvBoth
namespace Go.Proofs.Ytddnpooffcjhnaa
open Go.RowKit Go.Lin Go.Lin.Wv

/-- The law's own begins. -/
abbrev AnsP (v : Value) (w : World) (la lb : List Int) (r : Bool) : Prop :=
  ∀ W, Grew w W → ∀ a b, IsWd W a la → IsWd W b lb → Calls Try.prog 34 #[v, a, b] W fun e w' => e = .returned (.bool r) ∧ Grew W w'

set_option maxHeartbeats 4000000 in
theorem ansP34 {v : Value} {L : Lt} {w : World} (hn : L.n ≤ 9223372036854775807) (hv : IsLt w v L) {la lb : List Int} {r : Bool} (h : beginsM L la lb = (r, 0)) : AnsP v w la lb r := by
  intro W hW a b ha hb
  have h28 := ansb28 hn hv h
  have HV := hid hv
  obtain ⟨s, rfl, -⟩ := hv
  obtain ⟨W0, hW0, g0, k0, k1, hz⟩ := box2 W (.int .i64 L.n) s 24
  have H28 := hid (h28 W0 (grew_trans hW g0) a b (ha.grew g0) (hb.grew g0))
  clear h28 h
  cases r
  · go_enter Try.func34, Try.ntmps34
    go_wp2_with (first
      | (go_at_call 28; (with_reducible refine H28.out.mono ?_); rintro e w2 ⟨rfl, hx⟩))
    go_ret
    exact ⟨rfl, grew_trans g0 hx⟩
  · go_enter Try.func34, Try.ntmps34
    go_wp2_with (first
      | (go_at_call 28; (with_reducible refine H28.out.mono ?_); rintro e w2 ⟨rfl, hx⟩))
    go_ret
    exact ⟨rfl, grew_trans g0 hx⟩

theorem ans21 {v : Value} {L : Lt} {w : World} (hn : L.n ≤ 9223372036854775807) (hv : IsLt w v L) {la lb : List Int} {r : List Int × Int} (h : commonM L la lb = r) : Ans2 21 v w la lb r := fun W hW a b ha hb => by subst h; exact common21_any v L a b la lb W hn (hv.grew hW) ha hb
theorem ans24 {v : Value} {L : Lt} {w : World} (hn : L.n ≤ 9223372036854775807) (hv : IsLt w v L) {la lb : List Int} {r : List Int × Int} (h : bothM L la lb = r) : Ans2 24 v w la lb r := fun W hW a b ha hb => by subst h; exact both24_any v L a b la lb W hn (hv.grew hW) ha hb

/-- What is said of a and b, one behind the other. -/
theorem two_says {a b : Bool} : a = false ∨ (a = true ∧ b = false) ∨ (a = true ∧ b = true) := by cases a <;> cases b <;> simp

set_option maxHeartbeats 64000000 in
set_option maxRecDepth 20000 in
theorem weaveMeets_law (L : Lt) (x y o : List Int) (v uv wv tv : Value) (w : World) (hn : L.n ≤ 9223372036854775807) (hv : IsLt w v L) (hx : IsWd w uv x) (hy : IsWd w wv y) (ho : IsWd w tv o) :
    Calls Try.prog 7 #[v, uv, wv, tv] w fun e w' => e = .returned (.bool true) ∧ Grew w w' := by
  obtain ⟨ua, uc, rfl⟩ := isWd_slice hx
  obtain ⟨xa, xc, rfl⟩ := isWd_slice hy
  obtain ⟨ya, yc, rfl⟩ := isWd_slice ho
  have HV := hid hv
  obtain ⟨s, rfl, -⟩ := hv
  obtain ⟨W0, hW0, g0, k0, k1, hz⟩ := box2 w (.int .i64 L.n) s 24
  have hvp := validP_any _ L _ [x, y, o] (W0.alloc (.cells #[.slice ua x.length uc, .slice xa y.length xc, .slice ya o.length yc] 25)) ((HV.out.grew g0).grew (grew_alloc (grew_refl _) _)) (rows_three (hx.grew g0).ints (hy.grew g0).ints (ho.grew g0).ints 25)
  have HA := hid (fun (W : World) => awake_any W)
  have HSI := hid (fun (a b : Value) (l : List Int) (W : World) (ha : IsInts Any W a l) (hb : IsInts Any W b l) => same_true a b l W ha hb)
  obtain ⟨p, hp⟩ : ∃ p, validM L [x, y, o] = p := ⟨_, rfl⟩
  rw [hp] at hvp
  have HVP := hid hvp
  have HX := hid hx; have HY := hid hy; have HO := hid ho
  have hg := grew_refl W0
  clear hvp hx hy ho
  cases p with
  | false =>
    clear hp
    go_enter Try.func7, Try.ntmps7
    go_wp2_with (first
      | (go_at_call 32; (with_reducible refine HVP.out.mono ?_); rintro e w2 ⟨rfl, hx⟩; replace hg := grew_trans (grew_alloc (grew_refl W0) _) hx; have hc := (bcell hg).1; clear hx)
      | (go_at_call 17; (with_reducible refine (HA.out _).mono ?_); rintro e w2 ⟨rfl, hx⟩; replace hg := grew_trans hg hx; replace hc := (bcell hg).1; clear hx))
    go_ret
    exact ⟨rfl, grew_trans g0 hg⟩
  | true =>
    obtain ⟨N, hN, hN1, hN6, hall⟩ := validM_spec hp
    have gx : GoodW N x := let ⟨_, h1, h2⟩ := hall x (by simp); ⟨h1, h2⟩
    have gy : GoodW N y := let ⟨_, h1, h2⟩ := hall y (by simp); ⟨h1, h2⟩
    have go : GoodW N o := let ⟨_, h1, h2⟩ := hall o (by simp); ⟨h1, h2⟩
    have hvl : valid L = true := by unfold validM at hp; simp only [Bool.and_eq_true] at hp; exact hp.1.2
    obtain ⟨c, ⟨bl, be⟩, gc, e1, e2, pcx, pcy, poc, e3, e4, hcase⟩ := meets_all hN hvl gx gy go
    have C21a := hid (ans21 hn HV.out e1)
    have C21b := hid (ans21 hn HV.out e2)
    have C24a := hid (ans24 hn HV.out e3)
    have C24b := hid (ans24 hn HV.out e4)
    have sayT : ∀ {u z : List Int}, GoodW N u → GoodW N z → Pre (dep L) u z → AnsP _ w u z true := fun gu gz h => ansP34 hn HV.out (by rw [(begins_pre hN hvl gu gz).1, (begins_pre hN hvl gu gz).2.2 h])
    have say : ∀ {u z : List Int}, GoodW N u → GoodW N z → ∀ r, (rest (dep L) u z).isSome = r → AnsP _ w u z r := fun gu gz r h => ansP34 hn HV.out (by rw [(begins_pre hN hvl gu gz).1, h])
    have Pcx := hid (sayT gc gx pcx)
    have Pcy := hid (sayT gc gy pcy)
    have pre : ∀ {u z : List Int}, GoodW N u → GoodW N z → (rest (dep L) u z).isSome = true → Pre (dep L) u z := fun gu gz h => (begins_pre hN hvl gu gz).2.1 h
    have hxl := gx.len; have hyl := gy.len; have hcl := gc.len
    have hwr : IntKind.i64.wrap ((x.length : Int) + (y.length : Int)) = (x.length : Int) + (y.length : Int) := IntWalk.i64_in _ (by omega)
    have hwr2 : IntKind.i64.wrap ((x.length : Int) + (y.length : Int) - (c.length : Int)) = (x.length : Int) + (y.length : Int) - (c.length : Int) := IntWalk.i64_in _ (by omega)
    obtain ⟨b1, hb1⟩ : ∃ r, (rest (dep L) o x).isSome = r := ⟨_, rfl⟩
    obtain ⟨b2, hb2⟩ : ∃ r, (rest (dep L) o y).isSome = r := ⟨_, rfl⟩
    obtain ⟨d1, hd1⟩ : ∃ r, (rest (dep L) x o).isSome = r := ⟨_, rfl⟩
    obtain ⟨d2, hd2⟩ : ∃ r, (rest (dep L) y o).isSome = r := ⟨_, rfl⟩
    have Pox := hid (say go gx _ hb1)
    have Poy := hid (say go gy _ hb2)
    have Pxo := hid (say gx go _ hd1)
    have Pyo := hid (say gy go _ hd2)
    have hoc : b1 = true → b2 = true → AnsP _ w o c true := fun h1 h2 => sayT go gc (poc (pre go gx (hb1.trans h1)) (pre go gy (hb2.trans h2)))
    have habove : d1 = true → d2 = true → Pre (dep L) x o ∧ Pre (dep L) y o := fun h1 h2 => ⟨pre gx go (hd1.trans h1), pre gy go (hd2.trans h2)⟩
    clear poc e1 e2 e3 e4 pcx pcy hb1 hb2 hd1 hd2 say hall hp
    have hbs := two_says (a := b1) (b := b2)
    have hds := two_says (a := d1) (b := d2)
    rcases hcase with ⟨h5, h1, hno⟩ | ⟨h5, h1, hlen, hno⟩ | ⟨h5, gb, hlen, pxb, pyb, pbo⟩
    · simp only at h5 h1
      subst h5
      clear h1
      clear sayT hN pre
      rcases hbs with rfl | ⟨rfl, rfl⟩ | ⟨rfl, rfl⟩ <;> rcases hds with rfl | ⟨rfl, rfl⟩ | ⟨rfl, rfl⟩ <;> (try exact absurd (habove rfl rfl) hno) <;> (try have Poc := hid (hoc rfl rfl)) <;> clear hoc habove hno
      all_goals
        go_enter Try.func7, Try.ntmps7
        go_wp2_with (first
      | (go_at_call 32; (with_reducible refine HVP.out.mono ?_); rintro e w2 ⟨rfl, hx⟩; replace hg := grew_trans (grew_alloc (grew_refl W0) _) hx; have hc := (bcell hg).1; clear hx)
      | (go_at_call 17; (with_reducible refine (HA.out _).mono ?_); rintro e w2 ⟨rfl, hx⟩; (try replace HC := hid (HC.out.grew hx)); (try replace HC2 := hid (HC2.out.grew hx)); (try replace HB := hid (HB.out.grew hx)); (try replace HB2 := hid (HB2.out.grew hx)); replace hg := grew_trans hg hx; replace hc := (bcell hg).1; clear hx)
      | (go_at_call 21; (with_reducible refine (C21a.out _ (grew_trans g0 hg) _ _ (HX.out.grew (grew_trans g0 hg)) (HY.out.grew (grew_trans g0 hg))).mono ?_); rintro e w2 ⟨u2, rfl, hres, hx⟩; (try replace HC := hid (HC.out.grew hx)); (try replace HC2 := hid (HC2.out.grew hx)); (try replace HB := hid (HB.out.grew hx)); (try replace HB2 := hid (HB2.out.grew hx)); replace hg := grew_trans hg hx; replace hc := (bcell hg).1; obtain ⟨qca, qcc, rfl⟩ := isWd_slice hres; have HC := hid hres; clear hx hres)
      | (go_at_call 21; (with_reducible refine (C21b.out _ (grew_trans g0 hg) _ _ (HY.out.grew (grew_trans g0 hg)) (HX.out.grew (grew_trans g0 hg))).mono ?_); rintro e w2 ⟨u2, rfl, hres, hx⟩; (try replace HC := hid (HC.out.grew hx)); (try replace HC2 := hid (HC2.out.grew hx)); (try replace HB := hid (HB.out.grew hx)); (try replace HB2 := hid (HB2.out.grew hx)); replace hg := grew_trans hg hx; replace hc := (bcell hg).1; obtain ⟨qda, qdc, rfl⟩ := isWd_slice hres; have HC2 := hid hres; clear hx hres)
      | (go_at_call 24; (with_reducible refine (C24a.out _ (grew_trans g0 hg) _ _ (HX.out.grew (grew_trans g0 hg)) (HY.out.grew (grew_trans g0 hg))).mono ?_); rintro e w2 ⟨u2, rfl, hres, hx⟩; (try replace HC := hid (HC.out.grew hx)); (try replace HC2 := hid (HC2.out.grew hx)); (try replace HB := hid (HB.out.grew hx)); (try replace HB2 := hid (HB2.out.grew hx)); replace hg := grew_trans hg hx; replace hc := (bcell hg).1; obtain ⟨qea, qec, rfl⟩ := isWd_slice hres; have HB := hid hres; clear hx hres)
      | (go_at_call 24; (with_reducible refine (C24b.out _ (grew_trans g0 hg) _ _ (HY.out.grew (grew_trans g0 hg)) (HX.out.grew (grew_trans g0 hg))).mono ?_); rintro e w2 ⟨u2, rfl, hres, hx⟩; (try replace HC := hid (HC.out.grew hx)); (try replace HC2 := hid (HC2.out.grew hx)); (try replace HB := hid (HB.out.grew hx)); (try replace HB2 := hid (HB2.out.grew hx)); replace hg := grew_trans hg hx; replace hc := (bcell hg).1; obtain ⟨qfa, qfc, rfl⟩ := isWd_slice hres; have HB2 := hid hres; clear hx hres)
      | (go_at_call 34; (with_reducible refine (Pcx.out _ (grew_trans g0 hg) _ _ HC.out (HX.out.grew (grew_trans g0 hg))).mono ?_); rintro e w2 ⟨rfl, hx⟩; (try replace HC := hid (HC.out.grew hx)); (try replace HC2 := hid (HC2.out.grew hx)); (try replace HB := hid (HB.out.grew hx)); (try replace HB2 := hid (HB2.out.grew hx)); replace hg := grew_trans hg hx; replace hc := (bcell hg).1; clear hx)
      | (go_at_call 34; (with_reducible refine (Pcy.out _ (grew_trans g0 hg) _ _ HC.out (HY.out.grew (grew_trans g0 hg))).mono ?_); rintro e w2 ⟨rfl, hx⟩; (try replace HC := hid (HC.out.grew hx)); (try replace HC2 := hid (HC2.out.grew hx)); (try replace HB := hid (HB.out.grew hx)); (try replace HB2 := hid (HB2.out.grew hx)); replace hg := grew_trans hg hx; replace hc := (bcell hg).1; clear hx)
      | (go_at_call 34; (with_reducible refine (Pox.out _ (grew_trans g0 hg) _ _ (HO.out.grew (grew_trans g0 hg)) (HX.out.grew (grew_trans g0 hg))).mono ?_); rintro e w2 ⟨rfl, hx⟩; (try replace HC := hid (HC.out.grew hx)); (try replace HC2 := hid (HC2.out.grew hx)); (try replace HB := hid (HB.out.grew hx)); (try replace HB2 := hid (HB2.out.grew hx)); replace hg := grew_trans hg hx; replace hc := (bcell hg).1; clear hx)
      | (go_at_call 34; (with_reducible refine (Poy.out _ (grew_trans g0 hg) _ _ (HO.out.grew (grew_trans g0 hg)) (HY.out.grew (grew_trans g0 hg))).mono ?_); rintro e w2 ⟨rfl, hx⟩; (try replace HC := hid (HC.out.grew hx)); (try replace HC2 := hid (HC2.out.grew hx)); (try replace HB := hid (HB.out.grew hx)); (try replace HB2 := hid (HB2.out.grew hx)); replace hg := grew_trans hg hx; replace hc := (bcell hg).1; clear hx)
      | (go_at_call 34; (with_reducible refine (Poc.out _ (grew_trans g0 hg) _ _ (HO.out.grew (grew_trans g0 hg)) HC.out).mono ?_); rintro e w2 ⟨rfl, hx⟩; (try replace HC := hid (HC.out.grew hx)); (try replace HC2 := hid (HC2.out.grew hx)); (try replace HB := hid (HB.out.grew hx)); (try replace HB2 := hid (HB2.out.grew hx)); replace hg := grew_trans hg hx; replace hc := (bcell hg).1; clear hx)
      | (go_at_call 34; (with_reducible refine (Pxo.out _ (grew_trans g0 hg) _ _ (HX.out.grew (grew_trans g0 hg)) (HO.out.grew (grew_trans g0 hg))).mono ?_); rintro e w2 ⟨rfl, hx⟩; (try replace HC := hid (HC.out.grew hx)); (try replace HC2 := hid (HC2.out.grew hx)); (try replace HB := hid (HB.out.grew hx)); (try replace HB2 := hid (HB2.out.grew hx)); replace hg := grew_trans hg hx; replace hc := (bcell hg).1; clear hx)
      | (go_at_call 34; (with_reducible refine (Pyo.out _ (grew_trans g0 hg) _ _ (HY.out.grew (grew_trans g0 hg)) (HO.out.grew (grew_trans g0 hg))).mono ?_); rintro e w2 ⟨rfl, hx⟩; (try replace HC := hid (HC.out.grew hx)); (try replace HC2 := hid (HC2.out.grew hx)); (try replace HB := hid (HB.out.grew hx)); (try replace HB2 := hid (HB2.out.grew hx)); replace hg := grew_trans hg hx; replace hc := (bcell hg).1; clear hx)
      | (go_at_call 34; (with_reducible refine (Pxb.out _ (grew_trans g0 hg) _ _ (HX.out.grew (grew_trans g0 hg)) HB.out).mono ?_); rintro e w2 ⟨rfl, hx⟩; (try replace HC := hid (HC.out.grew hx)); (try replace HC2 := hid (HC2.out.grew hx)); (try replace HB := hid (HB.out.grew hx)); (try replace HB2 := hid (HB2.out.grew hx)); replace hg := grew_trans hg hx; replace hc := (bcell hg).1; clear hx)
      | (go_at_call 34; (with_reducible refine (Pyb.out _ (grew_trans g0 hg) _ _ (HY.out.grew (grew_trans g0 hg)) HB.out).mono ?_); rintro e w2 ⟨rfl, hx⟩; (try replace HC := hid (HC.out.grew hx)); (try replace HC2 := hid (HC2.out.grew hx)); (try replace HB := hid (HB.out.grew hx)); (try replace HB2 := hid (HB2.out.grew hx)); replace hg := grew_trans hg hx; replace hc := (bcell hg).1; clear hx)
      | (go_at_call 34; (with_reducible refine (Pbo.out _ (grew_trans g0 hg) _ _ HB.out (HO.out.grew (grew_trans g0 hg))).mono ?_); rintro e w2 ⟨rfl, hx⟩; (try replace HC := hid (HC.out.grew hx)); (try replace HC2 := hid (HC2.out.grew hx)); (try replace HB := hid (HB.out.grew hx)); (try replace HB2 := hid (HB2.out.grew hx)); replace hg := grew_trans hg hx; replace hc := (bcell hg).1; clear hx)
      | (go_at_call 23; (with_reducible refine (HSI.out _ _ _ _ HC.out.ints HC2.out.ints).mono ?_); rintro e w2 ⟨rfl, hx⟩; (try replace HC := hid (HC.out.grew hx)); (try replace HC2 := hid (HC2.out.grew hx)); (try replace HB := hid (HB.out.grew hx)); (try replace HB2 := hid (HB2.out.grew hx)); replace hg := grew_trans hg hx; replace hc := (bcell hg).1; clear hx)
      | (go_at_call 23; (with_reducible refine (HSI.out _ _ _ _ HB.out.ints HB2.out.ints).mono ?_); rintro e w2 ⟨rfl, hx⟩; (try replace HC := hid (HC.out.grew hx)); (try replace HC2 := hid (HC2.out.grew hx)); (try replace HB := hid (HB.out.grew hx)); (try replace HB2 := hid (HB2.out.grew hx)); replace hg := grew_trans hg hx; replace hc := (bcell hg).1; clear hx))
        go_ret
        exact ⟨rfl, grew_trans g0 hg⟩
    · simp only at h5 h1
      subst h5
      clear h1
      have hgt : (10 : Int) < (x.length : Int) + (y.length : Int) - (c.length : Int) := by omega
      clear sayT hN pre hlen
      rcases hbs with rfl | ⟨rfl, rfl⟩ | ⟨rfl, rfl⟩ <;> rcases hds with rfl | ⟨rfl, rfl⟩ | ⟨rfl, rfl⟩ <;> (try exact absurd (habove rfl rfl) hno) <;> (try have Poc := hid (hoc rfl rfl)) <;> clear hoc habove hno
      all_goals
        go_enter Try.func7, Try.ntmps7
        go_wp2_with (first
      | (go_at_call 32; (with_reducible refine HVP.out.mono ?_); rintro e w2 ⟨rfl, hx⟩; replace hg := grew_trans (grew_alloc (grew_refl W0) _) hx; have hc := (bcell hg).1; clear hx)
      | (go_at_call 17; (with_reducible refine (HA.out _).mono ?_); rintro e w2 ⟨rfl, hx⟩; (try replace HC := hid (HC.out.grew hx)); (try replace HC2 := hid (HC2.out.grew hx)); (try replace HB := hid (HB.out.grew hx)); (try replace HB2 := hid (HB2.out.grew hx)); replace hg := grew_trans hg hx; replace hc := (bcell hg).1; clear hx)
      | (go_at_call 21; (with_reducible refine (C21a.out _ (grew_trans g0 hg) _ _ (HX.out.grew (grew_trans g0 hg)) (HY.out.grew (grew_trans g0 hg))).mono ?_); rintro e w2 ⟨u2, rfl, hres, hx⟩; (try replace HC := hid (HC.out.grew hx)); (try replace HC2 := hid (HC2.out.grew hx)); (try replace HB := hid (HB.out.grew hx)); (try replace HB2 := hid (HB2.out.grew hx)); replace hg := grew_trans hg hx; replace hc := (bcell hg).1; obtain ⟨qca, qcc, rfl⟩ := isWd_slice hres; have HC := hid hres; clear hx hres)
      | (go_at_call 21; (with_reducible refine (C21b.out _ (grew_trans g0 hg) _ _ (HY.out.grew (grew_trans g0 hg)) (HX.out.grew (grew_trans g0 hg))).mono ?_); rintro e w2 ⟨u2, rfl, hres, hx⟩; (try replace HC := hid (HC.out.grew hx)); (try replace HC2 := hid (HC2.out.grew hx)); (try replace HB := hid (HB.out.grew hx)); (try replace HB2 := hid (HB2.out.grew hx)); replace hg := grew_trans hg hx; replace hc := (bcell hg).1; obtain ⟨qda, qdc, rfl⟩ := isWd_slice hres; have HC2 := hid hres; clear hx hres)
      | (go_at_call 24; (with_reducible refine (C24a.out _ (grew_trans g0 hg) _ _ (HX.out.grew (grew_trans g0 hg)) (HY.out.grew (grew_trans g0 hg))).mono ?_); rintro e w2 ⟨u2, rfl, hres, hx⟩; (try replace HC := hid (HC.out.grew hx)); (try replace HC2 := hid (HC2.out.grew hx)); (try replace HB := hid (HB.out.grew hx)); (try replace HB2 := hid (HB2.out.grew hx)); replace hg := grew_trans hg hx; replace hc := (bcell hg).1; obtain ⟨qea, qec, rfl⟩ := isWd_slice hres; have HB := hid hres; clear hx hres)
      | (go_at_call 24; (with_reducible refine (C24b.out _ (grew_trans g0 hg) _ _ (HY.out.grew (grew_trans g0 hg)) (HX.out.grew (grew_trans g0 hg))).mono ?_); rintro e w2 ⟨u2, rfl, hres, hx⟩; (try replace HC := hid (HC.out.grew hx)); (try replace HC2 := hid (HC2.out.grew hx)); (try replace HB := hid (HB.out.grew hx)); (try replace HB2 := hid (HB2.out.grew hx)); replace hg := grew_trans hg hx; replace hc := (bcell hg).1; obtain ⟨qfa, qfc, rfl⟩ := isWd_slice hres; have HB2 := hid hres; clear hx hres)
      | (go_at_call 34; (with_reducible refine (Pcx.out _ (grew_trans g0 hg) _ _ HC.out (HX.out.grew (grew_trans g0 hg))).mono ?_); rintro e w2 ⟨rfl, hx⟩; (try replace HC := hid (HC.out.grew hx)); (try replace HC2 := hid (HC2.out.grew hx)); (try replace HB := hid (HB.out.grew hx)); (try replace HB2 := hid (HB2.out.grew hx)); replace hg := grew_trans hg hx; replace hc := (bcell hg).1; clear hx)
      | (go_at_call 34; (with_reducible refine (Pcy.out _ (grew_trans g0 hg) _ _ HC.out (HY.out.grew (grew_trans g0 hg))).mono ?_); rintro e w2 ⟨rfl, hx⟩; (try replace HC := hid (HC.out.grew hx)); (try replace HC2 := hid (HC2.out.grew hx)); (try replace HB := hid (HB.out.grew hx)); (try replace HB2 := hid (HB2.out.grew hx)); replace hg := grew_trans hg hx; replace hc := (bcell hg).1; clear hx)
      | (go_at_call 34; (with_reducible refine (Pox.out _ (grew_trans g0 hg) _ _ (HO.out.grew (grew_trans g0 hg)) (HX.out.grew (grew_trans g0 hg))).mono ?_); rintro e w2 ⟨rfl, hx⟩; (try replace HC := hid (HC.out.grew hx)); (try replace HC2 := hid (HC2.out.grew hx)); (try replace HB := hid (HB.out.grew hx)); (try replace HB2 := hid (HB2.out.grew hx)); replace hg := grew_trans hg hx; replace hc := (bcell hg).1; clear hx)
      | (go_at_call 34; (with_reducible refine (Poy.out _ (grew_trans g0 hg) _ _ (HO.out.grew (grew_trans g0 hg)) (HY.out.grew (grew_trans g0 hg))).mono ?_); rintro e w2 ⟨rfl, hx⟩; (try replace HC := hid (HC.out.grew hx)); (try replace HC2 := hid (HC2.out.grew hx)); (try replace HB := hid (HB.out.grew hx)); (try replace HB2 := hid (HB2.out.grew hx)); replace hg := grew_trans hg hx; replace hc := (bcell hg).1; clear hx)
      | (go_at_call 34; (with_reducible refine (Poc.out _ (grew_trans g0 hg) _ _ (HO.out.grew (grew_trans g0 hg)) HC.out).mono ?_); rintro e w2 ⟨rfl, hx⟩; (try replace HC := hid (HC.out.grew hx)); (try replace HC2 := hid (HC2.out.grew hx)); (try replace HB := hid (HB.out.grew hx)); (try replace HB2 := hid (HB2.out.grew hx)); replace hg := grew_trans hg hx; replace hc := (bcell hg).1; clear hx)
      | (go_at_call 34; (with_reducible refine (Pxo.out _ (grew_trans g0 hg) _ _ (HX.out.grew (grew_trans g0 hg)) (HO.out.grew (grew_trans g0 hg))).mono ?_); rintro e w2 ⟨rfl, hx⟩; (try replace HC := hid (HC.out.grew hx)); (try replace HC2 := hid (HC2.out.grew hx)); (try replace HB := hid (HB.out.grew hx)); (try replace HB2 := hid (HB2.out.grew hx)); replace hg := grew_trans hg hx; replace hc := (bcell hg).1; clear hx)
      | (go_at_call 34; (with_reducible refine (Pyo.out _ (grew_trans g0 hg) _ _ (HY.out.grew (grew_trans g0 hg)) (HO.out.grew (grew_trans g0 hg))).mono ?_); rintro e w2 ⟨rfl, hx⟩; (try replace HC := hid (HC.out.grew hx)); (try replace HC2 := hid (HC2.out.grew hx)); (try replace HB := hid (HB.out.grew hx)); (try replace HB2 := hid (HB2.out.grew hx)); replace hg := grew_trans hg hx; replace hc := (bcell hg).1; clear hx)
      | (go_at_call 34; (with_reducible refine (Pxb.out _ (grew_trans g0 hg) _ _ (HX.out.grew (grew_trans g0 hg)) HB.out).mono ?_); rintro e w2 ⟨rfl, hx⟩; (try replace HC := hid (HC.out.grew hx)); (try replace HC2 := hid (HC2.out.grew hx)); (try replace HB := hid (HB.out.grew hx)); (try replace HB2 := hid (HB2.out.grew hx)); replace hg := grew_trans hg hx; replace hc := (bcell hg).1; clear hx)
      | (go_at_call 34; (with_reducible refine (Pyb.out _ (grew_trans g0 hg) _ _ (HY.out.grew (grew_trans g0 hg)) HB.out).mono ?_); rintro e w2 ⟨rfl, hx⟩; (try replace HC := hid (HC.out.grew hx)); (try replace HC2 := hid (HC2.out.grew hx)); (try replace HB := hid (HB.out.grew hx)); (try replace HB2 := hid (HB2.out.grew hx)); replace hg := grew_trans hg hx; replace hc := (bcell hg).1; clear hx)
      | (go_at_call 34; (with_reducible refine (Pbo.out _ (grew_trans g0 hg) _ _ HB.out (HO.out.grew (grew_trans g0 hg))).mono ?_); rintro e w2 ⟨rfl, hx⟩; (try replace HC := hid (HC.out.grew hx)); (try replace HC2 := hid (HC2.out.grew hx)); (try replace HB := hid (HB.out.grew hx)); (try replace HB2 := hid (HB2.out.grew hx)); replace hg := grew_trans hg hx; replace hc := (bcell hg).1; clear hx)
      | (go_at_call 23; (with_reducible refine (HSI.out _ _ _ _ HC.out.ints HC2.out.ints).mono ?_); rintro e w2 ⟨rfl, hx⟩; (try replace HC := hid (HC.out.grew hx)); (try replace HC2 := hid (HC2.out.grew hx)); (try replace HB := hid (HB.out.grew hx)); (try replace HB2 := hid (HB2.out.grew hx)); replace hg := grew_trans hg hx; replace hc := (bcell hg).1; clear hx)
      | (go_at_call 23; (with_reducible refine (HSI.out _ _ _ _ HB.out.ints HB2.out.ints).mono ?_); rintro e w2 ⟨rfl, hx⟩; (try replace HC := hid (HC.out.grew hx)); (try replace HC2 := hid (HC2.out.grew hx)); (try replace HB := hid (HB.out.grew hx)); (try replace HB2 := hid (HB2.out.grew hx)); replace hg := grew_trans hg hx; replace hc := (bcell hg).1; clear hx))
        go_ret
        exact ⟨rfl, grew_trans g0 hg⟩
    · simp only at h5 gb hlen pxb pyb pbo
      subst h5
      have hcb : (c.length : Int) + (bl.length : Int) = (x.length : Int) + (y.length : Int) := by omega
      have Pxb := hid (sayT gx gb pxb)
      have Pyb := hid (sayT gy gb pyb)
      have hbo : d1 = true → d2 = true → AnsP _ w bl o true := fun h1 h2 => sayT gb go (pbo (habove h1 h2).1 (habove h1 h2).2)
      clear sayT hN pre hlen pxb pyb pbo habove
      rcases hbs with rfl | ⟨rfl, rfl⟩ | ⟨rfl, rfl⟩ <;> rcases hds with rfl | ⟨rfl, rfl⟩ | ⟨rfl, rfl⟩ <;> (try have Poc := hid (hoc rfl rfl)) <;> (try have Pbo := hid (hbo rfl rfl)) <;> clear hoc hbo
      all_goals
        go_enter Try.func7, Try.ntmps7
        go_wp2_with (first
      | (go_at_call 32; (with_reducible refine HVP.out.mono ?_); rintro e w2 ⟨rfl, hx⟩; replace hg := grew_trans (grew_alloc (grew_refl W0) _) hx; have hc := (bcell hg).1; clear hx)
      | (go_at_call 17; (with_reducible refine (HA.out _).mono ?_); rintro e w2 ⟨rfl, hx⟩; (try replace HC := hid (HC.out.grew hx)); (try replace HC2 := hid (HC2.out.grew hx)); (try replace HB := hid (HB.out.grew hx)); (try replace HB2 := hid (HB2.out.grew hx)); replace hg := grew_trans hg hx; replace hc := (bcell hg).1; clear hx)
      | (go_at_call 21; (with_reducible refine (C21a.out _ (grew_trans g0 hg) _ _ (HX.out.grew (grew_trans g0 hg)) (HY.out.grew (grew_trans g0 hg))).mono ?_); rintro e w2 ⟨u2, rfl, hres, hx⟩; (try replace HC := hid (HC.out.grew hx)); (try replace HC2 := hid (HC2.out.grew hx)); (try replace HB := hid (HB.out.grew hx)); (try replace HB2 := hid (HB2.out.grew hx)); replace hg := grew_trans hg hx; replace hc := (bcell hg).1; obtain ⟨qca, qcc, rfl⟩ := isWd_slice hres; have HC := hid hres; clear hx hres)
      | (go_at_call 21; (with_reducible refine (C21b.out _ (grew_trans g0 hg) _ _ (HY.out.grew (grew_trans g0 hg)) (HX.out.grew (grew_trans g0 hg))).mono ?_); rintro e w2 ⟨u2, rfl, hres, hx⟩; (try replace HC := hid (HC.out.grew hx)); (try replace HC2 := hid (HC2.out.grew hx)); (try replace HB := hid (HB.out.grew hx)); (try replace HB2 := hid (HB2.out.grew hx)); replace hg := grew_trans hg hx; replace hc := (bcell hg).1; obtain ⟨qda, qdc, rfl⟩ := isWd_slice hres; have HC2 := hid hres; clear hx hres)
      | (go_at_call 24; (with_reducible refine (C24a.out _ (grew_trans g0 hg) _ _ (HX.out.grew (grew_trans g0 hg)) (HY.out.grew (grew_trans g0 hg))).mono ?_); rintro e w2 ⟨u2, rfl, hres, hx⟩; (try replace HC := hid (HC.out.grew hx)); (try replace HC2 := hid (HC2.out.grew hx)); (try replace HB := hid (HB.out.grew hx)); (try replace HB2 := hid (HB2.out.grew hx)); replace hg := grew_trans hg hx; replace hc := (bcell hg).1; obtain ⟨qea, qec, rfl⟩ := isWd_slice hres; have HB := hid hres; clear hx hres)
      | (go_at_call 24; (with_reducible refine (C24b.out _ (grew_trans g0 hg) _ _ (HY.out.grew (grew_trans g0 hg)) (HX.out.grew (grew_trans g0 hg))).mono ?_); rintro e w2 ⟨u2, rfl, hres, hx⟩; (try replace HC := hid (HC.out.grew hx)); (try replace HC2 := hid (HC2.out.grew hx)); (try replace HB := hid (HB.out.grew hx)); (try replace HB2 := hid (HB2.out.grew hx)); replace hg := grew_trans hg hx; replace hc := (bcell hg).1; obtain ⟨qfa, qfc, rfl⟩ := isWd_slice hres; have HB2 := hid hres; clear hx hres)
      | (go_at_call 34; (with_reducible refine (Pcx.out _ (grew_trans g0 hg) _ _ HC.out (HX.out.grew (grew_trans g0 hg))).mono ?_); rintro e w2 ⟨rfl, hx⟩; (try replace HC := hid (HC.out.grew hx)); (try replace HC2 := hid (HC2.out.grew hx)); (try replace HB := hid (HB.out.grew hx)); (try replace HB2 := hid (HB2.out.grew hx)); replace hg := grew_trans hg hx; replace hc := (bcell hg).1; clear hx)
      | (go_at_call 34; (with_reducible refine (Pcy.out _ (grew_trans g0 hg) _ _ HC.out (HY.out.grew (grew_trans g0 hg))).mono ?_); rintro e w2 ⟨rfl, hx⟩; (try replace HC := hid (HC.out.grew hx)); (try replace HC2 := hid (HC2.out.grew hx)); (try replace HB := hid (HB.out.grew hx)); (try replace HB2 := hid (HB2.out.grew hx)); replace hg := grew_trans hg hx; replace hc := (bcell hg).1; clear hx)
      | (go_at_call 34; (with_reducible refine (Pox.out _ (grew_trans g0 hg) _ _ (HO.out.grew (grew_trans g0 hg)) (HX.out.grew (grew_trans g0 hg))).mono ?_); rintro e w2 ⟨rfl, hx⟩; (try replace HC := hid (HC.out.grew hx)); (try replace HC2 := hid (HC2.out.grew hx)); (try replace HB := hid (HB.out.grew hx)); (try replace HB2 := hid (HB2.out.grew hx)); replace hg := grew_trans hg hx; replace hc := (bcell hg).1; clear hx)
      | (go_at_call 34; (with_reducible refine (Poy.out _ (grew_trans g0 hg) _ _ (HO.out.grew (grew_trans g0 hg)) (HY.out.grew (grew_trans g0 hg))).mono ?_); rintro e w2 ⟨rfl, hx⟩; (try replace HC := hid (HC.out.grew hx)); (try replace HC2 := hid (HC2.out.grew hx)); (try replace HB := hid (HB.out.grew hx)); (try replace HB2 := hid (HB2.out.grew hx)); replace hg := grew_trans hg hx; replace hc := (bcell hg).1; clear hx)
      | (go_at_call 34; (with_reducible refine (Poc.out _ (grew_trans g0 hg) _ _ (HO.out.grew (grew_trans g0 hg)) HC.out).mono ?_); rintro e w2 ⟨rfl, hx⟩; (try replace HC := hid (HC.out.grew hx)); (try replace HC2 := hid (HC2.out.grew hx)); (try replace HB := hid (HB.out.grew hx)); (try replace HB2 := hid (HB2.out.grew hx)); replace hg := grew_trans hg hx; replace hc := (bcell hg).1; clear hx)
      | (go_at_call 34; (with_reducible refine (Pxo.out _ (grew_trans g0 hg) _ _ (HX.out.grew (grew_trans g0 hg)) (HO.out.grew (grew_trans g0 hg))).mono ?_); rintro e w2 ⟨rfl, hx⟩; (try replace HC := hid (HC.out.grew hx)); (try replace HC2 := hid (HC2.out.grew hx)); (try replace HB := hid (HB.out.grew hx)); (try replace HB2 := hid (HB2.out.grew hx)); replace hg := grew_trans hg hx; replace hc := (bcell hg).1; clear hx)
      | (go_at_call 34; (with_reducible refine (Pyo.out _ (grew_trans g0 hg) _ _ (HY.out.grew (grew_trans g0 hg)) (HO.out.grew (grew_trans g0 hg))).mono ?_); rintro e w2 ⟨rfl, hx⟩; (try replace HC := hid (HC.out.grew hx)); (try replace HC2 := hid (HC2.out.grew hx)); (try replace HB := hid (HB.out.grew hx)); (try replace HB2 := hid (HB2.out.grew hx)); replace hg := grew_trans hg hx; replace hc := (bcell hg).1; clear hx)
      | (go_at_call 34; (with_reducible refine (Pxb.out _ (grew_trans g0 hg) _ _ (HX.out.grew (grew_trans g0 hg)) HB.out).mono ?_); rintro e w2 ⟨rfl, hx⟩; (try replace HC := hid (HC.out.grew hx)); (try replace HC2 := hid (HC2.out.grew hx)); (try replace HB := hid (HB.out.grew hx)); (try replace HB2 := hid (HB2.out.grew hx)); replace hg := grew_trans hg hx; replace hc := (bcell hg).1; clear hx)
      | (go_at_call 34; (with_reducible refine (Pyb.out _ (grew_trans g0 hg) _ _ (HY.out.grew (grew_trans g0 hg)) HB.out).mono ?_); rintro e w2 ⟨rfl, hx⟩; (try replace HC := hid (HC.out.grew hx)); (try replace HC2 := hid (HC2.out.grew hx)); (try replace HB := hid (HB.out.grew hx)); (try replace HB2 := hid (HB2.out.grew hx)); replace hg := grew_trans hg hx; replace hc := (bcell hg).1; clear hx)
      | (go_at_call 34; (with_reducible refine (Pbo.out _ (grew_trans g0 hg) _ _ HB.out (HO.out.grew (grew_trans g0 hg))).mono ?_); rintro e w2 ⟨rfl, hx⟩; (try replace HC := hid (HC.out.grew hx)); (try replace HC2 := hid (HC2.out.grew hx)); (try replace HB := hid (HB.out.grew hx)); (try replace HB2 := hid (HB2.out.grew hx)); replace hg := grew_trans hg hx; replace hc := (bcell hg).1; clear hx)
      | (go_at_call 23; (with_reducible refine (HSI.out _ _ _ _ HC.out.ints HC2.out.ints).mono ?_); rintro e w2 ⟨rfl, hx⟩; (try replace HC := hid (HC.out.grew hx)); (try replace HC2 := hid (HC2.out.grew hx)); (try replace HB := hid (HB.out.grew hx)); (try replace HB2 := hid (HB2.out.grew hx)); replace hg := grew_trans hg hx; replace hc := (bcell hg).1; clear hx)
      | (go_at_call 23; (with_reducible refine (HSI.out _ _ _ _ HB.out.ints HB2.out.ints).mono ?_); rintro e w2 ⟨rfl, hx⟩; (try replace HC := hid (HC.out.grew hx)); (try replace HC2 := hid (HC2.out.grew hx)); (try replace HB := hid (HB.out.grew hx)); (try replace HB2 := hid (HB2.out.grew hx)); replace hg := grew_trans hg hx; replace hc := (bcell hg).1; clear hx))
        go_ret
        exact ⟨rfl, grew_trans g0 hg⟩

end Go.Proofs.Ytddnpooffcjhnaa

