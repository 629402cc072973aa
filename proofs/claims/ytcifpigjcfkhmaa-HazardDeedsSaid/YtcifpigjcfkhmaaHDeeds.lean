/- Walk: called; the law HazardDeeds: it answers true. -/
import Derived.Test.YtcifpigjcfkhmaaHIs
import Derived.Test.YtcifpigjcfkhmaaHPlays
namespace Go.Proofs.Ytcifpigjcfkhmaa
open Go.RowKit Go.Lin Go.Lin.Hz

set_option maxHeartbeats 8000000 in
theorem called_any (Y : Yd) (hI : Hz.Inv Y) (b : Nat) (Fp : List Nat) (d a bb c : Int) (hD : isDeed d bb c = true) (w : World) (hy : IsYard w b Y Fp) :
    Calls Try.prog 47 #[.pointer (some ⟨b, 0, none⟩), .agg #[.int .i64 d, .int .i64 a, .int .i64 bb, .int .i64 c]] w (DoPost Y d a bb c w b Fp) := by
  obtain ⟨W0, hW0, g0, k0, k1, k2, k3, hz⟩ := box4 w (.int .i64 d) (.int .i64 a) (.int .i64 bb) (.int .i64 c) 32
  have HY := hid hy
  obtain ⟨tb, cap, lv, hv, -⟩ := IsYard.view hy hI
  have HV := hid hv
  have HG0 := hid g0
  have HD := hid hD
  have hd : 1 ≤ d ∧ d ≤ 6 := by
    unfold isDeed at hD
    rw [Bool.and_eq_true, Bool.and_eq_true, decide_eq_true_eq, decide_eq_true_eq] at hD
    exact hD.1
  have H1 := hid (take_any Y hI b Fp a W0 (IsYardAt.grew hy g0))
  have H2 := hid (point_any Y hI b Fp a bb c W0 (IsYardAt.grew hy g0))
  have H3 := hid (clear_any Y hI b Fp a bb W0 (IsYardAt.grew hy g0))
  have H4 := hid (putBy_any Y hI b Fp a bb W0 (IsYardAt.grew hy g0))
  have H5 := hid (sweepD_any Y hI b Fp a W0 (IsYardAt.grew hy g0))
  have H6 := hid (use_any Y hI b tb cap lv a bb W0 (hv.grew g0))
  clear hy hv hD
  obtain rfl | rfl | rfl | rfl | rfl | rfl : d = 1 ∨ d = 2 ∨ d = 3 ∨ d = 4 ∨ d = 5 ∨ d = 6 := by omega
  all_goals
    clear hd
    go_enter Try.func47, Try.ntmps47
    go_wp2_with (first
      | (go_at_call 41; with_reducible refine H1.out.mono ?_; rintro e w4 ⟨rfl, hd⟩; have HDS := hid (Does.later HG0.out hd); clear hd)
      | (go_at_call 37; with_reducible refine H2.out.mono ?_; rintro e w4 ⟨rfl, hd⟩; have HDS := hid (Does.later HG0.out hd); clear hd)
      | (go_at_call 25; with_reducible refine H3.out.mono ?_; rintro e w4 ⟨rfl, hd⟩; have HDS := hid (Does.later HG0.out hd); clear hd)
      | (go_at_call 28; with_reducible refine H4.out.mono ?_; rintro e w4 ⟨rfl, hd⟩; have HDS := hid (Does.later HG0.out hd); clear hd)
      | (go_at_call 24; with_reducible refine H5.out.mono ?_; rintro e w4 ⟨rfl, hd⟩; have HDS := hid (Does.later HG0.out hd); clear hd)
      | (go_at_call 21; with_reducible refine H6.out.mono ?_; rintro e w4 ⟨rfl, hd⟩; have HDS := hid (Does.same HY.out (grew_trans HG0.out hd)); clear hd))
    go_ret2
    unfold DoPost doD
    rw [HD.out]
    exact ⟨rfl, HDS.out⟩

theorem isDeed_of_ok {Y : Yd} {d a b c : Int} (h : (doD Y d a b c).2.2 = 0) : isDeed d b c = true := by
  unfold doD at h
  cases hd : isDeed d b c with
  | true => rfl
  | false => rw [hd] at h; simp at h

theorem dj_new {F F' G : List Nat} {n : Nat} (h : ∀ k ∈ F, k ∉ G) (hf : ∀ k ∈ F', k ∈ F ∨ n ≤ k) (hG : ∀ k ∈ G, k < n) : ∀ k ∈ F', k ∉ G := fun k hk hg => (hf k hk).elim (fun h1 => h k h1 hg) (fun h1 => by have := hG k hg; omega)

theorem dj_new2 {F G G' : List Nat} {n : Nat} (h : ∀ k ∈ F, k ∉ G) (hg : ∀ k ∈ G', k ∈ G ∨ n ≤ k) (hF : ∀ k ∈ F, k < n) : ∀ k ∈ F, k ∉ G' := fun k hk hk' => (hg k hk').elim (fun h1 => h k hk h1) (fun h1 => by have := hF k hk; omega)

/-- A yard, the reference's yard and another yard, all the same, each in blocks of its own. -/
structure Three (base : Nat) (w : World) (B R Z : Nat) (Y : Yd) (Fy Fr Fz : List Nat) : Prop where
  y : YNew base w B Y Fy
  r : RNew base w R Y Fr
  z : YNew base w Z Y Fz
  yr : ∀ k ∈ Fy, k ∉ Fr
  yz : ∀ k ∈ Fy, k ∉ Fz
  rz : ∀ k ∈ Fr, k ∉ Fz

theorem Three.grew {base : Nat} {w w' : World} {B R Z : Nat} {Y : Yd} {Fy Fr Fz : List Nat} (h : Three base w B R Z Y Fy Fr Fz) (hg : Grew w w') : Three base w' B R Z Y Fy Fr Fz := ⟨h.y.grew hg, h.r.grew hg, h.z.grew hg, h.yr, h.yz, h.rz⟩

set_option maxHeartbeats 16000000 in
set_option maxRecDepth 100000 in
theorem deeds_law (t s : Int) (l : List Dd) (v : Value) (w : World) (hv : IsDeeds w v l) :
    Calls Try.prog 10 #[.int .i64 t, .int .i64 s, v] w fun e w' => e = .returned (.bool true) ∧ Grew w w' := by
  obtain ⟨va, vc, rfl, hm, hdd⟩ := hv
  obtain ⟨n, hn⟩ : ∃ n, l.length = n := ⟨_, rfl⟩
  have HLN := hid hn
  have HDD := hid hdd
  rw [hn] at hm ⊢
  have hg := grew_refl w
  clear hn hdd
  cases hp : isNew t s
  · have HN := hid (fun (y : World) => new_bad t s y hp)
    have HO := hid (fun (y : World) => isOne_bad t s y hp)
    clear hp
    go_enter Try.func10, Try.ntmps10
    go_wp2_with (first
      | (go_at_call 27; (with_reducible refine (HN.out _).mono ?_); rintro e w1 ⟨rfl, hx⟩; replace hg := grew_trans hg hx; clear hx)
      | (go_at_call 30; (with_reducible refine (HO.out _).mono ?_); rintro e w1 ⟨rfl, hx⟩; replace hg := grew_trans hg hx; clear hx)
      | (go_at_call 12; with_reducible refine (sane_any _).mono ?_; rintro e w1 ⟨rfl, hx⟩; replace hg := grew_trans hg hx))
    go_ret
    exact ⟨rfl, hg⟩
  · have HN := hid (fun (y : World) => new_ok t s y hp)
    have HO := hid (fun (B : Nat) (y : World) => isOne_ok t s B y hp)
    have HRN := hid (fun y => rNew_ok t s y hp)
    have hI0 := new_inv hp
    obtain ⟨Y0, hY0⟩ : ∃ Y0, new t s = Y0 := ⟨_, rfl⟩
    rw [hY0] at HN HRN hI0
    clear hp hY0
    by_cases h100 : 100 < n
    · have hd : decide (100 < (n : Int)) = true := by simp; omega
      clear h100
      go_enter Try.func10, Try.ntmps10
      go_wp2_with (first
        | (go_at_call 27; (with_reducible refine (HN.out _).mono ?_); rintro e w1 ⟨B, F, rfl, -, -, hx⟩; replace hg := grew_trans hg hx; clear hx)
        | (go_at_call 30; (with_reducible refine (HO.out _ _).mono ?_); rintro e w1 ⟨rfl, hx⟩; replace hg := grew_trans hg hx; clear hx)
        | (go_at_call 12; with_reducible refine (sane_any _).mono ?_; rintro e w1 ⟨rfl, hx⟩; replace hg := grew_trans hg hx))
      go_ret
      exact ⟨rfl, hg⟩
    · have hd : decide (100 < (n : Int)) = false := by simp; omega
      have HI0 := hid hI0
      clear h100
      go_enter Try.func10, Try.ntmps10
      go_wp2_with (first
        | (go_at_call 27; (with_reducible refine (HN.out _).mono ?_); go_loud (
            rintro e w1 ⟨B, FB, rfl, hy, hlo, hx⟩
            have HY1 := hid (show YNew w.heap.size w1 B Y0 FB from ⟨hy, hlo, HI0.out⟩)
            have HX1 := hid hx
            clear hy hlo hx hg))
        | (go_at_call 30; (with_reducible refine (HO.out _ _).mono ?_); go_loud (
            rintro e w2 ⟨rfl, hx⟩
            have HY2 := hid (HY1.out.grew hx)
            have HX2 := hid (grew_trans HX1.out hx)
            clear hx))
        | (go_at_call 46; (with_reducible refine (copy_any Y0 HI0.out B FB _ HY2.out.yard).mono ?_); go_loud (
            rintro e w3 ⟨Z, FZ, rfl, hy, hlo, hx⟩
            have HZ3 := hid (show YNew w.heap.size w3 Z Y0 FZ from ⟨hy, fun k hk => Nat.le_trans HX2.out.size (hlo k hk), HI0.out⟩)
            have HYZ := hid (show ∀ k ∈ FB, k ∉ FZ from fun k h1 h2 => by have := HY2.out.lt k h1; have := hlo k h2; omega)
            have HY3 := hid (HY2.out.grew hx)
            have HX3 := hid (grew_trans HX2.out hx)
            clear hy hlo hx))
        | (go_at_call 15; (with_reducible refine (HRN.out _).mono ?_); go_loud (
            rintro e w4 ⟨R, FR, rfl, hy, hlo, hx⟩
            have HT4 := hid (show Three w.heap.size w4 B R Z Y0 FB FR FZ from ⟨HY3.out.grew hx, ⟨hy, fun k hk => Nat.le_trans HX3.out.size (hlo k hk), HI0.out⟩, HZ3.out.grew hx,
              fun k h1 h2 => by have := HY3.out.lt k h1; have := hlo k h2; omega, HYZ.out, fun k h1 h2 => by have := HZ3.out.lt k h2; have := hlo k h1; omega⟩)
            have HX4 := hid (grew_trans HX3.out hx)
            clear hy hlo hx)))
      go_loopg [11, 12, 13, 14, 15, 16, 17, 18, 54, 60, 89] n (fun k i _ _ _ _ _ _ _ _ _ _ wr => ∃ (j : Nat) (FB FR FZ : List Nat), j ≤ n ∧ i = .int .i64 j ∧ k = n - j ∧ Hid (Three w.heap.size wr B R Z (after Y0 (l.take j)) FB FR FZ) ∧ Hid (Grew w wr))
      case atStart => exact ⟨0, FB, FR, FZ, by omega, rfl, rfl, HT4, HX4⟩
      case round =>
        obtain ⟨j, FB, FR, FZ, hj, rfl, hk, HT, HGR⟩ := hrel
        have HKj := hid hk; clear hk
        have hwr := HGR.out.size
        by_cases hlt : j < n
        · obtain ⟨x, hx⟩ : ∃ x, l[j]? = some x := ⟨_, List.getElem?_eq_getElem (by rw [HLN.out]; exact hlt)⟩
          obtain ⟨b, off, rfl, hda⟩ := HDD.out j x hx
          have hda' := hda.grew hda.lt HGR.out
          have k0 := hda'.c0
          have k1 := hda'.c1
          have k2 := hda'.c2
          have k3 := hda'.c3
          have hbw := hda'.lt
          obtain ⟨d, a, bb, c⟩ := x
          simp only at k0 k1 k2 k3
          have HTK := hid (take_snoc hx)
          rename World => wr
          obtain ⟨W4, hW4, g4, b0, b1, b2', b3, hz4⟩ := box4 wr (.int .i64 d) (.int .i64 a) (.int .i64 bb) (.int .i64 c) 32
          have HT0 := hid (HT.out.grew g4)
          have hY := HT.out.y.inv
          have has := after_snoc Y0 (l.take j) ⟨d, a, bb, c⟩
          obtain ⟨Yj, hYj⟩ : ∃ Yj, after Y0 (l.take j) = Yj := ⟨_, rfl⟩
          rw [hYj] at has hY HT0
          have hIs := hY.doD d a bb c
          have herr : (doD Yj d a bb c).2.2 ≠ 0 → (doD Yj d a bb c).1 = Yj := doD_err
          have hok : (doD Yj d a bb c).2.2 = 0 → isDeed d bb c = true := isDeed_of_ok
          have hdo := do_any Yj hY B FB d a bb c W4 HT0.out.y.yard
          have hrdo := fun (y : World) (h : IsRef y R Yj FR) => rDo_any Yj hY R FR d a bb c y h
          have hcal := fun (h : isDeed d bb c = true) (y : World) (hy : IsYard y Z Yj FZ) => called_any Yj hY Z FZ d a bb c h y hy
          obtain ⟨Y', n', f', hr⟩ : ∃ Y' n' f', doD Yj d a bb c = (Y', n', f') := ⟨_, _, _, rfl⟩
          unfold DoPost at hdo hcal
          unfold RDoPost at hrdo
          simp only [hr] at has hIs herr hok hdo hrdo hcal
          have HAS := hid has
          have HIS := hid hIs
          have HERR := hid herr
          have HOK := hid hok
          have HDO := hid hdo
          have HRDO := hid hrdo
          have HCAL := hid hcal
          have HW4 := hid (show w.heap.size ≤ W4.heap.size from Nat.le_trans hwr g4.size)
          have HLTW := hid (show (∀ k ∈ FB, k < wr.heap.size) ∧ (∀ k ∈ FR, k < wr.heap.size) ∧ (∀ k ∈ FZ, k < wr.heap.size) from ⟨HT.out.y.lt, HT.out.r.yard.lt, HT.out.z.lt⟩)
          have HG4 := hid (show Grew w W4 from grew_trans HGR.out g4)
          clear has hIs hx hda hda' hr herr hok hdo hrdo hcal hY hYj g4
          by_cases hf0 : f' = 0
          · subst hf0
            have HOK0 := hid (HOK.out rfl)
            go_wp2_with (first
              | (go_at_call 18; (with_reducible refine HDO.out.mono ?_); go_loud (
                  rintro e w5 ⟨rfl, hdoes⟩
                  obtain ⟨F5, hy5, hb5, hk5, hf5⟩ := HT0.out.y.does HW4.out hdoes HIS.out
                  have HY5 := hid hy5
                  have HR5 := hid (show RNew w.heap.size w5 R Yj FR from ⟨IsRef.keeps HT0.out.r.yard hk5 (fun k _ h1 h2 => HT0.out.yr k h2 h1), HT0.out.r.lo, HT0.out.r.inv⟩)
                  have HZ5 := hid (show YNew w.heap.size w5 Z Yj FZ from ⟨IsYardAt.keeps HT0.out.z.yard hk5 (fun k _ h1 h2 => HT0.out.yz k h2 h1), HT0.out.z.lo, HT0.out.z.inv⟩)
                  have HF5 := hid hf5
                  have HB5 := hid (HG4.out.trans hb5)
                  have hs5 := HB5.out.size
                  have hs45 := hk5.size
                  have q0 := keeps_cell hk5 0 hz4 (fun _ h1 => by have := HLTW.out.1 _ h1; omega)
                  have q1 := keeps_cell hk5 1 hz4 (fun _ h1 => by have := HLTW.out.1 _ h1; omega)
                  have q2 := keeps_cell hk5 2 hz4 (fun _ h1 => by have := HLTW.out.1 _ h1; omega)
                  have q3 := keeps_cell hk5 3 hz4 (fun _ h1 => by have := HLTW.out.1 _ h1; omega)
                  rw [b0] at q0; rw [b1] at q1; rw [b2'] at q2; rw [b3] at q3
                  have hz5 := Nat.lt_of_lt_of_le hz4 hs45
                  clear hy5 hb5 hk5 hf5 hdoes))
              | (go_at_call 16; (with_reducible refine (HRDO.out _ HR5.out.yard).mono ?_); go_loud (
                  rintro e w6 ⟨rfl, hdoes⟩
                  obtain ⟨F6, hr6, hb6, hk6, hf6⟩ := HR5.out.does hs5 hdoes HIS.out
                  have HR6 := hid hr6
                  have HD56 := hid (dj_new HT0.out.yr HF5.out (fun k hk => Nat.lt_of_lt_of_le (HLTW.out.2.1 k hk) (by have := hz4; omega)))
                  have HY6 := hid (show YNew w.heap.size w6 B Y' F5 from ⟨IsYardAt.keeps HY5.out.yard hk6 (fun k _ h1 h2 => HD56.out k h1 h2), HY5.out.lo, HY5.out.inv⟩)
                  have HZ6 := hid (show YNew w.heap.size w6 Z Yj FZ from ⟨IsYardAt.keeps HZ5.out.yard hk6 (fun k _ h1 h2 => HT0.out.rz k h2 h1), HZ5.out.lo, HZ5.out.inv⟩)
                  have HF6 := hid hf6
                  have HB6 := hid (HB5.out.trans hb6)
                  have hs56 := hk6.size
                  have p0 := (keeps_cell hk6 0 hz5 (fun _ h1 => by have := HLTW.out.2.1 _ h1; omega)).trans q0
                  have p1 := (keeps_cell hk6 1 hz5 (fun _ h1 => by have := HLTW.out.2.1 _ h1; omega)).trans q1
                  have p2 := (keeps_cell hk6 2 hz5 (fun _ h1 => by have := HLTW.out.2.1 _ h1; omega)).trans q2
                  have p3 := (keeps_cell hk6 3 hz5 (fun _ h1 => by have := HLTW.out.2.1 _ h1; omega)).trans q3
                  have hz6 := Nat.lt_of_lt_of_le hz5 hs56
                  have HIS6 := hid (show Calls Try.prog 44 #[.pointer (some ⟨B, 0, none⟩), .pointer (some ⟨R, 0, none⟩)] w6 fun e w' => e = .returned (.bool true) ∧ Grew w6 w' by
                    obtain ⟨sb, sc, lb, lc, lv, Lb, hA, -⟩ := hr6.yard
                    exact is_any Y' HIS.out B R F5 w6 HY6.out.yard hA)
                  clear hr6 hb6 hk6 hf6 hdoes))
              | (go_at_call 44; (with_reducible refine HIS6.out.mono ?_); go_loud (
                  rintro e w7 ⟨rfl, hx⟩
                  have HX7 := hid hx
                  have o0 := (hx.cell (p := ⟨wr.heap.size, 0, none⟩) hz6).trans p0
                  have o1 := (hx.cell (p := ⟨wr.heap.size, 1, none⟩) hz6).trans p1
                  have o2 := (hx.cell (p := ⟨wr.heap.size, 2, none⟩) hz6).trans p2
                  have o3 := (hx.cell (p := ⟨wr.heap.size, 3, none⟩) hz6).trans p3
                  have hz7 := Nat.lt_of_lt_of_le hz6 hx.size
                  have HB7 := hid (grew_trans HB6.out hx)
                  have hs7 := HB7.out.size
                  clear hx))
              | (go_at_call 47; (with_reducible refine (HCAL.out HOK0.out _ (HZ6.out.grew HX7.out).yard).mono ?_); go_loud (
                  rintro e w8 ⟨rfl, hdoes⟩
                  obtain ⟨F8, hz8, hb8, hk8, hf8⟩ := (HZ6.out.grew HX7.out).does hs7 hdoes HIS.out
                  have hdz5 := dj_new HT0.out.yz HF5.out (fun k hk => Nat.lt_of_lt_of_le (HLTW.out.2.2 k hk) (by have := hz4; omega))
                  have hdz6 := dj_new HT0.out.rz HF6.out (fun k hk => Nat.lt_of_lt_of_le (HLTW.out.2.2 k hk) (by have := hz5; omega))
                  have hy7 := HY6.out.grew HX7.out
                  have hr7 := HR6.out.grew HX7.out
                  have HT8 := hid (show Three w.heap.size w8 B R Z Y' F5 F6 F8 from ⟨⟨IsYardAt.keeps hy7.yard hk8 (fun k _ h1 h2 => hdz5 k h1 h2), hy7.lo, hy7.inv⟩, ⟨IsRef.keeps hr7.yard hk8 (fun k _ h1 h2 => hdz6 k h1 h2), hr7.lo, hr7.inv⟩, hz8,
                    dj_new2 HD56.out HF6.out HY5.out.lt, dj_new2 hdz5 hf8 hy7.lt, dj_new2 hdz6 hf8 hr7.yard.lt⟩)
                  have HB8 := hid (HB7.out.trans hb8)
                  clear hz8 hb8 hk8 hf8 hdoes hdz5 hdz6 hy7 hr7))
              | (go_at_call 45; (with_reducible refine (sameW HT8.out.y.yard HT8.out.z.yard HIS.out HIS.out).mono ?_); rw [show decide (Y' = Y') = true by simp]; rintro e w9 ⟨rfl, hx⟩; have HX9 := hid hx; clear hx))
            go_roundg (n - (j + 1))
            case measure => have := HKj.out; omega
            case rel => exact ⟨j + 1, F5, F6, F8, by omega, by go_num, rfl, hid (by rw [HTK.out, HAS.out]; exact HT8.out.grew HX9.out), hid (grew_trans HB8.out HX9.out)⟩
          · have hf0' : (f' == 0) = false := by simpa using hf0
            have HYE := hid (HERR.out hf0)
            clear hf0
            go_wp2_with (first
              | (go_at_call 18; (with_reducible refine HDO.out.mono ?_); go_loud (
                  rintro e w5 ⟨rfl, hdoes⟩
                  obtain ⟨F5, hy5, hb5, hk5, hf5⟩ := HT0.out.y.does HW4.out hdoes HIS.out
                  have HY5 := hid hy5
                  have HR5 := hid (show RNew w.heap.size w5 R Yj FR from ⟨IsRef.keeps HT0.out.r.yard hk5 (fun k _ h1 h2 => HT0.out.yr k h2 h1), HT0.out.r.lo, HT0.out.r.inv⟩)
                  have HZ5 := hid (show YNew w.heap.size w5 Z Yj FZ from ⟨IsYardAt.keeps HT0.out.z.yard hk5 (fun k _ h1 h2 => HT0.out.yz k h2 h1), HT0.out.z.lo, HT0.out.z.inv⟩)
                  have HF5 := hid hf5
                  have HB5 := hid (HG4.out.trans hb5)
                  have hs5 := HB5.out.size
                  have hs45 := hk5.size
                  have q0 := keeps_cell hk5 0 hz4 (fun _ h1 => by have := HLTW.out.1 _ h1; omega)
                  have q1 := keeps_cell hk5 1 hz4 (fun _ h1 => by have := HLTW.out.1 _ h1; omega)
                  have q2 := keeps_cell hk5 2 hz4 (fun _ h1 => by have := HLTW.out.1 _ h1; omega)
                  have q3 := keeps_cell hk5 3 hz4 (fun _ h1 => by have := HLTW.out.1 _ h1; omega)
                  rw [b0] at q0; rw [b1] at q1; rw [b2'] at q2; rw [b3] at q3
                  have hz5 := Nat.lt_of_lt_of_le hz4 hs45
                  clear hy5 hb5 hk5 hf5 hdoes))
              | (go_at_call 16; (with_reducible refine (HRDO.out _ HR5.out.yard).mono ?_); go_loud (
                  rintro e w6 ⟨rfl, hdoes⟩
                  obtain ⟨F6, hr6, hb6, hk6, hf6⟩ := HR5.out.does hs5 hdoes HIS.out
                  have HR6 := hid hr6
                  have HD56 := hid (dj_new HT0.out.yr HF5.out (fun k hk => Nat.lt_of_lt_of_le (HLTW.out.2.1 k hk) (by have := hz4; omega)))
                  have HY6 := hid (show YNew w.heap.size w6 B Y' F5 from ⟨IsYardAt.keeps HY5.out.yard hk6 (fun k _ h1 h2 => HD56.out k h1 h2), HY5.out.lo, HY5.out.inv⟩)
                  have HZ6 := hid (show YNew w.heap.size w6 Z Yj FZ from ⟨IsYardAt.keeps HZ5.out.yard hk6 (fun k _ h1 h2 => HT0.out.rz k h2 h1), HZ5.out.lo, HZ5.out.inv⟩)
                  have HF6 := hid hf6
                  have HB6 := hid (HB5.out.trans hb6)
                  have hs56 := hk6.size
                  have p0 := (keeps_cell hk6 0 hz5 (fun _ h1 => by have := HLTW.out.2.1 _ h1; omega)).trans q0
                  have p1 := (keeps_cell hk6 1 hz5 (fun _ h1 => by have := HLTW.out.2.1 _ h1; omega)).trans q1
                  have p2 := (keeps_cell hk6 2 hz5 (fun _ h1 => by have := HLTW.out.2.1 _ h1; omega)).trans q2
                  have p3 := (keeps_cell hk6 3 hz5 (fun _ h1 => by have := HLTW.out.2.1 _ h1; omega)).trans q3
                  have hz6 := Nat.lt_of_lt_of_le hz5 hs56
                  have HIS6 := hid (show Calls Try.prog 44 #[.pointer (some ⟨B, 0, none⟩), .pointer (some ⟨R, 0, none⟩)] w6 fun e w' => e = .returned (.bool true) ∧ Grew w6 w' by
                    obtain ⟨sb, sc, lb, lc, lv, Lb, hA, -⟩ := hr6.yard
                    exact is_any Y' HIS.out B R F5 w6 HY6.out.yard hA)
                  clear hr6 hb6 hk6 hf6 hdoes))
              | (go_at_call 44; (with_reducible refine HIS6.out.mono ?_); go_loud (
                  rintro e w7 ⟨rfl, hx⟩
                  have HX7 := hid hx
                  have o0 := (hx.cell (p := ⟨wr.heap.size, 0, none⟩) hz6).trans p0
                  have o1 := (hx.cell (p := ⟨wr.heap.size, 1, none⟩) hz6).trans p1
                  have o2 := (hx.cell (p := ⟨wr.heap.size, 2, none⟩) hz6).trans p2
                  have o3 := (hx.cell (p := ⟨wr.heap.size, 3, none⟩) hz6).trans p3
                  have hz7 := Nat.lt_of_lt_of_le hz6 hx.size
                  have HB7 := hid (grew_trans HB6.out hx)
                  have hs7 := HB7.out.size
                  clear hx)))
            have hdz5 := dj_new HT0.out.yz HF5.out (fun k hk => Nat.lt_of_lt_of_le (HLTW.out.2.2 k hk) (by have := hz4; omega))
            have hdz6 := dj_new HT0.out.rz HF6.out (fun k hk => Nat.lt_of_lt_of_le (HLTW.out.2.2 k hk) (by have := hz5; omega))
            have HT7 := hid (show Three w.heap.size w7 B R Z Y' F5 F6 FZ from ⟨HY6.out.grew HX7.out, HR6.out.grew HX7.out, by rw [HYE.out]; exact HZ6.out.grew HX7.out, dj_new2 HD56.out HF6.out HY5.out.lt, hdz5, hdz6⟩)
            clear hdz5 hdz6
            go_roundg (n - (j + 1))
            case measure => have := HKj.out; omega
            case rel => exact ⟨j + 1, F5, F6, FZ, by omega, by go_num, rfl, hid (by rw [HTK.out, HAS.out]; exact HT7.out), HB7⟩
        · obtain rfl : j = n := by omega
          go_wp2_with (go_at_call 12; with_reducible refine (sane_any _).mono ?_; rintro e wz ⟨rfl, hx⟩; have HZ := hid hx; clear hx)
          go_ret
          exact ⟨rfl, grew_trans HGR.out HZ.out⟩

end Go.Proofs.Ytcifpigjcfkhmaa
