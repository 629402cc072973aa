/- The law HazardAsks, walked: it answers true. -/
import Derived.Test.YtcifpigjcfkhmaaHIs
import Derived.Test.YtcifpigjcfkhmaaHPlays
import Derived.Test.YtcifpigjcfkhmaaHOpen2
namespace Go.Proofs.Ytcifpigjcfkhmaa
open Go.RowKit Go.Lin Go.Lin.Hz

/-- A yard and the reference's yard, each in blocks of its own. -/
structure Half (base : Nat) (w : World) (B R : Nat) (Yy Yr : Yd) (Fy Fr : List Nat) : Prop where
  y : YNew base w B Yy Fy
  r : RNew base w R Yr Fr
  dj : ∀ k ∈ Fy, k ∉ Fr

theorem Half.grew {base : Nat} {w w' : World} {B R : Nat} {Yy Yr : Yd} {Fy Fr : List Nat} (h : Half base w B R Yy Yr Fy Fr) (hg : Grew w w') : Half base w' B R Yy Yr Fy Fr := ⟨h.y.grew hg, h.r.grew hg, h.dj⟩

theorem Half.doY {base : Nat} {w w' : World} {B R : Nat} {Yy Yr Y' : Yd} {Fy Fr : List Nat} (h : Half base w B R Yy Yr Fy Fr) (hb : base ≤ w.heap.size) (hd : Does w w' B Fy Y') (hI : Hz.Inv Y') : (∃ F, Half base w' B R Y' Yr F Fr) ∧ Below base w w' ∧ Keeps (fun k _ => k ∈ Fy) w w' := by
  obtain ⟨F5, hy5, hb5, hk5, hf5⟩ := h.y.does hb hd hI
  refine ⟨⟨F5, hy5, ⟨IsRef.keeps h.r.yard hk5 (fun k _ h1 h2 => h.dj k h2 h1), h.r.lo, h.r.inv⟩, fun k h1 h2 => (hf5 k h1).elim (fun h3 => h.dj k h3 h2) (fun h3 => by have := h.r.yard.lt k h2; omega)⟩, hb5, hk5⟩

theorem Half.doR {base : Nat} {w w' : World} {B R : Nat} {Yy Yr Y' : Yd} {Fy Fr : List Nat} (h : Half base w B R Yy Yr Fy Fr) (hb : base ≤ w.heap.size) (hd : RDoes w w' R Fr Y') (hI : Hz.Inv Y') : (∃ F, Half base w' B R Yy Y' Fy F) ∧ Below base w w' ∧ Keeps (fun k _ => k ∈ Fr) w w' := by
  obtain ⟨F5, hr5, hb5, hk5, hf5⟩ := h.r.does hb hd hI
  refine ⟨⟨F5, ⟨IsYardAt.keeps h.y.yard hk5 (fun k _ h1 h2 => h.dj k h1 h2), h.y.lo, h.y.inv⟩, hr5, fun k h1 h2 => (hf5 k h2).elim (fun h3 => h.dj k h1 h3) (fun h3 => by have := h.y.lt k h1; omega)⟩, hb5, hk5⟩

/-- A call that changes the one, or the other. -/
def HPost (base : Nat) (w : World) (B R : Nat) (v : Value) (Yy Yr : Yd) (e : Ending) (w' : World) : Prop := e = .returned v ∧ (∃ Fy Fr, Half base w' B R Yy Yr Fy Fr) ∧ Below base w w'

theorem hDoY {base : Nat} {w : World} {B R : Nat} {Yy Yr Y' : Yd} {Fy Fr : List Nat} {f : FuncId} {args : Array Value} {v : Value} (h : Half base w B R Yy Yr Fy Fr) (hb : base ≤ w.heap.size) (hI : Hz.Inv Y')
    (hc : Calls Try.prog f args w fun e w' => e = .returned v ∧ Does w w' B Fy Y') : Calls Try.prog f args w (HPost base w B R v Y' Yr) :=
  hc.mono fun _ _ ⟨he, hd⟩ => let ⟨⟨F, h1⟩, h2, _⟩ := h.doY hb hd hI; ⟨he, ⟨F, Fr, h1⟩, h2⟩

theorem hDoR {base : Nat} {w : World} {B R : Nat} {Yy Yr Y' : Yd} {Fy Fr : List Nat} {f : FuncId} {args : Array Value} {v : Value} (h : Half base w B R Yy Yr Fy Fr) (hb : base ≤ w.heap.size) (hI : Hz.Inv Y')
    (hc : Calls Try.prog f args w fun e w' => e = .returned v ∧ RDoes w w' R Fr Y') : Calls Try.prog f args w (HPost base w B R v Yy Y') :=
  hc.mono fun _ _ ⟨he, hd⟩ => let ⟨⟨F, h1⟩, h2, _⟩ := h.doR hb hd hI; ⟨he, ⟨Fy, F, h1⟩, h2⟩

theorem hGrew {base : Nat} {w : World} {B R : Nat} {Yy Yr : Yd} {Fy Fr : List Nat} {f : FuncId} {args : Array Value} {v : Value} (h : Half base w B R Yy Yr Fy Fr) (hb : base ≤ w.heap.size)
    (hc : Calls Try.prog f args w fun e w' => e = .returned v ∧ Grew w w') : Calls Try.prog f args w (HPost base w B R v Yy Yr) :=
  hc.mono fun _ _ ⟨he, hg⟩ => ⟨he, ⟨Fy, Fr, h.grew hg⟩, hg.mono hb⟩

theorem Half.ref {base : Nat} {w : World} {B R : Nat} {Yy Yr : Yd} {Fy Fr : List Nat} (h : Half base w B R Yy Yr Fy Fr) : ∃ sb sc lb lc lv Lb, RAll w R Yr sb sc lb lc lv Lb :=
  let ⟨sb, sc, lb, lc, lv, Lb, hA, _⟩ := h.r.yard
  ⟨sb, sc, lb, lc, lv, Lb, hA⟩

set_option maxHeartbeats 16000000 in
set_option maxRecDepth 100000 in
theorem asks_law (t s : Int) (m : List Dd × Int × Int × Int) (v : Value) (w : World) (hv : IsAsking w v m) :
    Calls Try.prog 7 #[.int .i64 t, .int .i64 s, v] w fun e w' => e = .returned (.bool true) ∧ Grew w w' := by
  obtain ⟨l, a, b, c⟩ := m
  obtain ⟨sv, rfl, hd⟩ := hv
  simp only at hd ⊢
  obtain ⟨va, vc, rfl, hm, hdd⟩ := hd
  obtain ⟨n, hn⟩ : ∃ n, l.length = n := ⟨_, rfl⟩
  have HLN := hid hn
  rw [hn] at hm ⊢
  obtain ⟨W0, hW0, g0, e0, e1, e2, e3, hz0⟩ := box4 w (.slice va n vc) (.int .i64 a) (.int .i64 b) (.int .i64 c) 51
  have HG0 := hid g0
  have hg := g0
  have HDD := hid hdd
  clear hn hdd
  cases hp : isNew t s
  · have HN := hid (fun (y : World) => new_bad t s y hp)
    have HO := hid (fun (y : World) => isOne_bad t s y hp)
    clear hp
    go_enter Try.func7, Try.ntmps7
    go_wp2_with (first
      | (go_at_call 27; (with_reducible refine (HN.out _).mono ?_); rintro e w1 ⟨rfl, hx⟩; replace hg := grew_trans hg hx; clear hx)
      | (go_at_call 30; (with_reducible refine (HO.out _).mono ?_); rintro e w1 ⟨rfl, hx⟩; replace hg := grew_trans hg hx; clear hx)
      | (go_at_call 12; with_reducible refine (sane_any _).mono ?_; rintro e w1 ⟨rfl, hx⟩; replace hg := grew_trans hg hx))
    go_ret
    exact ⟨rfl, hg⟩
  · have HN := hid (fun (y : World) => new_ok t s y hp)
    have HO := hid (fun (B : Nat) (y : World) => isOne_ok t s B y hp)
    have HRN := hid (fun y => rNew_ok t s y hp)
    have hI0 := new_inv hp
    obtain ⟨Y0, hY0⟩ : ∃ Y0, new t s = Y0 := ⟨_, rfl⟩
    rw [hY0] at HN HRN hI0
    clear hp hY0
    by_cases h100 : 100 < n
    · have hd : decide (100 < (n : Int)) = true := by simp; omega
      clear h100
      go_enter Try.func7, Try.ntmps7
      go_wp2_with (first
        | (go_at_call 27; (with_reducible refine (HN.out _).mono ?_); rintro e w1 ⟨B, F, rfl, -, -, hx⟩; have e0 := (hx.cell (p := ⟨w.heap.size, 0, none⟩) hz0).trans e0; have hz1 := Nat.lt_of_lt_of_le hz0 hx.size; replace hg := grew_trans hg hx; clear hx)
        | (go_at_call 30; (with_reducible refine (HO.out _ _).mono ?_); rintro e w2 ⟨rfl, hx⟩; have e0 := (hx.cell (p := ⟨w.heap.size, 0, none⟩) hz1).trans e0; have hz2 := Nat.lt_of_lt_of_le hz1 hx.size; replace hg := grew_trans hg hx; clear hx)
        | (go_at_call 12; with_reducible refine (sane_any _).mono ?_; rintro e w1 ⟨rfl, hx⟩; replace hg := grew_trans hg hx))
      go_ret
      exact ⟨rfl, hg⟩
    · have hd : decide (100 < (n : Int)) = false := by simp; omega
      have HI0 := hid hI0
      clear h100 hg
      go_enter Try.func7, Try.ntmps7
      go_wp2_with (first
        | (go_at_call 27; (with_reducible refine (HN.out _).mono ?_); go_loud (
            rintro e w1 ⟨B, FB, rfl, hy, hlo, hx⟩
            have HY1 := hid (show YNew W0.heap.size w1 B Y0 FB from ⟨hy, hlo, HI0.out⟩)
            have HX1 := hid hx
            have e01 := (hx.cell (p := ⟨w.heap.size, 0, none⟩) hz0).trans e0
            have hz1 := Nat.lt_of_lt_of_le hz0 hx.size
            clear hy hlo hx))
        | (go_at_call 30; (with_reducible refine (HO.out _ _).mono ?_); go_loud (
            rintro e w2 ⟨rfl, hx⟩
            have HY2 := hid (HY1.out.grew hx)
            have HX2 := hid (grew_trans HX1.out hx)
            have e02 := (hx.cell (p := ⟨w.heap.size, 0, none⟩) hz1).trans e01
            have hz2 := Nat.lt_of_lt_of_le hz1 hx.size
            clear hx))
        | (go_at_call 15; (with_reducible refine (HRN.out _).mono ?_); go_loud (
            rintro e w4 ⟨R, FR, rfl, hy, hlo, hx⟩
            have HH4 := hid (show Half W0.heap.size w4 B R Y0 Y0 FB FR from ⟨HY2.out.grew hx, ⟨hy, fun k hk => Nat.le_trans HX2.out.size (hlo k hk), HI0.out⟩, fun k h1 h2 => by have := HY2.out.lt k h1; have := hlo k h2; omega⟩)
            have HX4 := hid (grew_trans HX2.out hx)
            clear hy hlo hx)))
      clear e01 hz1 e02 hz2
      go_loopg [10, 11] n (fun k i _ wr => ∃ j : Nat, j ≤ n ∧ i = .int .i64 j ∧ k = n - j ∧ Hid (∃ Fy Fr, Half W0.heap.size wr B R (after Y0 (l.take j)) (after Y0 (l.take j)) Fy Fr) ∧ Hid (Grew W0 wr))
      case atStart => exact ⟨0, by omega, rfl, rfl, hid ⟨_, _, HH4.out⟩, HX4⟩
      case round =>
        obtain ⟨j, hj, rfl, hk, HHJ, HGR⟩ := hrel
        have HKj := hid hk; clear hk
        have hwr := HGR.out.size
        rename World => wr
        have d0 := (HGR.out.cell (p := ⟨w.heap.size, 0, none⟩) hz0).trans e0
        have hzr := Nat.lt_of_lt_of_le hz0 hwr
        by_cases hlt : j < n
        · obtain ⟨x, hx⟩ : ∃ x, l[j]? = some x := ⟨_, List.getElem?_eq_getElem (by rw [HLN.out]; exact hlt)⟩
          obtain ⟨b', off, rfl, hda⟩ := HDD.out j x hx
          have hda0 := hda.grew hda.lt HG0.out
          have hda' := hda0.grew hda0.lt HGR.out
          have k0 := hda'.c0
          have k1 := hda'.c1
          have k2 := hda'.c2
          have k3 := hda'.c3
          have hbw := hda'.lt
          obtain ⟨d, aa, bb, cc⟩ := x
          simp only at k0 k1 k2 k3
          have HTK := hid (take_snoc hx)
          obtain ⟨W4, hW4, g4, b0, b1, b2, b3, hz4⟩ := box4 wr (.int .i64 d) (.int .i64 aa) (.int .i64 bb) (.int .i64 cc) 32
          obtain ⟨Fy, Fr, hH⟩ := HHJ.out
          have has := after_snoc Y0 (l.take j) ⟨d, aa, bb, cc⟩
          obtain ⟨Yj, hYj⟩ : ∃ Yj, after Y0 (l.take j) = Yj := ⟨_, rfl⟩
          rw [hYj] at has hH
          have hY := hH.y.inv
          have HH0 := hid (hH.grew g4)
          have hIs := hY.doD d aa bb cc
          have hdo := do_any Yj hY B Fy d aa bb cc W4 HH0.out.y.yard
          have hrdo := fun (y : World) (h : IsRef y R Yj Fr) => rDo_any Yj hY R Fr d aa bb cc y h
          obtain ⟨Y', n', f', hr⟩ : ∃ Y' n' f', doD Yj d aa bb cc = (Y', n', f') := ⟨_, _, _, rfl⟩
          unfold DoPost at hdo
          unfold RDoPost at hrdo
          simp only [hr] at has hIs hdo hrdo
          have HAS := hid has
          have HIS := hid hIs
          have HDO := hid hdo
          have HRDO := hid hrdo
          have HW4 := hid (show W0.heap.size ≤ W4.heap.size from Nat.le_trans hwr g4.size)
          have HLTW := hid (show (∀ k ∈ Fy, k < wr.heap.size) ∧ (∀ k ∈ Fr, k < wr.heap.size) from ⟨hH.y.lt, hH.r.yard.lt⟩)
          have HG4 := hid (show Grew W0 W4 from grew_trans HGR.out g4)
          clear has hIs hx hda hda' hda0 hr hdo hrdo hY hYj g4 hH
          go_wp2_with (first
            | (go_at_call 18; (with_reducible refine HDO.out.mono ?_); go_loud (
                rintro e w5 ⟨rfl, hdoes⟩
                obtain ⟨⟨F5, h5⟩, hb5, hk5⟩ := HH0.out.doY HW4.out hdoes HIS.out
                have HH5 := hid h5
                have HB5 := hid (HG4.out.trans hb5)
                have hs5 := HB5.out.size
                have q0 := keeps_cell hk5 0 hz4 (fun _ h1 => by have := HLTW.out.1 _ h1; omega)
                have q1 := keeps_cell hk5 1 hz4 (fun _ h1 => by have := HLTW.out.1 _ h1; omega)
                have q2 := keeps_cell hk5 2 hz4 (fun _ h1 => by have := HLTW.out.1 _ h1; omega)
                have q3 := keeps_cell hk5 3 hz4 (fun _ h1 => by have := HLTW.out.1 _ h1; omega)
                rw [b0] at q0; rw [b1] at q1; rw [b2] at q2; rw [b3] at q3
                have hz5 := Nat.lt_of_lt_of_le hz4 hk5.size
                clear h5 hb5 hk5 hdoes))
            | (go_at_call 16; (with_reducible refine (HRDO.out _ HH5.out.r.yard).mono ?_); go_loud (
                rintro e w6 ⟨rfl, hdoes⟩
                obtain ⟨⟨F6, h6⟩, hb6, -⟩ := HH5.out.doR hs5 hdoes HIS.out
                have HH6 := hid h6
                have HB6 := hid (HB5.out.trans hb6)
                clear h6 hb6 hdoes)))
          go_roundg (n - (j + 1))
          case measure => have := HKj.out; omega
          case rel => exact ⟨j + 1, by omega, by go_num, rfl, hid ⟨_, _, by rw [HTK.out, HAS.out]; exact HH6.out⟩, HB6⟩
        · obtain rfl : j = n := by omega
          have htk : l.take j = l := List.take_of_length_le (by rw [HLN.out]; omega)
          rw [htk] at HHJ
          obtain ⟨Yn, hYn⟩ : ∃ Yn, after Y0 l = Yn := ⟨_, rfl⟩
          rw [hYn] at HHJ
          obtain ⟨Fy, Fr, hH⟩ := HHJ.out
          have hIn := hH.y.inv
          have d1 := (HGR.out.cell (p := ⟨w.heap.size, 1, none⟩) hz0).trans e1
          have d2 := (HGR.out.cell (p := ⟨w.heap.size, 2, none⟩) hz0).trans e2
          have d3 := (HGR.out.cell (p := ⟨w.heap.size, 3, none⟩) hz0).trans e3
          have HH := hid hH
          have HB := HGR
          clear htk hYn hH HHJ e0 e1 e2 e3
          go_wp2
          go_quiet (fail)
          obtain ⟨wq, hwq⟩ : ∃ wq, wr.drewN nq = wq := ⟨_, rfl⟩
          have hgq : Grew wr wq := by rw [← hwq]; exact grew_drewN (grew_refl _) _
          rw [hwq]
          replace HH := hid (HH.out.grew hgq)
          replace HB := hid (grew_trans HB.out hgq)
          have hs := HB.out.size
          clear hwq hgq d0 d1 d2 d3 hzr
          obtain ⟨st, sf, hst⟩ : ∃ x y, stateOf Yn a = (x, y) := ⟨_, _, rfl⟩
          obtain ⟨L, lf, hL⟩ : ∃ x y, listOf Yn a = (x, y) := ⟨_, _, rfl⟩
          obtain ⟨sl, slf, hsl⟩ : ∃ x y, slot Yn a b = (x, y) := ⟨_, _, rfl⟩
          obtain ⟨us, uf, hus⟩ : ∃ x y, use Yn a b = (x, y) := ⟨_, _, rfl⟩
          have h4 := hIn.th.2
          have C20 := hid (fun (y : World) (Fy Fr : List Nat) (h : Half W0.heap.size y B R Yn Yn Fy Fr) (hb : W0.heap.size ≤ y.heap.size) => hGrew (v := .tuple #[.int .i64 st, .int .i64 sf]) h hb (by
            obtain ⟨tb, cap, lv, hv⟩ := h.y.view
            have := state_any hIn B a y hv.head; rwa [hst] at this))
          have C31 := hid (fun (y : World) (Fy Fr : List Nat) (h : Half W0.heap.size y B R Yn Yn Fy Fr) (hb : W0.heap.size ≤ y.heap.size) => hGrew (v := .tuple #[.int .i64 st, .int .i64 sf]) h hb (by
            obtain ⟨sb, sc, lb, lc, lv, Lb, hA⟩ := h.ref
            have := rState_any Yn R a y hA.cell; rwa [hst] at this))
          have C32 := hid (fun (y : World) (Fy Fr : List Nat) (h : Half W0.heap.size y B R Yn Yn Fy Fr) => show Calls Try.prog 32 #[.pointer (some ⟨B, 0, none⟩), .int .i64 a] y fun e w' => ∃ u, e = .returned (.tuple #[u, .int .i64 lf]) ∧ IsInts Any w' u L ∧ Grew y w' by
            have := list_any Yn hIn B Fy a y h.y.yard
            rw [hL] at this
            exact this.mono fun e w' ⟨u, h1, h2, h3⟩ => ⟨u, h1, seg_ints h2, h3⟩)
          have C33 := hid (fun (y : World) (Fy Fr : List Nat) (h : Half W0.heap.size y B R Yn Yn Fy Fr) => show Calls Try.prog 33 #[.pointer (some ⟨R, 0, none⟩), .int .i64 a] y fun e w' => ∃ u, e = .returned (.tuple #[u, .int .i64 lf]) ∧ IsInts Any w' u L ∧ Grew y w' by
            obtain ⟨sb, sc, lb, lc, lv, Lb, hA⟩ := h.ref
            have := rList_any Yn h4 R a y hA; rwa [hL] at this)
          have C22 := hid (fun (y : World) (Fy Fr : List Nat) (h : Half W0.heap.size y B R Yn Yn Fy Fr) (hb : W0.heap.size ≤ y.heap.size) => hGrew (v := .tuple #[.int .i64 sl, .int .i64 slf]) h hb (by
            obtain ⟨tb, cap, lv, hv⟩ := h.y.view
            have := slot_any Yn hIn B tb cap lv a b y hv; rwa [hsl] at this))
          have C35 := hid (fun (y : World) (Fy Fr : List Nat) (h : Half W0.heap.size y B R Yn Yn Fy Fr) (hb : W0.heap.size ≤ y.heap.size) => hGrew (v := .tuple #[.int .i64 sl, .int .i64 slf]) h hb (by
            obtain ⟨sb, sc, lb, lc, lv, Lb, hA⟩ := h.ref
            have := rSlot35_any Yn h4 R a b y hA.cell; rwa [hsl] at this))
          have C21 := hid (fun (y : World) (Fy Fr : List Nat) (h : Half W0.heap.size y B R Yn Yn Fy Fr) (hb : W0.heap.size ≤ y.heap.size) => hGrew (v := .tuple #[.int .i64 us, .int .i64 uf]) h hb (by
            obtain ⟨tb, cap, lv, hv⟩ := h.y.view
            have := use_any Yn hIn B tb cap lv a b y hv; rwa [hus] at this))
          have C36 := hid (fun (y : World) (Fy Fr : List Nat) (h : Half W0.heap.size y B R Yn Yn Fy Fr) (hb : W0.heap.size ≤ y.heap.size) => hGrew (v := .tuple #[.int .i64 us, .int .i64 uf]) h hb (by
            obtain ⟨sb, sc, lb, lc, lv, Lb, hA⟩ := h.ref
            have := rUse_any Yn hIn R a b y hA.cell; rwa [hus] at this))
          obtain ⟨Y1, p1, hrY1⟩ : ∃ Y x0, point Yn a b c = (Y, x0) := ⟨_, _, rfl⟩
          have hIY1 : Hz.Inv Y1 := by have := hIn.pointY a b c; rwa [hrY1] at this
          have C37 := hid (fun (y : World) (Fy Fr : List Nat) (h : Half W0.heap.size y B R Yn Yn Fy Fr) (hb : W0.heap.size ≤ y.heap.size) => hDoY (v := .int .i64 p1) h hb hIY1 (by have := point_any Yn hIn B Fy a b c y h.y.yard; rwa [hrY1] at this))
          have C38 := hid (fun (y : World) (Fy Fr : List Nat) (h : Half W0.heap.size y B R Y1 Yn Fy Fr) (hb : W0.heap.size ≤ y.heap.size) => hDoR (v := .int .i64 p1) h hb hIY1 (by have := rPoint_any Yn hIn R Fr a b c y h.r.yard; rwa [hrY1] at this))
          obtain ⟨Y2, p2, hrY2⟩ : ∃ Y x0, clear Y1 b a = (Y, x0) := ⟨_, _, rfl⟩
          have hIY2 : Hz.Inv Y2 := by have := hIY1.clearY b a; rwa [hrY2] at this
          have C25 := hid (fun (y : World) (Fy Fr : List Nat) (h : Half W0.heap.size y B R Y1 Y1 Fy Fr) (hb : W0.heap.size ≤ y.heap.size) => hDoY (v := .int .i64 p2) h hb hIY2 (by have := clear_any Y1 hIY1 B Fy b a y h.y.yard; rwa [hrY2] at this))
          have C39 := hid (fun (y : World) (Fy Fr : List Nat) (h : Half W0.heap.size y B R Y2 Y1 Fy Fr) (hb : W0.heap.size ≤ y.heap.size) => hDoR (v := .int .i64 p2) h hb hIY2 (by have := rClear_any Y1 hIY1 R Fr b a y h.r.yard; rwa [hrY2] at this))
          obtain ⟨Y3, r3, f3, hrY3⟩ : ∃ Y x0 x1, putBy Y2 a c = (Y, x0, x1) := ⟨_, _, _, rfl⟩
          have hIY3 : Hz.Inv Y3 := by have := hIY2.putByY a c; rwa [hrY3] at this
          have C28 := hid (fun (y : World) (Fy Fr : List Nat) (h : Half W0.heap.size y B R Y2 Y2 Fy Fr) (hb : W0.heap.size ≤ y.heap.size) => hDoY (v := .tuple #[.int .i64 r3, .int .i64 f3]) h hb hIY3 (by have := putBy_any Y2 hIY2 B Fy a c y h.y.yard; rwa [hrY3] at this))
          have C40 := hid (fun (y : World) (Fy Fr : List Nat) (h : Half W0.heap.size y B R Y3 Y2 Fy Fr) (hb : W0.heap.size ≤ y.heap.size) => hDoR (v := .tuple #[.int .i64 r3, .int .i64 f3]) h hb hIY3 (by have := rPutBy_any Y2 hIY2 R Fr a c y h.r.yard; rwa [hrY3] at this))
          obtain ⟨Y4, r4, f4, hrY4⟩ : ∃ Y x0 x1, take Y3 b = (Y, x0, x1) := ⟨_, _, _, rfl⟩
          have hIY4 : Hz.Inv Y4 := by have := hIY3.takeY b; rwa [hrY4] at this
          have C41 := hid (fun (y : World) (Fy Fr : List Nat) (h : Half W0.heap.size y B R Y3 Y3 Fy Fr) (hb : W0.heap.size ≤ y.heap.size) => hDoY (v := .tuple #[.int .i64 r4, .int .i64 f4]) h hb hIY4 (by have := take_any Y3 hIY3 B Fy b y h.y.yard; rwa [hrY4] at this))
          have C42 := hid (fun (y : World) (Fy Fr : List Nat) (h : Half W0.heap.size y B R Y4 Y3 Fy Fr) (hb : W0.heap.size ≤ y.heap.size) => hDoR (v := .tuple #[.int .i64 r4, .int .i64 f4]) h hb hIY4 (by have := rTake_any Y3 hIY3 R Fr b y h.r.yard; rwa [hrY4] at this))
          obtain ⟨Y5, r5, f5, hrY5⟩ : ∃ Y x0 x1, sweep Y4 a = (Y, x0, x1) := ⟨_, _, _, rfl⟩
          have hIY5 : Hz.Inv Y5 := by have := hIY4.sweepD a; rwa [hrY5] at this
          have C24 := hid (fun (y : World) (Fy Fr : List Nat) (h : Half W0.heap.size y B R Y4 Y4 Fy Fr) (hb : W0.heap.size ≤ y.heap.size) => hDoY (v := .tuple #[.int .i64 r5, .int .i64 f5]) h hb hIY5 (by have := sweepD_any Y4 hIY4 B Fy a y h.y.yard; rwa [hrY5] at this))
          have C43 := hid (fun (y : World) (Fy Fr : List Nat) (h : Half W0.heap.size y B R Y5 Y4 Fy Fr) (hb : W0.heap.size ≤ y.heap.size) => hDoR (v := .tuple #[.int .i64 r5, .int .i64 f5]) h hb hIY5 (by have := rSweep_any Y4 hIY4 R Fr a y h.r.yard; rwa [hrY5] at this))
          have C44 := hid (fun (y : World) (Fy Fr : List Nat) (h : Half W0.heap.size y B R Y5 Y5 Fy Fr) => show Calls Try.prog 44 #[.pointer (some ⟨B, 0, none⟩), .pointer (some ⟨R, 0, none⟩)] y fun e w' => e = .returned (.bool true) ∧ Grew y w' by
            obtain ⟨sb, sc, lb, lc, lv, Lb, hA⟩ := h.ref
            exact is_any Y5 hIY5 B R Fy y h.y.yard hA)
          clear hst hL hsl hus hrY1 hrY2 hrY3 hrY4 hrY5 h4
          go_wp2_with (first
            | (go_at_call 20; (with_reducible refine (C20.out _ _ _ HH.out hs).mono ?_); go_loud (
                rintro e wx ⟨rfl, ⟨Fy', Fr', hh⟩, hb⟩
                replace HH := hid hh
                replace HB := hid (HB.out.trans hb)
                replace hs := HB.out.size
                clear hh hb))
            | (go_at_call 31; (with_reducible refine (C31.out _ _ _ HH.out hs).mono ?_); go_loud (
                rintro e wx ⟨rfl, ⟨Fy', Fr', hh⟩, hb⟩
                replace HH := hid hh
                replace HB := hid (HB.out.trans hb)
                replace hs := HB.out.size
                clear hh hb))
            | (go_at_call 32; (with_reducible refine (C32.out _ _ _ HH.out).mono ?_); go_loud (
                rintro e wx ⟨ul, rfl, hu, hx⟩
                have HU32 := hid hu
                replace HH := hid (HH.out.grew hx)
                replace HB := hid (grew_trans HB.out hx)
                replace hs := HB.out.size
                clear hu hx))
            | (go_at_call 33; (with_reducible refine (C33.out _ _ _ HH.out).mono ?_); go_loud (
                rintro e wx ⟨ur, rfl, hu, hx⟩
                have HU33 := hid hu
                have HU1 := hid (Reads.grew HU32.out hx)
                replace HH := hid (HH.out.grew hx)
                replace HB := hid (grew_trans HB.out hx)
                replace hs := HB.out.size
                clear hu hx))
            | (go_at_call 34; (with_reducible refine (sameInts_any _ _ L L _ HU1.out HU33.out).mono ?_); rw [show (L == L) = true by simp]; go_loud (
                rintro e wx ⟨rfl, hx⟩
                replace HH := hid (HH.out.grew hx)
                replace HB := hid (grew_trans HB.out hx)
                replace hs := HB.out.size
                clear hx))
            | (go_at_call 22; (with_reducible refine (C22.out _ _ _ HH.out hs).mono ?_); go_loud (
                rintro e wx ⟨rfl, ⟨Fy', Fr', hh⟩, hb⟩
                replace HH := hid hh
                replace HB := hid (HB.out.trans hb)
                replace hs := HB.out.size
                clear hh hb))
            | (go_at_call 35; (with_reducible refine (C35.out _ _ _ HH.out hs).mono ?_); go_loud (
                rintro e wx ⟨rfl, ⟨Fy', Fr', hh⟩, hb⟩
                replace HH := hid hh
                replace HB := hid (HB.out.trans hb)
                replace hs := HB.out.size
                clear hh hb))
            | (go_at_call 21; (with_reducible refine (C21.out _ _ _ HH.out hs).mono ?_); go_loud (
                rintro e wx ⟨rfl, ⟨Fy', Fr', hh⟩, hb⟩
                replace HH := hid hh
                replace HB := hid (HB.out.trans hb)
                replace hs := HB.out.size
                clear hh hb))
            | (go_at_call 36; (with_reducible refine (C36.out _ _ _ HH.out hs).mono ?_); go_loud (
                rintro e wx ⟨rfl, ⟨Fy', Fr', hh⟩, hb⟩
                replace HH := hid hh
                replace HB := hid (HB.out.trans hb)
                replace hs := HB.out.size
                clear hh hb))
            | (go_at_call 37; (with_reducible refine (C37.out _ _ _ HH.out hs).mono ?_); go_loud (
                rintro e wx ⟨rfl, ⟨Fy', Fr', hh⟩, hb⟩
                replace HH := hid hh
                replace HB := hid (HB.out.trans hb)
                replace hs := HB.out.size
                clear hh hb))
            | (go_at_call 38; (with_reducible refine (C38.out _ _ _ HH.out hs).mono ?_); go_loud (
                rintro e wx ⟨rfl, ⟨Fy', Fr', hh⟩, hb⟩
                replace HH := hid hh
                replace HB := hid (HB.out.trans hb)
                replace hs := HB.out.size
                clear hh hb))
            | (go_at_call 25; (with_reducible refine (C25.out _ _ _ HH.out hs).mono ?_); go_loud (
                rintro e wx ⟨rfl, ⟨Fy', Fr', hh⟩, hb⟩
                replace HH := hid hh
                replace HB := hid (HB.out.trans hb)
                replace hs := HB.out.size
                clear hh hb))
            | (go_at_call 39; (with_reducible refine (C39.out _ _ _ HH.out hs).mono ?_); go_loud (
                rintro e wx ⟨rfl, ⟨Fy', Fr', hh⟩, hb⟩
                replace HH := hid hh
                replace HB := hid (HB.out.trans hb)
                replace hs := HB.out.size
                clear hh hb))
            | (go_at_call 28; (with_reducible refine (C28.out _ _ _ HH.out hs).mono ?_); go_loud (
                rintro e wx ⟨rfl, ⟨Fy', Fr', hh⟩, hb⟩
                replace HH := hid hh
                replace HB := hid (HB.out.trans hb)
                replace hs := HB.out.size
                clear hh hb))
            | (go_at_call 40; (with_reducible refine (C40.out _ _ _ HH.out hs).mono ?_); go_loud (
                rintro e wx ⟨rfl, ⟨Fy', Fr', hh⟩, hb⟩
                replace HH := hid hh
                replace HB := hid (HB.out.trans hb)
                replace hs := HB.out.size
                clear hh hb))
            | (go_at_call 41; (with_reducible refine (C41.out _ _ _ HH.out hs).mono ?_); go_loud (
                rintro e wx ⟨rfl, ⟨Fy', Fr', hh⟩, hb⟩
                replace HH := hid hh
                replace HB := hid (HB.out.trans hb)
                replace hs := HB.out.size
                clear hh hb))
            | (go_at_call 42; (with_reducible refine (C42.out _ _ _ HH.out hs).mono ?_); go_loud (
                rintro e wx ⟨rfl, ⟨Fy', Fr', hh⟩, hb⟩
                replace HH := hid hh
                replace HB := hid (HB.out.trans hb)
                replace hs := HB.out.size
                clear hh hb))
            | (go_at_call 24; (with_reducible refine (C24.out _ _ _ HH.out hs).mono ?_); go_loud (
                rintro e wx ⟨rfl, ⟨Fy', Fr', hh⟩, hb⟩
                replace HH := hid hh
                replace HB := hid (HB.out.trans hb)
                replace hs := HB.out.size
                clear hh hb))
            | (go_at_call 43; (with_reducible refine (C43.out _ _ _ HH.out hs).mono ?_); go_loud (
                rintro e wx ⟨rfl, ⟨Fy', Fr', hh⟩, hb⟩
                replace HH := hid hh
                replace HB := hid (HB.out.trans hb)
                replace hs := HB.out.size
                clear hh hb))
            | (go_at_call 44; (with_reducible refine (C44.out _ _ _ HH.out).mono ?_); rintro e wx ⟨rfl, hx⟩; replace HB := hid (grew_trans HB.out hx); clear hx)
            | (go_at_call 12; with_reducible refine (sane_any _).mono ?_; rintro e wx ⟨rfl, hx⟩; replace HB := hid (grew_trans HB.out hx); clear hx))
          go_ret
          exact ⟨rfl, grew_trans HG0.out HB.out⟩

end Go.Proofs.Ytcifpigjcfkhmaa
