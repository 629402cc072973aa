/- The law HazardPlays, walked: it answers true. -/
import Derived.Test.YtcifpigjcfkhmaaHSane
namespace Go.Lin.Hz

theorem playL_at (l : List Dd) : ∀ (Y : Yd) (j : Nat) (x : Dd), l[j]? = some x → nth (playL Y l) j = resN (doD (after Y (l.take j)) x.d x.a x.b x.c).2 := by
  induction l with
  | nil => intro Y j x h; simp at h
  | cons y l ih =>
    intro Y j x h
    cases j with
    | zero => simp at h; subst h; rfl
    | succ j =>
      have := ih (doD Y y.d y.a y.b y.c).1 j x (by simpa using h)
      simpa [playL, given, after, nth] using this

theorem playL_length (Y : Yd) (l : List Dd) : (playL Y l).length = l.length := by
  induction l generalizing Y with
  | nil => rfl
  | cons y l ih => simpa [playL, given] using ih (doD Y y.d y.a y.b y.c).1

end Go.Lin.Hz
namespace Go.Proofs.Ytcifpigjcfkhmaa
open Go.RowKit Go.Lin Go.Lin.Hz

/-- A reference's yard that lies in new blocks. -/
structure RNew (base : Nat) (w : World) (B : Nat) (Y : Yd) (Fp : List Nat) : Prop where
  yard : IsRef w B Y Fp
  lo : ∀ k ∈ Fp, base ≤ k
  inv : Hz.Inv Y

theorem RNew.does {base : Nat} {w w' : World} {B : Nat} {Y Y' : Yd} {Fp : List Nat} (h : RNew base w B Y Fp) (hb : base ≤ w.heap.size) (hd : RDoes w w' B Fp Y') (hI : Hz.Inv Y') : ∃ Fp', RNew base w' B Y' Fp' ∧ Below base w w' ∧ Keeps (fun k _ => k ∈ Fp) w w' ∧ ∀ k ∈ Fp', k ∈ Fp ∨ w.heap.size ≤ k := by
  obtain ⟨F, h1, h2, h3⟩ := hd
  exact ⟨F, ⟨h1, fun k hk => (h3 k hk).elim (h.lo k) (fun h => Nat.le_trans hb h), hI⟩, h2.below hb (fun k _ hk => h.lo k hk), h2, h3⟩

theorem RNew.grew {base : Nat} {w w' : World} {B : Nat} {Y : Yd} {Fp : List Nat} (h : RNew base w B Y Fp) (hg : Grew w w') : RNew base w' B Y Fp := ⟨IsRef.grew h.yard hg, h.lo, h.inv⟩

theorem IsRef.lt {w : World} {b : Nat} {Y : Yd} {Fp : List Nat} (h : IsRef w b Y Fp) : ∀ k ∈ Fp, k < w.heap.size := by
  obtain ⟨sb, sc, lb, lc, lv, Lb, h1, rfl⟩ := h
  intro k hk
  simp only [List.mem_cons] at hk
  rcases hk with rfl | rfl | rfl | hk
  · exact h1.cell.lt
  · exact h1.cell.slt
  · exact h1.cell.llt
  · exact (h1.nl k hk).2.2.2

theorem ints_below {S : Nat → Obj → Prop} {w w' : World} {v : Value} {l : List Int} (h : IsInts S w v l) (hg : Below w.heap.size w w') : IsInts S w' v l := Reads.grew h hg

set_option maxHeartbeats 8000000 in
theorem plays_law (t s : Int) (l : List Dd) (v : Value) (w : World) (hv : IsDeeds w v l) :
    Calls Try.prog 3 #[.int .i64 t, .int .i64 s, v] w fun e w' => e = .returned (.bool true) ∧ Grew w w' := by
  have HV := hid hv
  obtain ⟨va, vc, rfl, hm, hdd⟩ := hv
  obtain ⟨n, hn⟩ : ∃ n, l.length = n := ⟨_, rfl⟩
  have HLN := hid hn
  have HDD := hid hdd
  rw [hn] at hm ⊢
  have hg := grew_refl w
  by_cases h1000 : 1000 < n
  · have hd : decide (1000 < (n : Int)) = true := by simp; omega
    clear hn h1000 hdd
    go_enter Try.func3, Try.ntmps3
    go_wp2_with (go_at_call 12; with_reducible refine (sane_any _).mono ?_; rintro e w1 ⟨rfl, hx⟩; replace hg := grew_trans hg hx)
    go_ret
    exact ⟨rfl, hg⟩
  · have hd : decide (1000 < (n : Int)) = false := by simp; omega
    have HN := hid (fun y => isNew_any t s y)
    obtain ⟨p, hp⟩ : ∃ p, isNew t s = p := ⟨_, rfl⟩
    rw [hp] at HN
    by_cases hbad : p = false ∨ 100 < n
    · have HB := hid (play_bad t s _ l w HV.out (by rw [hp, hn]; exact hbad))
      rw [hn] at HB
      by_cases h100 : 100 < n
      · have hd2 : decide (100 < (n : Int)) = true := by simp; omega
        clear hn h1000 hdd hbad hp h100
        cases p
        all_goals
          go_enter Try.func3, Try.ntmps3
          go_wp2_with (first
            | (go_at_call 12; with_reducible refine (sane_any _).mono ?_; rintro e w1 ⟨rfl, hx⟩; replace hg := grew_trans hg hx)
            | (go_at_call 13; with_reducible refine HB.out.mono ?_; rintro e w2 ⟨rfl, hx⟩; replace hg := grew_trans hg hx)
            | (go_at_call 14; with_reducible refine (HN.out _).mono ?_; rintro e w3 ⟨rfl, hx⟩; replace hg := grew_trans hg hx))
          go_ret
          exact ⟨rfl, hg⟩
      · obtain rfl : p = false := by rcases hbad with h | h; exact h; exact absurd h h100
        clear hn h1000 hdd hbad hp
        go_enter Try.func3, Try.ntmps3
        go_wp2_with (first
          | (go_at_call 12; with_reducible refine (sane_any _).mono ?_; rintro e w1 ⟨rfl, hx⟩; replace hg := grew_trans hg hx)
          | (go_at_call 13; with_reducible refine HB.out.mono ?_; rintro e w2 ⟨rfl, hx⟩; replace hg := grew_trans hg hx)
          | (go_at_call 14; with_reducible refine (HN.out _).mono ?_; rintro e w3 ⟨rfl, hx⟩; replace hg := grew_trans hg hx))
        go_ret
        exact ⟨rfl, hg⟩
    · have h100 : ¬ 100 < n := fun h => hbad (.inr h)
      obtain rfl : p = true := by cases p; exact absurd (.inl rfl) hbad; rfl
      have hd2 : decide (100 < (n : Int)) = false := by simp; omega
      have HP := hid (play_ok t s _ l w HV.out hp (by omega))
      rw [hn] at HP
      have HR := hid (fun y => rNew_ok t s y hp)
      have hI0 := new_inv hp
      obtain ⟨Y0, hY0⟩ : ∃ Y0, new t s = Y0 := ⟨_, rfl⟩
      rw [hY0] at HP HR hI0
      obtain ⟨L, hL⟩ : ∃ L, playL Y0 l = L := ⟨_, rfl⟩
      have hLn : L.length = n := by rw [← hL, playL_length, hn]
      have HL := hid hL
      rw [hL] at HP
      clear hn h1000 hdd hbad hp hY0 hL
      go_enter Try.func3, Try.ntmps3
      go_wp2_with (first
        | (go_at_call 13; (with_reducible refine HP.out.mono ?_); go_loud (
            rintro e w2 ⟨u, rfl, hu, hx⟩
            replace hg := grew_trans hg hx
            have HU := hid hu
            obtain ⟨ua, uc, rfl, hum, -⟩ := hu
            rw [hLn] at hum ⊢))
        | (go_at_call 14; with_reducible refine (HN.out _).mono ?_; rintro e w3 ⟨rfl, hx⟩; replace hg := grew_trans hg hx; have HU3 := hid (Reads.grew HU.out hx))
        | (go_at_call 15; (with_reducible refine (HR.out _).mono ?_); go_loud (
            rintro e w4 ⟨B, Fp, rfl, hy, hlo, hx⟩
            have HY := hid (show RNew w3.heap.size w4 B Y0 Fp from ⟨hy, hlo, hI0⟩)
            have HX := hid hx
            clear hy hlo)))
      have HG := hid hg
      obtain ⟨ua', uc', hue, -, huc⟩ := HU3.out
      simp only [hLn, Value.slice.injEq, true_and] at hue
      obtain ⟨rfl, rfl⟩ := hue
      rw [hLn] at huc
      have HUC := hid huc
      clear hg hx huc HU
      go_loopg [10, 11, 12, 13, 66] n (fun k i _ _ _ _ wr => ∃ (j : Nat) (Fp : List Nat), j ≤ n ∧ i = .int .i64 j ∧ k = n - j ∧ Hid (RNew w3.heap.size wr B (after Y0 (l.take j)) Fp) ∧ Hid (Below w3.heap.size w3 wr))
      case atStart => exact ⟨0, Fp, by omega, rfl, rfl, HY, HX⟩
      case round =>
        obtain ⟨j, Fp, hj, rfl, hk, HYJ, HGR⟩ := hrel
        have HK := hid hk; clear hk
        have hwr := HGR.out.size
        by_cases hlt : j < n
        · obtain ⟨x, hx⟩ : ∃ x, l[j]? = some x := ⟨_, List.getElem?_eq_getElem (by rw [HLN.out]; exact hlt)⟩
          obtain ⟨b, off, rfl, hda⟩ := HDD.out j x hx
          have hda3 := hda.grew hda.lt HG.out
          have hda' := hda3.grew hda3.lt HGR.out
          have k0 := hda'.c0
          have k1 := hda'.c1
          have k2 := hda'.c2
          have k3 := hda'.c3
          have hbw := hda'.lt
          have hpl := playL_at l Y0 j x hx
          rw [HL.out] at hpl
          obtain ⟨b2, off2, o2, rfl, hb2, _, hcu⟩ := HUC.out j hlt
          replace hcu : _ = some (Value.int .i64 (nth L j)) := hcu
          have hb2l := lt_of_obj hb2
          have hcu' := (HGR.out.cell (p := ⟨b2, off2 + j, none⟩) hb2l).trans hcu
          have hb2w := Nat.lt_of_lt_of_le hb2l hwr
          obtain ⟨d, a, bb, c⟩ := x
          simp only at k0 k1 k2 k3 hpl
          have HTK := hid (take_snoc hx)
          rename World => wr
          obtain ⟨W4, hW4, g4, b0, b1, b2', b3, hz4⟩ := box4 wr (.int .i64 d) (.int .i64 a) (.int .i64 bb) (.int .i64 c) 32
          have HDO := hid (rDo_any (after Y0 (l.take j)) HYJ.out.inv B Fp d a bb c W4 (IsRef.grew HYJ.out.yard g4))
          have hf := doD_f (after Y0 (l.take j)) d a bb c
          have has := after_snoc Y0 (l.take j) ⟨d, a, bb, c⟩
          have hIs := HYJ.out.inv.doD d a bb c
          obtain ⟨Y', n', f', hr⟩ : ∃ Y' n' f', doD (after Y0 (l.take j)) d a bb c = (Y', n', f') := ⟨_, _, _, rfl⟩
          have HDR := hid hr
          simp only [hr] at hf hpl has hIs
          have HAS := hid has
          have HIS := hid hIs
          obtain ⟨q, hq⟩ : ∃ q, nth L j = q := ⟨_, rfl⟩
          rw [hq] at hcu' hpl
          clear hr has hIs hx hda hda' hda3 hcu hq hb2
          rcases hf with rfl | rfl | rfl
          all_goals
            simp [resN] at hpl
            subst hpl
            go_wp2_with (go_at_call 16; (with_reducible refine HDO.out.mono ?_); go_loud (
                rintro e w5 hdp
                unfold RDoPost at hdp
                rw [HDR.out] at hdp
                obtain ⟨rfl, hdoes⟩ := hdp
                obtain ⟨Fp', hy5, hb5, -, -⟩ := (HYJ.out.grew g4).does (Nat.le_trans hwr g4.size) hdoes HIS.out
                have HY5 := hid hy5
                have hg5 := (below_of_grew HGR.out hwr g4).trans hb5
                have HB5 := hid hg5
                have hcu5 := (hb5.cell (p := ⟨b2, off2 + j, none⟩) hb2l).trans ((g4.cell (p := ⟨b2, off2 + j, none⟩) hb2w).trans hcu')
                have hb25 := Nat.lt_of_lt_of_le hb2l hg5.size
                clear hy5 hb5 hg5 hdoes))
            go_roundg (n - (j + 1))
            case measure => have := HK.out; omega
            case rel => exact ⟨j + 1, Fp', by omega, by go_num, rfl, hid (by rw [HTK.out, HAS.out]; exact HY5.out), HB5⟩
        · obtain rfl : j = n := by omega
          go_wp2_with (go_at_call 12; with_reducible refine (sane_any _).mono ?_; rintro e wz ⟨rfl, hx⟩; have HZ := hid hx; clear hx)
          go_ret
          exact ⟨rfl, grew_trans HG.out (grew_trans (HGR.out) HZ.out)⟩

end Go.Proofs.Ytcifpigjcfkhmaa
