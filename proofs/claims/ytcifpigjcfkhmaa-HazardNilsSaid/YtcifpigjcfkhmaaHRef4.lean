/- Walks: the reference's IsHeld, Count, Held, Take. -/
import Derived.Test.YtcifpigjcfkhmaaHRef3
namespace Go.Lin.Hz
theorem find_at {xs : List Int} {k : Nat} (hk : k < xs.length) (h : nth xs k = 0) (h0 : ∀ t, t < k → nth xs t ≠ 0) : xs.findIdx? (· == 0) = some k := by
  rw [List.findIdx?_eq_some_iff_getElem]
  refine ⟨hk, by rw [← nth_lt hk, h]; simp, fun j hj => ?_⟩
  have := h0 j hj
  rw [nth_lt (by omega)] at this
  simpa using this

theorem find_none {xs : List Int} (h0 : ∀ t, t < xs.length → nth xs t ≠ 0) : xs.findIdx? (· == 0) = none := by
  rw [List.findIdx?_eq_none_iff]
  intro y hy
  obtain ⟨i, hi, rfl⟩ := List.getElem_of_mem hy
  have := h0 i hi
  rw [nth_lt hi] at this
  simpa using this

theorem not_held {Y : Yd} {n : Int} (h : ∀ i, i < Y.th.length → (Y.th.getD i noTh).has n = false) : held Y n = false := by
  unfold held
  rw [List.any_eq_false]
  intro t ht
  obtain ⟨i, hi, rfl⟩ := List.getElem_of_mem ht
  have := h i hi
  simpa [List.getD, hi] using this

theorem held_at {Y : Yd} {n : Int} {i : Nat} (hi : i < Y.th.length) (h : (Y.th.getD i noTh).has n = true) : held Y n = true :=
  held_of_mem (t := Y.th.getD i noTh) (by simp [List.getD, hi]) h

end Go.Lin.Hz
namespace Go.Proofs.Ytcifpigjcfkhmaa
open Go.RowKit Go.Lin Go.Lin.Hz

set_option maxHeartbeats 4000000 in
theorem isHeld_any (Y : Yd) (h4 : Y.th.length ≤ 4) (b : Nat) (x : Int) (w : World) {sb sc lb lc : Nat} {lv : List Value} (hc : RCell w b Y sb sc lb lc lv) :
    Calls Try.prog 68 #[.pointer (some ⟨b, 0, none⟩), .int .i64 x] w fun e w' => e = .returned (.bool (held Y x)) ∧ w = w' := by
  have HC := hid hc
  have c0 := hc.c0
  have c10 := hc.c10
  have hlt := hc.lt
  have hlt2 := hc.slt
  obtain ⟨n, hn⟩ : ∃ n, Y.th.length = n := ⟨_, rfl⟩
  rw [hn] at c0 c10 h4
  have HN := hid hn
  obtain ⟨r, hr⟩ : ∃ r, held Y x = r := ⟨_, rfl⟩
  rw [hr]
  have HR := hid hr
  clear hr hn hc
  go_enter Try.func68, Try.ntmps68
  go_wp2
  go_loopg [5, 6] n (fun k i _ wr => ∃ j : Nat, j ≤ n ∧ i = .int .i64 j ∧ k = n - j ∧ Hid (∀ t, t < j → (Y.th.getD t noTh).has x = false) ∧ w = wr)
  case atStart => exact ⟨0, by omega, rfl, rfl, hid (fun t ht => by omega), rfl⟩
  case round =>
    obtain ⟨j, hj, rfl, hk, HT, rfl⟩ := hrel
    have HK := hid hk; clear hk
    by_cases hltj : j < n
    · have ca := HC.out.a j (by rw [HN.out]; exact hltj)
      have cb := HC.out.b' j (by rw [HN.out]; exact hltj)
      obtain ⟨t, ht⟩ : ∃ t, Y.th.getD j noTh = t := ⟨_, rfl⟩
      rw [ht] at ca cb
      have HTE := hid ht
      clear ht
      go_wp2
      go_loopg [6] 2 (fun k i wr => w = wr ∧ ((k = 2 ∧ i = .int .i64 0) ∨ (k = 1 ∧ i = .int .i64 1 ∧ Hid (t.a ≠ x)) ∨ (k = 0 ∧ i = .int .i64 2 ∧ Hid (t.a ≠ x) ∧ Hid (t.b ≠ x))))
      case atStart => exact ⟨rfl, .inl ⟨rfl, rfl⟩⟩
      case round =>
        obtain ⟨rfl, ⟨rfl, rfl⟩ | ⟨rfl, rfl, H1⟩ | ⟨rfl, rfl, H1, H2⟩⟩ := hrel
        · by_cases hx : t.a = x
          · have hd : (t.a == x) = true := by simpa using hx
            have HX := hid hx
            clear hx
            go_wp2
            go_ret
            exact ⟨ret_bool (by rw [← HR.out]; exact (held_at (by rw [HN.out]; exact hltj) (by rw [HTE.out]; unfold Th.has; rw [HX.out]; simp)).symm), rfl⟩
          · have hd : (t.a == x) = false := by simpa using hx
            have HX := hid hx
            clear hx
            go_wp2
            go_roundg 1
            case measure => omega
            case rel => exact ⟨rfl, .inr (.inl ⟨rfl, by go_num, HX⟩)⟩
        · by_cases hx : t.b = x
          · have hd : (t.b == x) = true := by simpa using hx
            have HX := hid hx
            clear hx
            go_wp2
            go_ret
            exact ⟨ret_bool (by rw [← HR.out]; exact (held_at (by rw [HN.out]; exact hltj) (by rw [HTE.out]; unfold Th.has; rw [HX.out]; simp)).symm), rfl⟩
          · have hd : (t.b == x) = false := by simpa using hx
            have HX := hid hx
            clear hx
            go_wp2
            go_roundg 0
            case measure => omega
            case rel => exact ⟨rfl, .inr (.inr ⟨rfl, by go_num, H1, HX⟩)⟩
        · go_wp2
          go_roundg (n - (j + 1))
          case measure => have := HK.out; omega
          case rel => exact ⟨j + 1, by omega, by go_num, rfl, hid (lt_succ_all HT.out (by rw [HTE.out]; unfold Th.has; have h1 := H1.out; have h2 := H2.out; simp [h1, h2])), rfl⟩
    · obtain rfl : j = n := by omega
      go_wp2
      go_ret
      exact ⟨ret_bool (by rw [← HR.out]; exact (not_held (fun i hi => HT.out i (by rw [← HN.out]; exact hi))).symm), rfl⟩

set_option maxHeartbeats 2000000 in
theorem rCount_any (Y : Yd) (hst : Y.st.length = 8) (b : Nat) (s : Int) (w : World) {sb sc lb lc : Nat} {lv : List Value} (hc : RCell w b Y sb sc lb lc lv) :
    Calls Try.prog 69 #[.pointer (some ⟨b, 0, none⟩), .int .i64 s] w fun e w' => e = .returned (.int .i64 (count Y s)) ∧ w = w' := by
  have HC := hid hc
  have hlt := hc.lt
  have hres : count Y s = (cnt Y.st s 8 : Nat) := by
    unfold count cnt; rw [List.take_of_length_le (by omega)]
  obtain ⟨r, hr⟩ : ∃ r, count Y s = r := ⟨_, rfl⟩
  rw [hr] at hres ⊢
  have HR := hid hres
  have HL := hid hst
  clear hres hr hst hc
  go_enter Try.func69, Try.ntmps69
  go_wp2
  go_loopg [5, 6] 8 (fun k c i wr => ∃ j : Nat, j ≤ 8 ∧ i = .int .i64 j ∧ k = 8 - j ∧ c = .int .i64 (cnt Y.st s j : Nat) ∧ w = wr)
  case atStart => exact ⟨0, by omega, rfl, rfl, by simp [cnt], rfl⟩
  case round =>
    obtain ⟨j, hj, rfl, hk, rfl, rfl⟩ := hrel
    have HK := hid hk; clear hk
    by_cases hlt8 : j < 8
    · have HS := hid (cnt_succ (l := Y.st) (s := s) (j := j) (by rw [HL.out]; exact hlt8))
      have hle := cnt_le Y.st s j
      have hcl := HC.out.cs j hlt8
      obtain ⟨c, hc⟩ : ∃ c, cnt Y.st s j = c := ⟨_, rfl⟩
      rw [hc] at HS hle ⊢
      clear hc
      obtain ⟨x, hx⟩ : ∃ x, nth Y.st j = x := ⟨_, rfl⟩
      rw [hx] at HS hcl
      clear hx
      cases hp : (x == s)
      · have HP := hid hp
        go_wp2
        go_roundg (8 - (j + 1))
        case measure => have := HK.out; omega
        case rel => exact ⟨j + 1, by omega, by go_num, rfl, by rw [HS.out, HP.out]; rfl, rfl⟩
      · have HP := hid hp
        go_wp2
        go_roundg (8 - (j + 1))
        case measure => have := HK.out; omega
        case rel => exact ⟨j + 1, by omega, by go_num, rfl, by rw [HS.out, HP.out]; go_num, rfl⟩
    · obtain rfl : j = 8 := by omega
      go_wp2
      go_ret
      exact ⟨ret_int HR.out.symm, rfl⟩

set_option maxHeartbeats 2000000 in
theorem rHeld_any (Y : Yd) (h4 : Y.th.length ≤ 4) (b : Nat) (w : World) {sb sc lb lc : Nat} {lv : List Value} {Lb : List Nat} (hA : RAll w b Y sb sc lb lc lv Lb) :
    Calls Try.prog 70 #[.pointer (some ⟨b, 0, none⟩)] w fun e w' => ∃ u, e = .returned u ∧ Seg w' w.heap.size 3 1 u (heldAll Y).length ((heldAll Y).map (.int .i64)) ∧ Grew w w' := by
  have HH := hid (fun (n : Int) (y : World) (hy : Grew w y) => isHeld_any Y h4 b n y (hA.grew hy).cell)
  have hg := grew_refl w
  clear hA
  go_enter Try.func70, Try.ntmps70
  go_wp2
  go_loopg [3, 4] 8 (fun k out i wr => ∃ j n : Nat, j ≤ 8 ∧ n ≤ j ∧ i = .int .i64 j ∧ k = 8 - j ∧ Hid (n = (heldTo Y j).length) ∧ Hid (Seg wr w.heap.size 3 1 out n ((heldTo Y j).map (.int .i64))) ∧ Grew w wr)
  case atStart => exact ⟨0, 0, by omega, by omega, rfl, rfl, hid rfl, hid (Seg.nil _ _ _ _), hg⟩
  case round =>
    clear hg
    obtain ⟨j, n, hj, hnj, rfl, hk, HL, HS, hg⟩ := hrel
    have HK := hid hk; clear hk
    have hz := hg.size
    by_cases hlt8 : j < 8
    · have hsu := heldTo_succ Y j
      obtain ⟨p, hp⟩ : ∃ p, held Y (j : Int) = p := ⟨_, rfl⟩
      rw [hp] at hsu
      have HSU := hid hsu; clear hsu
      have H2 := hid (fun (y : World) (hy : Grew w y) => HH.out (j : Int) y hy)
      rw [hp] at H2
      clear hp
      cases p
      · go_wp2_with (go_at_call 68; with_reducible refine (H2.out _ hg).mono ?_; rintro e w1 ⟨rfl, rfl⟩)
        go_roundg (8 - (j + 1))
        case measure => have := HK.out; omega
        case rel => exact ⟨j + 1, n, by omega, by omega, by go_num, rfl, hid (by rw [HSU.out]; exact HL.out), hid (by rw [HSU.out]; exact HS.out), hg⟩
      · obtain ⟨vs, hvs⟩ : ∃ vs, (heldTo Y j).map (Value.int .i64) = vs := ⟨_, rfl⟩
        have HVS := hid hvs
        rw [hvs] at HS
        have hseg := HS.out
        clear hvs
        go_wp2_with (first
          | (go_at_call 68; with_reducible refine (H2.out _ hg).mono ?_; rintro e w1 ⟨rfl, rfl⟩)
          | (at_builtin; refine wpList_append_one rfl _ _ 24 rfl w.heap.size 3 Try.underlying24 Try.info3 rfl (by decide) _ (n) _ rfl (hseg.alloc _) _ _ _ rfl (one_new _ _ _) rfl (by omega) ?_ ?_; (simp only [World.size_alloc]; omega); intro v9 w9 hown9 hgrow9 hblk9; have hg9 := (hg.alloc hg.size _).grown hgrow9 (hg.alloc hg.size _).size (fun k e => (hseg.own k e).1); have hc9 := (bcell hg9).1; clear hgrow9))
        go_roundg (8 - (j + 1))
        case measure => have := HK.out; omega
        case rel => exact ⟨j + 1, n + 1, by omega, by omega, by go_num, rfl, hid (by rw [HSU.out]; simp [HL.out]), hid (by rw [HSU.out]; simpa [HVS.out] using hown9), hg9⟩
    · obtain rfl : j = 8 := by omega
      go_wp2
      go_ret
      exact ⟨_, rfl, by rw [show heldAll Y = heldTo Y 8 from rfl, ← HL.out]; exact HS.out, hg⟩

set_option maxHeartbeats 2000000 in
theorem rTake_any (Y : Yd) (hI : Inv Y) (b : Nat) (Fp : List Nat) (t : Int) (w : World) (hy : IsRef w b Y Fp) :
    Calls Try.prog 42 #[.pointer (some ⟨b, 0, none⟩), .int .i64 t] w fun e w' => e = .returned (.tuple #[.int .i64 (take Y t).2.1, .int .i64 (take Y t).2.2]) ∧ RDoes w w' b Fp (take Y t).1 := by
  have HY := hid hy
  obtain ⟨sb, sc, lb, lc, lv, Lb, hA, rfl⟩ := hy
  have hc := hA.cell
  have HC := hid hc
  have HA := hid hA
  have h4 := hI.th.2
  have hlt := hc.lt
  have hg := grew_refl w
  have HT := hid (rThreadY (h4 := h4) hc t)
  have FZ := hid hc.fb
  have HST := hid hI.st
  cases hp1 : isT Y t
  · have hres : take Y t = (Y, 0, 2) := by simp [take, hp1]
    rw [hres]
    rw [hp1] at HT
    clear hres hp1 hc hA
    go_enter Try.func42, Try.ntmps42
    go_wp2_with (go_at_call 65; with_reducible refine (HT.out _ hg).mono ?_; rintro e w1 ⟨rfl, hx⟩; replace hg := grew_trans hg hx; have hc := (bcell hg).1)
    go_ret2
    exact ⟨rfl, RDoes.same HY.out hg⟩
  · have HP := hid hp1
    obtain ⟨Y', r1, r2, hR⟩ : ∃ Y' r1 r2, take Y t = (Y', r1, r2) := ⟨_, _, _, rfl⟩
    rw [hR]
    have HR := hid hR
    clear hR
    rw [hp1] at HT
    clear hp1 hc hA
    go_enter Try.func42, Try.ntmps42
    go_wp2_with (go_at_call 65; with_reducible refine (HT.out _ hg).mono ?_; rintro e w1 ⟨rfl, hx⟩; replace hg := grew_trans hg hx; have hc := (bcell hg).1)
    go_loopg [6] 8 (fun k i wr => ∃ j : Nat, j ≤ 8 ∧ i = .int .i64 j ∧ k = 8 - j ∧ Hid (∀ t, t < j → nth Y.st t ≠ 0) ∧ Grew w wr)
    case atStart => exact ⟨0, by omega, rfl, rfl, hid (fun t ht => by omega), hg⟩
    case round =>
      clear hg hc hx
      obtain ⟨j, hj, rfl, hk, HNZ, hg⟩ := hrel
      have HK := hid hk; clear hk
      by_cases hlt8 : j < 8
      · have hcl := (hg.cell (p := ⟨b, 2 + j, none⟩) hlt).trans (HC.out.cs j hlt8)
        have hfz := (hg.frozen (p := ⟨b, 2 + j, none⟩) hlt).trans (FZ.out (2 + j))
        have hblt := Nat.lt_of_lt_of_le hlt hg.size
        by_cases hz : nth Y.st j = 0
        · have hres : take Y t = (Hz.setN Y j 1, (j : Int), 0) := by
            simp only [take, HP.out, if_true, find_at (xs := Y.st) (by rw [HST.out]; exact hlt8) hz HNZ.out]
          rw [HR.out] at hres
          obtain ⟨rfl, rfl, rfl⟩ : Y' = Hz.setN Y j 1 ∧ r1 = (j : Int) ∧ r2 = 0 := by simpa using hres
          rw [hz] at hcl
          clear hres hz
          go_wp2
          go_ret2
          exact ⟨rfl, RDoes.setN HA.out hg hlt8 _⟩
        · obtain ⟨x, hx⟩ : ∃ x, nth Y.st j = x := ⟨_, rfl⟩
          rw [hx] at hcl
          have hne : (x == 0) = false := by rw [← hx]; simpa using hz
          have HZ := hid hz
          clear hz hx
          go_wp2
          go_roundg (8 - (j + 1))
          case measure => have := HK.out; omega
          case rel => exact ⟨j + 1, by omega, by go_num, rfl, hid (lt_succ_all HNZ.out HZ.out), hg⟩
      · obtain rfl : j = 8 := by omega
        have hres : take Y t = (Y, 0, 5) := by
          simp only [take, HP.out, if_true, find_none (xs := Y.st) (by rw [HST.out]; exact HNZ.out)]
        rw [HR.out] at hres
        have HRES := hid hres
        clear hres
        go_wp2
        go_ret2
        have h := HRES.out
        simp only [Prod.mk.injEq] at h
        obtain ⟨rfl, rfl, rfl⟩ := h
        exact ⟨rfl, RDoes.same HY.out hg⟩

end Go.Proofs.Ytcifpigjcfkhmaa
