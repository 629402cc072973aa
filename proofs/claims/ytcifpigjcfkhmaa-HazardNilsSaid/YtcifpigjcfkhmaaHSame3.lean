/- Walk: Same. -/
import Derived.Test.YtcifpigjcfkhmaaHSame2
namespace Go.Proofs.Ytcifpigjcfkhmaa
open Go.RowKit Go.Lin Go.Lin.Hz

theorem head_eight {w : World} {b : Nat} {Y : Yd} (hh : YHead w b Y) (hst : Y.st.length = 8) : ∃ x0 x1 x2 x3 x4 x5 x6 x7, Y.st = [x0, x1, x2, x3, x4, x5, x6, x7] ∧
    w.cell? ⟨b, 1, none⟩ = some (.int .i64 x0) ∧ w.cell? ⟨b, 2, none⟩ = some (.int .i64 x1) ∧ w.cell? ⟨b, 3, none⟩ = some (.int .i64 x2) ∧ w.cell? ⟨b, 4, none⟩ = some (.int .i64 x3) ∧
    w.cell? ⟨b, 5, none⟩ = some (.int .i64 x4) ∧ w.cell? ⟨b, 6, none⟩ = some (.int .i64 x5) ∧ w.cell? ⟨b, 7, none⟩ = some (.int .i64 x6) ∧ w.cell? ⟨b, 8, none⟩ = some (.int .i64 x7) := by
  obtain ⟨x0, x1, x2, x3, x4, x5, x6, x7, h⟩ := Go.Proofs.Ytcifpigjcfkhmaa.eight hst
  have hc := hh.cs
  rw [h] at hc
  exact ⟨x0, x1, x2, x3, x4, x5, x6, x7, h, hc 0 (by omega), hc 1 (by omega), hc 2 (by omega), hc 3 (by omega), hc 4 (by omega), hc 5 (by omega), hc 6 (by omega), hc 7 (by omega)⟩

/-- A yard as Same reads it. -/
structure YSee (w : World) (b : Nat) (Y : Yd) (tb cap : Nat) (lv : List Value) : Prop where
  head : YHead w b Y
  c9 : w.cell? ⟨b, 9, none⟩ = some (.slice (some ⟨tb, 0, none⟩) Y.th.length cap)
  th : ThL w tb Y.th lv
  st : Y.st.length = 8
  len : Y.th.length ≤ 4
  size : 1 ≤ Y.size

theorem YSee.grew {w w' : World} {b : Nat} {Y : Yd} {tb cap : Nat} {lv : List Value} (h : YSee w b Y tb cap lv) (hg : Grew w w') : YSee w' b Y tb cap lv :=
  ⟨h.head.grew hg, (hg.cell (p := ⟨b, 9, none⟩) h.head.lt).trans h.c9, h.th.grew hg, h.st, h.len, h.size⟩

theorem YSee.of {w : World} {b : Nat} {Y : Yd} {Fp : List Nat} (h : IsYard w b Y Fp) (hI : Inv Y) : ∃ tb cap lv, YSee w b Y tb cap lv := by
  obtain ⟨tb, cap, lv, hA⟩ := YAll.of h hI.st hI.th.2
  exact ⟨tb, cap, lv, hA.run.view.head, hA.run.view.c9, ⟨hA.run.th, fun i hi => let ⟨v, h1, h2⟩ := hA.list i hi; ⟨v, h1, h2.reads.any⟩⟩, hI.st, hI.th.2, hI.size.1⟩

theorem YSee.none {Y : Yd} {w : World} {b : Nat} {tb cap : Nat} {lv : List Value} (h : YSee w b Y tb cap lv) : ∀ y, Grew w y → Calls Try.prog 56 #[.pointer (some ⟨b, 0, none⟩)] y fun e w' => e = .returned (.bool false) ∧ Grew y w' := by
  intro y hy
  refine (none_at b Y.size y (h.head.grew hy).c0).mono ?_
  rintro e w' ⟨rfl, hg⟩
  refine ⟨ret_bool ?_, hg⟩
  have := h.size
  simp; omega

theorem eq63 (a b c d e f g i a' b' c' d' e' f' g' i' : Int) (w : World) : (Op.equalIn 10000 63 (.agg #[.int .i64 a, .int .i64 b, .int .i64 c, .int .i64 d, .int .i64 e, .int .i64 f, .int .i64 g, .int .i64 i])
    (.agg #[.int .i64 a', .int .i64 b', .int .i64 c', .int .i64 d', .int .i64 e', .int .i64 f', .int .i64 g', .int .i64 i'])).run Try.prog w = .ok ([a, b, c, d, e, f, g, i] == [a', b', c', d', e', f', g', i']) w :=
  run_equalIn_ints w 9998 63 62 8 Try.underlying63 Try.underlying62 (fun _ => by kernel_rfl) [a, b, c, d, e, f, g, i] [a', b', c', d', e', f', g', i'] rfl rfl

set_option maxHeartbeats 4000000 in
theorem same_any (Y Z : Yd) (b b' tb tb' cap cap' : Nat) (lv lv' : List Value) (w : World) (hy : YSee w b Y tb cap lv) (hz : YSee w b' Z tb' cap' lv') :
    Calls Try.prog 45 #[.pointer (some ⟨b, 0, none⟩), .pointer (some ⟨b', 0, none⟩)] w fun e w' => e = .returned (.bool (decide (Y = Z))) ∧ Grew w w' := by
  have HN := hid hy.none
  have HN' := hid hz.none
  have HY := hid hy
  have HZ := hid hz
  have hlt := hy.head.lt
  have hlt' := hz.head.lt
  have hg := grew_refl w
  obtain ⟨r, hr⟩ : ∃ r, decide (Y = Z) = r := ⟨_, rfl⟩
  have hr2 : r = ((Y.size == Z.size && (Y.st == Z.st)) && decide (Y.th = Z.th)) := by
    rw [← hr, Bool.eq_iff_iff]
    obtain ⟨ys, yst, yth⟩ := Y
    obtain ⟨zs, zst, zth⟩ := Z
    simp [and_assoc]
  rw [hr]
  have HR := hid hr2
  clear hr hr2
  obtain ⟨p1, hp1⟩ : ∃ p, (Y.size == Z.size) = p := ⟨_, rfl⟩
  obtain ⟨p2, hp2⟩ : ∃ p, (Y.st == Z.st) = p := ⟨_, rfl⟩
  obtain ⟨p3, hp3⟩ : ∃ p, decide (Y.th = Z.th) = p := ⟨_, rfl⟩
  rw [hp1, hp2, hp3] at HR
  have HP1 := hid hp1
  have HP2 := hid hp2
  have HP3 := hid hp3
  clear hp1 hp2 hp3 hy hz
  go_enter Try.func45, Try.ntmps45
  go_wp2_with (first
    | (go_at_call 56; with_reducible refine (HN.out _ hg).mono ?_; rintro e w1 ⟨rfl, hx⟩; replace hg := grew_trans hg hx; have hc := (bcell hg).1)
    | (go_at_call 56; with_reducible refine (HN'.out _ hg).mono ?_; rintro e w1 ⟨rfl, hx⟩; replace hg := grew_trans hg hx; have hc := (bcell hg).1))
  rename World => wr
  have hy := HY.out.grew hg
  have hz := HZ.out.grew hg
  have hE := equalFunc_any Y.th Z.th lv lv' tb tb' cap cap'
  have HE := hid (fun (y : World) (hyy : Grew wr y) => hE y (hy.th.grew hyy) (hz.th.grew hyy) hy.len hz.len)
  rw [HP3.out] at HE
  obtain ⟨x0, x1, x2, x3, x4, x5, x6, x7, hst, k0, k1, k2, k3, k4, k5, k6, k7⟩ := head_eight hy.head hy.st
  obtain ⟨y0, y1, y2, y3, y4, y5, y6, y7, hst', l0, l1, l2, l3, l4, l5, l6, l7⟩ := head_eight hz.head hz.st
  have hlr := hy.head.lt
  have hlr2 := hz.head.lt
  have c0 := hy.head.c0
  have c0' := hz.head.c0
  have c9 := hy.c9
  have c9' := hz.c9
  have hq1 := HP1.out
  have hq2 := HP2.out
  rw [hst, hst'] at hq2
  have HEQ := fun w => eq63 x0 x1 x2 x3 x4 x5 x6 x7 y0 y1 y2 y3 y4 y5 y6 y7 w
  rw [hq2] at HEQ
  obtain ⟨n1, hn1⟩ : ∃ n, Y.th.length = n := ⟨_, rfl⟩
  obtain ⟨n2, hn2⟩ : ∃ n, Z.th.length = n := ⟨_, rfl⟩
  obtain ⟨s1, hs1⟩ : ∃ n, Y.size = n := ⟨_, rfl⟩
  obtain ⟨s2, hs2⟩ : ∃ n, Z.size = n := ⟨_, rfl⟩
  rw [hn1] at HE c9
  rw [hn2] at HE c9'
  rw [hs1] at c0 hq1
  rw [hs2] at c0' hq1
  have HG := hid hg
  clear hn1 hn2 hs1 hs2 hst hst' hq2 hE hy hz hg hc HP1 HP2
  cases p1
  · refine wp_region_later (by kernel_rfl) (by kernel_rfl) (fun hL => ?_)
    repeat (go_big_quiet_step ((go_at_call 71; exact calls_later (HE.out _ (Subtype.property _)))))
    refine wpQuiet_nil ?_
    rintro wy ⟨y, hy⟩
    have hgy : Grew w wy := by rw [hy]; exact grew_trans HG.out y.2
    clear hL hy y
    go_wp2
    go_ret
    exact ⟨ret_bool (by rw [HR.out]; rfl), hgy⟩
  · cases p2
    · refine wp_region_later (by kernel_rfl) (by kernel_rfl) (fun hL => ?_)
      repeat (go_big_quiet_step ((go_at_call 71; exact calls_later (HE.out _ (Subtype.property _)))))
      refine wpQuiet_nil ?_
      rintro wy ⟨y, hy⟩
      have hgy : Grew w wy := by rw [hy]; exact grew_trans HG.out y.2
      clear hL hy y
      go_wp2
      go_ret
      exact ⟨ret_bool (by rw [HR.out]; rfl), hgy⟩
    · refine wp_region_later (by kernel_rfl) (by kernel_rfl) (fun hL => ?_)
      repeat (go_big_quiet_step ((go_at_call 71; exact calls_later (HE.out _ (Subtype.property _)))))
      refine wpQuiet_nil ?_
      rintro wy ⟨y, hy⟩
      have hgy : Grew w wy := by rw [hy]; exact grew_trans HG.out y.2
      clear hL hy y
      go_wp2
      go_ret
      exact ⟨ret_bool (by rw [HR.out]; rfl), hgy⟩

end Go.Proofs.Ytcifpigjcfkhmaa
