/- Walk: Sweep. -/
import Derived.Test.YtcifpigjcfkhmaaHSweep3
namespace Go.Proofs.Ytcifpigjcfkhmaa
open Go.RowKit Go.Lin Go.Lin.Hz

theorem Does.of {w w1 w' : World} {b : Nat} {Y' : Yd} {Fp : List Nat} (hg : Grew w w1) (hy : IsYard w' b Y' Fp) (hk : Keeps (fun k _ => k ∈ Fp) w1 w') : Does w w' b Fp Y' :=
  ⟨Fp, hy, (Grew.keeps hg).trans hk, fun _ h => .inl h⟩

theorem YAll.grew {w w' : World} {b : Nat} {Y : Yd} {tb cap : Nat} {lv : List Value} {Fp : List Nat} (h : YAll w b Y tb cap lv Fp) (hg : Grew w w') : YAll w' b Y tb cap lv Fp :=
  let ⟨cur, h1, h2⟩ := h.row
  ⟨h.run.grew hg, ⟨cur, (hg.block _ (lt_of_obj h1)).trans h1, h2⟩, h.le, h.max, fun i hi => let ⟨v, hv, hs⟩ := h.list i hi; ⟨v, hv, hs.grew hg⟩, h.fp, h.nd⟩

set_option maxHeartbeats 1000000 in
theorem sweepD_any (Y : Yd) (hI : Inv Y) (b : Nat) (Fp : List Nat) (t : Int) (w : World) (hy : IsYard w b Y Fp) :
    Calls Try.prog 24 #[.pointer (some ⟨b, 0, none⟩), .int .i64 t] w fun e w' => e = .returned (.tuple #[.int .i64 (sweep Y t).2.1, .int .i64 (sweep Y t).2.2]) ∧ Does w w' b Fp (sweep Y t).1 := by
  obtain ⟨tb, cap, lv, hA⟩ := YAll.of hy hI.st hI.th.2
  have HY := hid hy
  have hv := hA.run.view
  have hh := hv.head
  have HH := hid hh
  have hlt := hh.lt
  have hlt2 := hv.th.lt
  have hg := grew_refl w
  have HT := hid (fun (y : World) (hy : Grew w y) => isThreadY hI b t y (hh.grew hy))
  by_cases ht : isT Y t = true
  · have HB := hid ht
    have hres : sweep Y t = (sweepY Y t, sweepN Y t, 0) := by simp only [sweep, ht, if_true]
    rw [hres]
    rw [isT_iff] at ht
    obtain ⟨i, rfl⟩ : ∃ i : Nat, t = i := ⟨t.toNat, by omega⟩
    have c9 := hv.c9
    have HS := hid (fun (y : World) (hy : Grew w y) => sweep61_any Y hI b tb cap lv Fp i (by omega) y (hA.grew hy))
    obtain ⟨m, hm⟩ : ∃ m, Y.th.length = m := ⟨_, rfl⟩
    have him : i < m := by omega
    have hm4 : m ≤ 4 := by have := hI.th.2; omega
    rw [hm] at c9
    clear hres hm ht hv hh hA hy
    obtain ⟨r, hr⟩ : ∃ r, sweepN Y (i : Int) = r := ⟨_, rfl⟩
    rw [hr] at HS ⊢
    clear hr
    go_enter Try.func24, Try.ntmps24
    go_wp2_with (first
      | (go_at_call 59; with_reducible refine (HT.out _ hg).mono ?_; rintro e w1 ⟨q1, rfl, hs1, hx⟩; have S1 := hid hs1; clear hs1; replace hg := grew_trans hg hx; have hc := (bcell hg).1)
      | (go_at_call 49; with_reducible refine (ask1 hI HH.out asks80 hg S1.out).mono ?_; rintro e w3 ⟨rfl, hx⟩; replace hg := grew_trans hg hx; have hc := (bcell hg).1; rw [HB.out])
      | (go_at_call 61; (with_reducible refine (HS.out _ hg).mono ?_); rintro e w4 ⟨rfl, hy4, hk4⟩; have HY4 := hid hy4; have HK4 := hid hk4; clear hy4 hk4))
    go_ret2
    exact ⟨rfl, Does.of hg HY4.out HK4.out⟩
  · have hb : isT Y t = false := by simpa using ht
    have hres : sweep Y t = (Y, 0, 2) := by simp [sweep, hb]
    rw [hres]
    have HB := hid hb
    clear hb hres ht hv hh hA hy
    go_enter Try.func24, Try.ntmps24
    go_wp2_with (first
      | (go_at_call 59; with_reducible refine (HT.out _ hg).mono ?_; rintro e w1 ⟨q1, rfl, hs1, hx⟩; have S1 := hid hs1; clear hs1; replace hg := grew_trans hg hx; have hc := (bcell hg).1)
      | (go_at_call 49; with_reducible refine (ask1 hI HH.out asks80 hg S1.out).mono ?_; rintro e w3 ⟨rfl, hx⟩; replace hg := grew_trans hg hx; have hc := (bcell hg).1; rw [HB.out]))
    go_ret2
    exact ⟨rfl, Does.same HY.out hg⟩

end Go.Proofs.Ytcifpigjcfkhmaa
