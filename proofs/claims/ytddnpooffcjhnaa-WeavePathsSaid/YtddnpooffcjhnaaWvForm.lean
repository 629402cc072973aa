/- Walks of the reference: IsWord, starts. -/
import Derived.Test.YtddnpooffcjhnaaWvDep
namespace Go.Lin

theorem keeps_of_grown {w w' : World} {row : Option Nat} (h : w.grownBy w' row) : Keeps (fun k _ => row = some k) w w' :=
  (Keeps.refl _ w).grown h (fun _ _ e _ => e)

end Go.Lin
namespace Go.Lin.Wv

theorem starts_succ {D : Int → Int → Bool} {j : Nat} {x : List Int} : starts D (j + 1) x = if (free D x (j : Int)).isSome then starts D j x ++ [(j : Int)] else starts D j x := by
  unfold starts
  rw [List.range_succ, List.map_append, List.filter_append]
  cases h : (free D x (j : Int)).isSome <;> simp [h]

theorem starts_le (D : Int → Int → Bool) (j : Nat) (x : List Int) : (starts D j x).length ≤ j := by
  unfold starts
  refine Nat.le_trans (List.length_filter_le _ _) ?_
  simp

end Go.Lin.Wv
namespace Go.Proofs.Ytddnpooffcjhnaa
open Go.RowKit Go.Lin Go.Lin.Wv

theorem isInts_any {w : World} {base : Nat} {e : TypeId} {v : Value} {n : Nat} {xs : List Int} (h : Seg w base e 1 v n (xs.map (.int .i64))) : IsInts Any w v xs := Reads.any h.isInts

set_option maxHeartbeats 4000000 in
theorem isW_any (v : Value) (L : Lt) (wv : Value) (x : List Int) (w : World) (hv : IsLt w v L) (hx : IsInts Any w wv x) : Calls Try.prog 53 #[v, wv] w fun e w' => e = .returned (.bool (isW L x)) ∧ Grew w w' := by
  have HISL := hid (fun (b : Int) (y : World) (hy : Grew w y) => isL_any v L b y (hv.grew hy))
  obtain ⟨s, rfl, hps⟩ := hv
  obtain ⟨W0, hW0, g0, k0, k1, hz⟩ := box2 w (.int .i64 L.n) s 24
  obtain ⟨va, vc, rfl, hm, hc⟩ := hx
  obtain ⟨m, hmm⟩ : ∃ m, x.length = m := ⟨_, rfl⟩
  obtain ⟨r, hr⟩ : ∃ r, isW L x = r := ⟨_, rfl⟩
  rw [hr]
  rw [hmm] at hm hc ⊢
  have HM := hid hmm
  have HC := hid hc
  have HR := hid hr
  have hg := g0
  clear hmm hc hr hps
  go_enter Try.func53, Try.ntmps53
  go_wp2
  go_loopg [6, 9] m (fun k _ i wr => ∃ j : Nat, j ≤ m ∧ i = .int .i64 j ∧ k = m - j ∧ Hid ((x.take j).all (isL L) = true) ∧ Hid (Grew W0 wr))
  case atStart => exact ⟨0, by omega, rfl, rfl, hid rfl, hid (grew_refl _)⟩
  case round =>
    obtain ⟨j, hj, rfl, hk, HA, HG⟩ := hrel
    have HK := hid hk; clear hk
    rename World => wr
    by_cases hlt : j < m
    · obtain ⟨b, off, o, hva, hob, -, hcc⟩ := HC.out j hlt
      subst hva
      have hbl := lt_of_obj hob
      have hjx : j < x.length := by rw [HM.out]; exact hlt
      have htk := take_succ_nth hjx
      have hmem : nth x j ∈ x := by rw [nth_lt hjx]; exact List.getElem_mem _
      replace hcc : _ = some (Value.int .i64 (nth x j)) := hcc
      obtain ⟨y, hy⟩ : ∃ y, nth x j = y := ⟨_, rfl⟩
      rw [hy] at hcc htk hmem
      have hg := grew_trans g0 HG.out
      have hcw := (hg.cell (p := ⟨b, off + j, none⟩) hbl).trans hcc
      have hbw := Nat.lt_of_lt_of_le hbl hg.size
      have kw0 := (HG.out.cell (p := ⟨w.heap.size, 0, none⟩) hz).trans k0
      have kw1 := (HG.out.cell (p := ⟨w.heap.size, 1, none⟩) hz).trans k1
      have hzw := Nat.lt_of_lt_of_le hz HG.out.size
      have HI := hid (HISL.out y wr hg)
      have HTK := hid htk
      clear hob hcc hy htk
      cases hq : isL L y
      · have hrn : r = false := by
          rw [← HR.out]; unfold isW
          rw [show x.all (isL L) = false from List.all_eq_false.2 ⟨y, hmem, by rw [hq]; simp⟩, Bool.and_false]
        have HRN := hid hrn
        rw [hq] at HI
        clear hrn hq hmem
        go_wp2_with (go_at_call 79; with_reducible refine HI.out.mono ?_; rintro e w1 ⟨rfl, hx1⟩; have HX1 := hid hx1; clear hx1)
        go_ret
        exact ⟨by rw [HRN.out]; rfl, grew_trans hg HX1.out⟩
      · have HQ := hid hq
        rw [hq] at HI
        clear hq hmem
        go_wp2_with (go_at_call 79; with_reducible refine HI.out.mono ?_; rintro e w1 ⟨rfl, hx1⟩; have HX1 := hid hx1; clear hx1)
        go_roundg (m - (j + 1))
        case measure => have := HK.out; omega
        case rel => exact ⟨j + 1, by omega, by go_num, rfl, hid (by rw [HTK.out, List.all_append, HA.out]; simp [HQ.out]), hid (grew_trans HG.out HX1.out)⟩
    · obtain rfl : m = j := by omega
      have hrn : r = decide (m ≤ 10) := by
        rw [← HR.out]; unfold isW
        have := HA.out
        rw [List.take_of_length_le (by rw [HM.out]; exact Nat.le_refl _)] at this
        rw [this, Bool.and_true, HM.out]
      have HRN := hid hrn
      clear hrn
      go_wp2
      go_ret
      refine ⟨?_, grew_trans g0 HG.out⟩
      rw [HRN.out]
      exact ret_bool (by rw [decide_eq_decide]; omega)

set_option maxHeartbeats 4000000 in
theorem rStarts_any (v : Value) (L : Lt) (wv : Value) (x : List Int) (N : Nat) (w : World) (hN : L.n = (N : Int)) (hN6 : N ≤ 6) (hv : IsLt w v L) (hx : IsInts Any w wv x) : Calls Try.prog 94 #[v, wv] w fun e w' => ∃ u, e = .returned u ∧ Seg w' w.heap.size 3 1 u (starts (dep L) N x).length ((starts (dep L) N x).map (.int .i64)) ∧ Grew w w' := by
  have HFR := hid (fun (a : Int) (y : World) (hy : Grew w y) => free_any v L wv x a y (hv.grew hy) (Reads.grew hx hy))
  obtain ⟨s, rfl, hps⟩ := hv
  rw [hN] at HFR ⊢
  obtain ⟨W0, hW0, g0, k0, k1, hz⟩ := box2 w (.int .i64 (N : Int)) s 24
  have hg := g0
  clear hps hx
  go_enter Try.func94, Try.ntmps94
  go_wp2
  go_loopg [5, 6, 9] N (fun k out _ i wr => ∃ (j c : Nat), j ≤ N ∧ i = .int .i64 j ∧ k = N - j ∧ c ≤ j ∧ Hid (c = (starts (dep L) j x).length) ∧ Hid (Seg wr W0.heap.size 3 1 out c ((starts (dep L) j x).map (.int .i64))) ∧ Hid (Grew W0 wr))
  case atStart => exact ⟨0, 0, by omega, rfl, rfl, by omega, hid rfl, hid (Seg.nil _ _ _ _), hid (grew_refl _)⟩
  case round =>
    obtain ⟨j, c, hj, rfl, hk, hcj, HCL, HSG, HG⟩ := hrel
    have HK := hid hk; clear hk
    rename World => wr
    by_cases hlt : j < N
    · have hg := grew_trans g0 HG.out
      have hwr := HG.out.size
      have kw0 := (HG.out.cell (p := ⟨w.heap.size, 0, none⟩) hz).trans k0
      have kw1 := (HG.out.cell (p := ⟨w.heap.size, 1, none⟩) hz).trans k1
      have hzw := Nat.lt_of_lt_of_le hz HG.out.size
      have HF := hid (HFR.out (j : Int) wr hg)
      have hsu := starts_succ (D := dep L) (j := j) (x := x)
      obtain ⟨q, hq⟩ : ∃ q, free (dep L) x (j : Int) = q := ⟨_, rfl⟩
      rw [hq] at HF hsu
      have HSU := hid hsu
      clear hsu hq
      rcases q with _ | q
      · have h1 : decide (0 ≤ ix none) = false := by decide
        obtain ⟨z, hz1⟩ : ∃ z, ix none = z := ⟨_, rfl⟩
        rw [hz1] at HF h1
        clear hz1
        go_wp2_with (go_at_call 98; with_reducible refine HF.out.mono ?_; rintro e w1 ⟨rfl, hx1⟩; have HX1 := hid hx1; clear hx1)
        go_roundg (N - (j + 1))
        case measure => have := HK.out; omega
        case rel => exact ⟨j + 1, c, by omega, by go_num, rfl, by omega, hid (by rw [HSU.out]; exact HCL.out), hid (by rw [HSU.out]; exact HSG.out.grew HX1.out), hid (grew_trans HG.out HX1.out)⟩
      · have h1 : decide (0 ≤ ix (some q)) = true := by simp [ix]
        obtain ⟨z, hz1⟩ : ∃ z, ix (some q) = z := ⟨_, rfl⟩
        rw [hz1] at HF h1
        clear hz1
        obtain ⟨vs, hvs⟩ : ∃ vs, (starts (dep L) j x).map (Value.int .i64) = vs := ⟨_, rfl⟩
        have HVS := hid hvs
        rw [hvs] at HSG
        clear hvs
        go_wp2_with (first
          | (go_at_call 98; with_reducible refine HF.out.mono ?_; rintro e w1 ⟨rfl, hx1⟩; have HX1 := hid hx1; have hseg := HSG.out.grew hx1; have hsz1 := hx1.size; clear hx1)
          | (at_builtin; go_loud (refine wpList_append_one rfl _ _ 25 rfl W0.heap.size 3 Try.underlying25 Try.info3 rfl (by decide) _ c _ rfl (hseg.alloc _) _ _ _ rfl (one_new _ _ _) rfl (by omega) ?_ ?_); (simp only [World.size_alloc]; omega); intro v9 w9 hown9 hgrow9 hblk9; have HGR9 := hid hgrow9; clear hgrow9 hblk9))
        have hk9 := ((Keeps.refl (fun k _ => u5.ownBlock = some k) w1).alloc (.cells #[.int .i64 (j : Int)] 3)).trans (keeps_of_grown HGR9.out)
        have hb9 : Below W0.heap.size w1 w9 := hk9.below (by omega) (fun k o e => (hseg.own k e).1)
        have HW9 := hid (show Grew W0 w9 from (grew_trans HG.out HX1.out).trans hb9)
        clear hk9 hb9 hseg
        go_roundg (N - (j + 1))
        case measure => have := HK.out; omega
        case rel => exact ⟨j + 1, c + 1, by omega, by go_num, rfl, by omega, hid (by rw [HSU.out, HCL.out]; simp), hid (by rw [HSU.out, Option.isSome_some, if_pos rfl, List.map_append, HVS.out]; exact hown9), HW9⟩
    · obtain rfl : N = j := by omega
      have hgw := grew_trans g0 HG.out
      go_wp2
      go_ret
      exact ⟨_, rfl, by rw [← HCL.out]; exact HSG.out.mono g0.size, hgw⟩

end Go.Proofs.Ytddnpooffcjhnaa
