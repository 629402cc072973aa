/- Walk: the program's Valid. -/
import Derived.Test.YtddnpooffcjhnaaWvKeys
namespace Go.Lin.Wv

theorem pairsOk_drop {n : Int} {s ps : List (Int × Int)} {j : Nat} {x : Int × Int} (h : ps[j]? = some x) : pairsOk n s (ps.drop j) = (pairOk n x && !s.contains x && pairsOk n (s ++ [x]) (ps.drop (j + 1))) := by
  have : ps.drop j = x :: ps.drop (j + 1) := by
    obtain ⟨h1, h2⟩ := List.getElem?_eq_some_iff.1 h
    rw [← h2]
    exact List.drop_eq_getElem_cons h1
  rw [this]
  rfl

theorem take_add_get {α : Type} {l : List α} {j : Nat} {x : α} (h : l[j]? = some x) : l.take (j + 1) = l.take j ++ [x] := by
  rw [List.take_add_one, h]; rfl

end Go.Lin.Wv
namespace Go.Proofs.Ytddnpooffcjhnaa
open Go.RowKit Go.Lin Go.Lin.Wv Go.Maps

set_option maxHeartbeats 8000000 in
set_option maxRecDepth 20000 in
theorem valid_any (v : Value) (L : Lt) (w : World) (hn : L.n ≤ 9223372036854775807) (hv : IsLt w v L) : Calls Try.prog 37 #[v] w fun e w' => e = .returned (.bool (valid L)) ∧ Grew w w' := by
  obtain ⟨N, ps⟩ := L
  obtain ⟨s, rfl, va, vc, rfl, hm, hdd⟩ := hv
  simp only at hn hm hdd ⊢
  obtain ⟨m, hmm⟩ : ∃ m, ps.length = m := ⟨_, rfl⟩
  obtain ⟨W0, hW0, g0, k0, k1, hz⟩ := box2 w (.int .i64 N) (.slice va m vc) 24
  rw [hmm] at hm ⊢
  obtain ⟨R, hR⟩ : ∃ R, valid ⟨N, ps⟩ = R := ⟨_, rfl⟩
  rw [hR]
  have HR := hid (show R = (pairsOk N (ps.take 0) (ps.drop 0) && (decide (1 ≤ N) && decide (N ≤ 6))) from by rw [← hR]; rfl)
  have HM := hid hmm
  have HDD := hid hdd
  have hg := g0
  have hz0 := hz
  have hmk := FMap.made W0 Try.prog 57 4 encQ Lit.bool false
  have HMAP0 := hid (hmk.congr (S' := fun x => (ps.take 0).contains x) (fun x => by simp))
  have hrm := @run_makeMap Try.prog
  clear hmm hdd hR hmk
  go_enter Try.func37, Try.ntmps37
  go_wp2
  go_loopg [2, 5, 10] m (fun k res bx i wr => ∃ j : Nat, j ≤ m ∧ i = .int .i64 j ∧ k = m - j ∧ Hid (R = (pairsOk N (ps.take j) (ps.drop j) && (decide (1 ≤ N) && decide (N ≤ 6)))) ∧ Hid (FMap wr Try.prog 57 4 W0.heap.size j encQ Lit.bool false (fun x => (ps.take j).contains x)) ∧ Hid (Below W0.heap.size W0 wr))
  case atStart => exact ⟨0, by omega, rfl, rfl, HR, HMAP0, hid (grew_alloc (grew_refl _) _)⟩
  case round =>
    obtain ⟨j, hj, rfl, hk, HRR, HMAP, HG⟩ := hrel
    have HK := hid hk; clear hk
    rename World => wr
    have kw0 := (HG.out.cell (p := ⟨w.heap.size, 0, none⟩) hz).trans k0
    have kw1 := (HG.out.cell (p := ⟨w.heap.size, 1, none⟩) hz).trans k1
    have hzw := Nat.lt_of_lt_of_le hz HG.out.size
    by_cases hlt : j < m
    · obtain ⟨x, hx⟩ : ∃ x, ps[j]? = some x := ⟨_, List.getElem?_eq_getElem (by rw [HM.out]; exact hlt)⟩
      obtain ⟨bb, off, rfl, hpa⟩ := HDD.out j x hx
      have hpa' := (hpa.grew hpa.lt g0)
      have hpa2 := (hpa'.grew hpa'.lt HG.out)
      have c0 := hpa2.c0
      have c1 := hpa2.c1
      have hlt2 := hpa2.lt
      have hsucc := pairsOk_drop (n := N) (s := ps.take j) hx
      rw [← take_add_get hx] at hsucc
      have HTK := hid (take_add_get hx)
      obtain ⟨x1, x2⟩ := x
      simp only at c0 c1
      obtain ⟨W1, hW1, g1, l0, l1, hz1⟩ := box2 wr (.int .i64 x1) (.int .i64 x2) 57
      have hg1 := HG.out.trans (g1.mono (by have := HG.out.size; exact this))
      have HG1 := hid hg1
      have kx0 := (g1.cell (p := ⟨w.heap.size, 0, none⟩) hzw).trans kw0
      have hzx := Nat.lt_of_lt_of_le hzw g1.size
      obtain ⟨p1, hp1⟩ : ∃ q, decide (x1 < 0) = q := ⟨_, rfl⟩
      obtain ⟨p2, hp2⟩ : ∃ q, decide (x1 ≥ x2) = q := ⟨_, rfl⟩
      obtain ⟨p3, hp3⟩ : ∃ q, decide (x2 ≥ N) = q := ⟨_, rfl⟩
      have hpo : pairOk N (x1, x2) = !(p1 || p2 || p3) := by
        unfold pairOk; rw [← hp1, ← hp2, ← hp3]
      rw [hpo] at hsucc
      clear hpo
      have hbad : (p1 || p2 || p3) = true → R = false := fun h => by rw [HRR.out, hsucc, h]; rfl
      cases p1 <;> cases p2 <;> cases p3
      all_goals (
        first
        | (have hrn := hbad rfl
           have HRN := hid hrn
           clear hbad hrn hsucc hx hpa hpa' hpa2
           go_wp2
           go_ret
           exact ⟨by rw [HRN.out]; rfl, grew_trans g0 (HG1.out.mono (by omega))⟩)
        | skip)
      have hp1' : ¬ x1 < 0 := of_decide_eq_false hp1
      have hp2' : ¬ x1 ≥ x2 := of_decide_eq_false hp2
      have hp3' : ¬ x2 ≥ N := of_decide_eq_false hp3
      have k1' : (Lit.int .i64 x1).wf = true := WalkArith.wf_i64 (by omega)
      have k2' : (Lit.int .i64 x2).wf = true := WalkArith.wf_i64 (by omega)
      obtain ⟨kl, hkl⟩ := key57 (x1, x2) k1' k2'
      have hM1 := HMAP.out.grew g1
      have hlk := hM1.lookup_bool keyed57 Try.underlying84 Try.underlying4 (zero4 W1) hkl
      obtain ⟨q, hq⟩ : ∃ q, (ps.take j).contains (x1, x2) = q := ⟨_, rfl⟩
      simp only [hq, encQ] at hlk
      rw [hq] at hsucc
      cases q
      · have HSC := hid hsucc
        have HM1 := hid hM1
        have HKL := hid hkl
        have HQ := hid hq
        clear hbad hsucc hx hpa hpa' hpa2 hM1 hkl hq hp1' hp2' hp3' k1' k2'
        go_wp2_with (refine wpList_update_f rfl _ _ _ 84 (.inl rfl) keyed57 Try.underlying84 rfl HM1.out (by unfold maxLen; omega) (x1, x2) rfl HKL.out (fun u h => encQ_inj _ _ h) (.bool true) rfl (e := true) (plainElem_bool Try.underlying4 true) (fun x => (ps.take (j + 1)).contains x) (by rw [HTK.out]; simp) (fun u hu => by
          rw [HTK.out, List.contains_eq_any_beq, List.contains_eq_any_beq, List.any_append]
          have : (u == (x1, x2)) = false := by simpa using hu
          simp [this]) ?_; intro w2 hmap2 hgr2; have HMAP2 := hid hmap2; have HGR2 := hid hgr2; clear hmap2 hgr2)
        go_roundg (m - (j + 1))
        case measure => have := HK.out; omega
        case rel => exact ⟨j + 1, by omega, by go_num, rfl, hid (by rw [HRR.out, HSC.out]; rfl), HMAP2, hid (HG1.out.grown HGR2.out HG1.out.size (fun k e => by cases e; exact Nat.le_refl _))⟩
      · have hrn : R = false := by rw [HRR.out, hsucc]; rfl
        have HRN := hid hrn
        clear hbad hrn hsucc hx hpa hpa' hpa2 hM1 hkl hq hp1' hp2' hp3' k1' k2'
        go_wp2
        go_ret
        exact ⟨by rw [HRN.out]; rfl, grew_trans g0 (HG1.out.mono (by omega))⟩
    · obtain rfl : m = j := by omega
      have hrn : R = (decide (1 ≤ N) && decide (N ≤ 6)) := by
        rw [HRR.out, List.drop_of_length_le (by rw [HM.out]; exact Nat.le_refl _)]; rfl
      have HB := hid (between_any 1 N 6 wr)
      rw [← hrn] at HB
      clear hrn
      go_wp2_with (go_at_call 61; (with_reducible refine HB.out.mono ?_); rintro e w1 ⟨rfl, hx⟩; have HX := hid hx; clear hx)
      go_ret
      exact ⟨rfl, grew_trans g0 (HG.out.trans (HX.out.mono HG.out.size))⟩

end Go.Proofs.Ytddnpooffcjhnaa
