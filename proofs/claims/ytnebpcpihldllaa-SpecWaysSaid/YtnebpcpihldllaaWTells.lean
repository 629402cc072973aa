/- Walks: Tells, of both texts. -/
import Derived.Test.YtnebpcpihldllaaWRuns
namespace Go.Proofs.Ytnebpcpihldllaa
open Go.RowKit Go.Lin

set_option maxHeartbeats 1000000 in
theorem tells1_any (s : RSpec) (sv v : Value) (A B C : Nat) (a b : Int) (ws : List Int) (w : World) (h1 : 1 ≤ s.st) (h2 : s.st ≤ 8) (o1 : 1 ≤ s.ops) (o2 : s.ops ≤ 8) (hs : IsSpec w sv s) (hA : w.cell? ⟨A, 0, none⟩ = some (.int .i64 a)) (hB : w.cell? ⟨B, 0, none⟩ = some (.int .i64 b)) (hC : w.cell? ⟨C, 0, none⟩ = some v) (hx : IsInts Any w v ws) :
    Says 78 #[.pointer (some ⟨A, 0, none⟩), .pointer (some ⟨B, 0, none⟩), .pointer (some ⟨C, 0, none⟩)] sv ((inM s.st a && inM s.st b) && isWordM s.ops ws) w := by
  intro w' hw
  have hA' := (hw.cell (p := ⟨A, 0, none⟩) (World.block_lt_of_cell? w _ hA)).trans hA
  have hB' := (hw.cell (p := ⟨B, 0, none⟩) (World.block_lt_of_cell? w _ hB)).trans hB
  have hC' := (hw.cell (p := ⟨C, 0, none⟩) (World.block_lt_of_cell? w _ hC)).trans hC
  have HS := hs.grew hw
  have HX := hx.grew hw
  obtain ⟨nv, yv, rfl, _, _⟩ := hs
  obtain ⟨va, vc, rfl, _, _⟩ := hx
  clear hA hB hC hw
  obtain ⟨W0, hW0, g0, k0, k1, k2, k3, hz⟩ := box4 w' (.int .i64 s.st) (.int .i64 s.ops) nv yv 60
  have hltA := World.block_lt_of_cell? w' _ hA'
  have hltB := World.block_lt_of_cell? w' _ hB'
  have hltC := World.block_lt_of_cell? w' _ hC'
  have hA0 := (g0.cell (p := ⟨A, 0, none⟩) hltA).trans hA'
  have hB0 := (g0.cell (p := ⟨B, 0, none⟩) hltB).trans hB'
  have hC0 := (g0.cell (p := ⟨C, 0, none⟩) hltC).trans hC'
  obtain ⟨W1, hW1, g1, l0, l1, hz1⟩ := box2 W0 (.int .i64 a) (.int .i64 b) 3
  have m0 := (g1.cell (p := ⟨w'.heap.size, 0, none⟩) hz).trans k0
  have m1 := (g1.cell (p := ⟨w'.heap.size, 1, none⟩) hz).trans k1
  have m2 := (g1.cell (p := ⟨w'.heap.size, 2, none⟩) hz).trans k2
  have m3 := (g1.cell (p := ⟨w'.heap.size, 3, none⟩) hz).trans k3
  have hC1 := (g1.cell (p := ⟨C, 0, none⟩) (Nat.lt_of_lt_of_le hltC g0.size)).trans hC0
  have hltC1 : C < W1.heap.size := Nat.lt_of_lt_of_le hltC (Nat.le_trans g0.size g1.size)
  have hzm : w'.heap.size < W1.heap.size := Nat.lt_of_lt_of_le hz g1.size
  have hone : IsInts Any W1 (.slice (some ⟨W0.heap.size, 0, none⟩) 2 2) [a, b] := ⟨_, _, rfl, by simp, fun i hi => by
    have hi' : i = 0 ∨ i = 1 := by simp at hi; omega
    rcases hi' with rfl | rfl
    · exact ⟨_, _, _, rfl, Array.getElem?_eq_getElem hz1, trivial, by simpa [nth] using l0⟩
    · exact ⟨_, _, _, rfl, Array.getElem?_eq_getElem hz1, trivial, by simpa [nth] using l1⟩⟩
  have hst := state_any s _ _ _ W1 h1 h2 ((HS.grew g0).grew g1) hone
  simp only [List.all_cons, List.all_nil, Bool.and_true] at hst
  have HW := hid (fun (y : World) (hy : Grew W1 y) => word_any s _ _ ws y o1 o2 (((HS.grew g0).grew g1).grew hy) (((HX.grew g0).grew g1).grew hy))
  cases hi : inM s.st a && inM s.st b <;> rw [hi] at hst
  · have HST := hid hst; clear hone hst hi
    go_enter Try.func78, Try.ntmps78
    go_wp2_with (go_at_call 58; with_reducible refine HST.out.mono ?_; rintro e w1 ⟨rfl, hx⟩; have hc := (bcell hx).1)
    go_ret
    exact ⟨ret_bool rfl, grew_trans (grew_trans g0 g1) hx⟩
  · have HST := hid hst; clear hone hst hi
    rw [Bool.true_and]
    go_enter Try.func78, Try.ntmps78
    go_wp2_with (first | (go_at_call 58; with_reducible refine HST.out.mono ?_; rintro e w1 ⟨rfl, hx⟩; have hc := (bcell hx).1) | (go_at_call 74; with_reducible refine (HW.out _ hx).mono ?_; rintro e w2 ⟨rfl, hx2⟩))
    go_ret
    exact ⟨rfl, grew_trans (grew_trans g0 g1) (grew_trans hx hx2)⟩

/-- What 'opened' answers of two states and a word. -/
theorem opened_tells (s : RSpec) (sv v : Value) (A B C : Nat) (a b : Int) (ws : List Int) (w : World) (hs : IsSpec w sv s) (hA : w.cell? ⟨A, 0, none⟩ = some (.int .i64 a)) (hB : w.cell? ⟨B, 0, none⟩ = some (.int .i64 b)) (hC : w.cell? ⟨C, 0, none⟩ = some v) (hx : IsInts Any w v ws) :
    Calls Try.prog 56 #[sv, .func (.func 78) #[] #[.pointer (some ⟨A, 0, none⟩), .pointer (some ⟨B, 0, none⟩), .pointer (some ⟨C, 0, none⟩)]] w fun e w' => e = .returned (.tuple #[if tellsE s a b ws = 0 then sv else zeroSpec, .int .i64 (tellsE s a b ws)]) ∧ Grew w w' := by
  cases hv : validM s with
  | false =>
    have he : tellsE s a b ws = 10 := by unfold tellsE; rw [hv]; rfl
    rw [he]; exact opened_bad s _ _ _ hs hv
  | true =>
    obtain ⟨⟨b1, b2, b3, b4⟩, _⟩ := valid_parts hv
    have h := tells1_any s _ _ _ _ _ a b ws w b1 b2 b3 (by omega) hs hA hB hC hx
    cases hi : (inM s.st a && inM s.st b) && isWordM s.ops ws with
    | false =>
      have he : tellsE s a b ws = 2 := by unfold tellsE; rw [hv, hi]; rfl
      rw [he]; rw [hi] at h
      exact opened_arg s _ _ _ _ hs hv entered78 h
    | true =>
      have he : tellsE s a b ws = 0 := by unfold tellsE; rw [hv, hi]; rfl
      rw [he]; rw [hi] at h
      exact opened_ok s _ _ _ _ hs hv entered78 h

set_option maxHeartbeats 2000000 in
theorem tells_any (s : RSpec) (a b : Int) (ws : List Int) (sv v : Value) (w : World) (hs : IsSpec w sv s) (hx : IsInts Any w v ws) :
    Calls Try.prog 30 #[sv, .int .i64 a, .int .i64 b, v] w fun e w' => e = .returned (.tuple #[.bool (tellsB s a b ws), .int .i64 (tellsE s a b ws)]) ∧ Grew w w' := by
  have HS := hs
  have HX := hx
  have HM := hid (fun hv => hs.isMach hv)
  obtain ⟨na, nc, ya, yc, rfl⟩ := isSpec_open' hs
  clear hs
  obtain ⟨va, vc, rfl, _, _⟩ := hx
  obtain ⟨W0, hW0, g0, k0, k1, k2, k3, hz⟩ := box4 w (.int .i64 s.st) (.int .i64 s.ops) (.slice na s.next.length nc) (.slice ya s.says.length yc) 24
  obtain ⟨W1, hW1, g1, l0, hz1⟩ := box1 W0 (.int .i64 a) 3
  obtain ⟨W2, hW2, g2, m0, hz2⟩ := box1 W1 (.int .i64 b) 3
  obtain ⟨W3, hW3, g3, n0, hz3⟩ := box1 W2 (.slice va ws.length vc) 34
  have g23 := grew_trans g2 g3
  have g13 := grew_trans g1 g23
  have g03 := grew_trans g0 g13
  have e0 := (g23.cell (p := ⟨W0.heap.size, 0, none⟩) hz1).trans l0
  have e1 := (g3.cell (p := ⟨W1.heap.size, 0, none⟩) hz2).trans m0
  have r0 := (g13.cell (p := ⟨w.heap.size, 0, none⟩) hz).trans k0
  have r1 := (g13.cell (p := ⟨w.heap.size, 1, none⟩) hz).trans k1
  have r2 := (g13.cell (p := ⟨w.heap.size, 2, none⟩) hz).trans k2
  have r3 := (g13.cell (p := ⟨w.heap.size, 3, none⟩) hz).trans k3
  clear k0 k1 k2 k3
  have hop := opened_tells s _ _ _ _ _ a b ws W3 (HS.grew g03) e0 e1 n0 (HX.grew g03)
  have hy0 : w.heap.size < W3.heap.size := Nat.lt_of_lt_of_le hz g13.size
  have hy1 : W0.heap.size < W3.heap.size := Nat.lt_of_lt_of_le hz1 g23.size
  have hy2 : W1.heap.size < W3.heap.size := Nat.lt_of_lt_of_le hz2 g3.size
  by_cases hok : tellsE s a b ws = 0
  · obtain ⟨hv, hi, hj, hw⟩ := tellsE_zero hok
    obtain ⟨hwf, hlt, hokw, hl100, hpos, hcast⟩ := run_ready hv hi hw
    obtain ⟨_, hltb, _, _, _, hcastb⟩ := run_ready hv hj hw
    have htb : tellsB s a b ws = !sameL (anM (machOf s) a.toNat (toN ws)) (anM (machOf s) b.toNat (toN ws)) := by unfold tellsB; rw [if_pos hok]
    rw [if_pos hok, hok] at hop
    rw [hok, htb]
    have HOP := hid hop; clear hop
    have hm := HM.out hv
    obtain ⟨M, hM⟩ : ∃ M, machOf s = M := ⟨_, rfl⟩
    rw [hM] at hwf hlt hltb hokw hm ⊢
    have hrun := fun (y : World) (hy : Grew w y) => run_any M hwf _ _ a.toNat (toN ws) y hlt hokw hl100 (hm.grew hy) ((isNats_of_ints HX hpos).grew hy)
    have hrunb := fun (y : World) (hy : Grew w y) => run_any M hwf _ _ b.toNat (toN ws) y hltb hokw hl100 (hm.grew hy) ((isNats_of_ints HX hpos).grew hy)
    rw [hcast] at hrun
    rw [hcastb] at hrunb
    have HRUN := hid hrun
    have HRUNB := hid hrunb
    clear hrun hrunb hm hwf hlt hltb hokw hl100 hok htb hM hv hi hj hw hpos hcast hcastb HM
    go_enter Try.func30, Try.ntmps30
    go_wp2_with (first
      | (go_at_call 56; with_reducible refine HOP.out.mono ?_; rintro e w1 ⟨rfl, hx⟩; have hc := (bcell hx).1; have hlt0 : W0.heap.size < w1.heap.size := Nat.lt_of_lt_of_le hy1 hx.size; have hlt1 : W1.heap.size < w1.heap.size := Nat.lt_of_lt_of_le hy2 hx.size; have hlt2 : W2.heap.size < w1.heap.size := Nat.lt_of_lt_of_le hz3 hx.size; have hg := grew_refl w1; obtain ⟨W4, hW4, g4, j0, j1, j2, j3, hz4⟩ := box4 w1 (.int .i64 s.st) (.int .i64 s.ops) (.slice na s.next.length nc) (.slice ya s.says.length yc) 60; have hg4 := grew_trans (grew_trans g03 hx) g4; have hc4 := (bcell (grew_trans hx g4)).1; have hq0 := Nat.lt_of_lt_of_le hlt0 g4.size; have hq1 := Nat.lt_of_lt_of_le hlt1 g4.size; have hq2 := Nat.lt_of_lt_of_le hlt2 g4.size)
      | (go_at_call 75; with_reducible refine (HRUN.out _ hg4).mono ?_; rintro e w2 ⟨u, rfl, hseg, hg2⟩; have HSEG := hid hseg; clear hseg; obtain ⟨ua, uc, rfl, _⟩ := HSEG.out.shape; have hc2 := (bcell hg2).1; have hzz := Nat.lt_of_lt_of_le hz4 hg2.size; have hlt4 := g4.size; have hlt5 := hg2.size)
      | (go_at_call 75; with_reducible refine (HRUNB.out _ (grew_trans hg4 hg2)).mono ?_; rintro e w3 ⟨u2, rfl, hseg2, hg3⟩; have HSEG2 := hid hseg2; clear hseg2; obtain ⟨ub, ud, rfl, _⟩ := HSEG2.out.shape)
      | (go_at_call 79; with_reducible refine (slicesEqual_any _ _ _ _ _ ((ints_of_seg HSEG.out).grew hg3) (ints_of_seg HSEG2.out)).mono ?_; rintro e w4 ⟨rfl, hg5⟩))
    go_ret2
    exact ⟨rfl, grew_trans (grew_trans (grew_trans hg4 hg2) hg3) hg5⟩
  · have htb : tellsB s a b ws = false := by unfold tellsB; rw [if_neg hok]
    rw [if_neg hok] at hop
    rw [htb]
    obtain ⟨ev, hev⟩ : ∃ ev, tellsE s a b ws = ev := ⟨_, rfl⟩
    rw [hev] at hop hok ⊢
    have hb : (ev != 0) = true := by simpa using hok
    have HOP := hid hop; clear hop hev hok htb HM
    go_enter Try.func30, Try.ntmps30
    go_wp2_with (go_at_call 56; with_reducible refine HOP.out.mono ?_; rintro e w1 ⟨rfl, hx⟩)
    go_ret2
    exact ⟨rfl, grew_alloc (grew_trans g03 hx) _⟩

set_option maxHeartbeats 2000000 in
theorem refTells_any (s : RSpec) (a b : Int) (ws : List Int) (sv v : Value) (w : World) (hs : IsSpec w sv s) (hx : IsInts Any w v ws) :
    Calls Try.prog 31 #[sv, .int .i64 a, .int .i64 b, v] w fun e w' => e = .returned (.tuple #[.bool (tellsB s a b ws), .int .i64 (tellsE s a b ws)]) ∧ Grew w w' := by
  have HS := hs
  have HX := hx
  have HM := hid (fun hv => hs.isMach hv)
  obtain ⟨na, nc, ya, yc, rfl⟩ := isSpec_open' hs
  clear hs
  obtain ⟨va, vc, rfl, _, _⟩ := hx
  obtain ⟨W0, hW0, g0, k0, k1, k2, k3, hz⟩ := box4 w (.int .i64 s.st) (.int .i64 s.ops) (.slice na s.next.length nc) (.slice ya s.says.length yc) 24
  have HA := hid (fun (y : World) (hy : Grew w y) => asked_any s _ a b y (HS.grew hy))
  have HW := hid (fun (y : World) (hy : Grew w y) => isWord_any s _ _ ws y (HS.grew hy) (HX.grew hy))
  have hg := grew_refl W0
  by_cases hok : tellsE s a b ws = 0
  · obtain ⟨hv, hi, hj, hw⟩ := tellsE_zero hok
    obtain ⟨hwf, hlt, hokw, hl100, hpos, hcast⟩ := run_ready hv hi hw
    obtain ⟨_, hltb, _, _, _, hcastb⟩ := run_ready hv hj hw
    have htb : tellsB s a b ws = !sameL (anM (machOf s) a.toNat (toN ws)) (anM (machOf s) b.toNat (toN ws)) := by unfold tellsB; rw [if_pos hok]
    rw [hok, htb]
    rw [show askedM s a b = 0 by unfold askedM; rw [hv, hi, hj]; rfl] at HA
    rw [hw] at HW
    have hm := HM.out hv
    obtain ⟨M, hM⟩ : ∃ M, machOf s = M := ⟨_, rfl⟩
    rw [hM] at hwf hlt hltb hokw hm ⊢
    have hrun := fun (y : World) (hy : Grew w y) => refRun_any M hwf _ _ a.toNat (toN ws) y hlt hokw hl100 (hm.grew hy) ((isNats_of_ints HX hpos).grew hy)
    have hrunb := fun (y : World) (hy : Grew w y) => refRun_any M hwf _ _ b.toNat (toN ws) y hltb hokw hl100 (hm.grew hy) ((isNats_of_ints HX hpos).grew hy)
    rw [hcast] at hrun
    rw [hcastb] at hrunb
    have HRUN := hid hrun
    have HRUNB := hid hrunb
    clear hrun hrunb hm hwf hlt hltb hokw hl100 hok htb hM hv hi hj hw hpos hcast hcastb HM
    go_enter Try.func31, Try.ntmps31
    go_wp2_with (first
      | (go_at_call 61; with_reducible refine (HA.out _ (grew_trans g0 hg)).mono ?_; rintro e w1 ⟨rfl, hx⟩; replace hg := grew_trans hg hx; have hc := (bcell hg).1; clear hx)
      | (go_at_call 34; with_reducible refine (HW.out _ (grew_trans g0 hg)).mono ?_; rintro e w1 ⟨rfl, hx⟩; replace hg := grew_trans hg hx; have hc := (bcell hg).1; clear hx)
      | (go_at_call 77; with_reducible refine (HRUN.out _ (grew_trans g0 hg)).mono ?_; rintro e w2 ⟨u, rfl, hseg, hg2⟩; have HSEG := hid hseg; clear hseg; obtain ⟨ua, uc, rfl, _⟩ := HSEG.out.shape; replace hg := grew_trans hg hg2; have hc2 := (bcell hg).1; clear hg2)
      | (go_at_call 77; with_reducible refine (HRUNB.out _ (grew_trans g0 hg)).mono ?_; rintro e w3 ⟨u2, rfl, hseg2, hg3⟩; have HSEG2 := hid hseg2; clear hseg2; obtain ⟨ub, ud, rfl, _⟩ := HSEG2.out.shape)
      | (go_at_call 25; with_reducible refine (sameInts_any _ _ _ _ _ ((ints_of_seg HSEG.out).grew hg3) (ints_of_seg HSEG2.out)).mono ?_; rintro e w4 ⟨rfl, hg5⟩))
    go_ret2
    exact ⟨rfl, grew_trans (grew_trans (grew_trans g0 hg) hg3) hg5⟩
  · have htb : tellsB s a b ws = false := by unfold tellsB; rw [if_neg hok]
    rw [htb]
    clear htb HM
    by_cases ha : askedM s a b = 0
    · rw [ha] at HA
      have hw : isWordM s.ops ws = false := by
        cases hw : isWordM s.ops ws with
        | false => rfl
        | true =>
          refine absurd ?_ hok
          unfold askedM at ha
          unfold tellsE
          cases hv : validM s <;> cases hi : (inM s.st a && inM s.st b) <;> rw [hv, hi] at ha <;> first | exact absurd ha (by decide) | (rw [hw]; rfl)
      have he : tellsE s a b ws = 2 := by
        unfold askedM at ha
        unfold tellsE
        cases hv : validM s <;> cases hi : (inM s.st a && inM s.st b) <;> rw [hv, hi] at ha <;> first | exact absurd ha (by decide) | (rw [hw]; rfl)
      rw [he]
      rw [hw] at HW
      clear he hw ha hok
      go_enter Try.func31, Try.ntmps31
      go_wp2_with (first
        | (go_at_call 61; with_reducible refine (HA.out _ (grew_trans g0 hg)).mono ?_; rintro e w1 ⟨rfl, hx⟩; replace hg := grew_trans hg hx; have hc := (bcell hg).1; clear hx)
        | (go_at_call 34; with_reducible refine (HW.out _ (grew_trans g0 hg)).mono ?_; rintro e w1 ⟨rfl, hx⟩; replace hg := grew_trans hg hx; have hc := (bcell hg).1; clear hx))
      go_ret2
      exact ⟨rfl, grew_trans g0 hg⟩
    · have he : tellsE s a b ws = askedM s a b := by
        unfold askedM at ha ⊢
        unfold tellsE
        cases hv : validM s <;> cases hi : (inM s.st a && inM s.st b) <;> rw [hv, hi] at ha <;> first | rfl | exact absurd rfl ha
      rw [he]
      obtain ⟨ev, hev⟩ : ∃ ev, askedM s a b = ev := ⟨_, rfl⟩
      rw [hev] at HA ha ⊢
      have hb : (ev == 0) = false := by simpa using ha
      have hb2 : (ev != 0) = true := by simpa using ha
      clear he hev ha hok HW
      go_enter Try.func31, Try.ntmps31
      go_wp2_with (go_at_call 61; with_reducible refine (HA.out _ (grew_trans g0 hg)).mono ?_; rintro e w1 ⟨rfl, hx⟩; replace hg := grew_trans hg hx; have hc := (bcell hg).1; clear hx)
      go_ret2
      exact ⟨rfl, grew_trans g0 hg⟩
end Go.Proofs.Ytnebpcpihldllaa
