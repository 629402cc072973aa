/- Walks: Run and Tells, of both texts. -/
import Derived.Test.YtnebpcpihldllaaWRefBegun
import Derived.Test.YtnebpcpihldllaaWWord
namespace Go.Lin

theorem ofN_toN {xs : List Int} (h : ∀ x ∈ xs, 0 ≤ x) : ofN (toN xs) = xs := by
  unfold ofN toN
  rw [List.map_map]
  conv => rhs; rw [← List.map_id xs]
  apply List.map_congr_left
  intro x hx
  have := h x hx
  simp only [Function.comp, id]; omega

theorem isNats_of_ints {S : Nat → Obj → Prop} {w : World} {v : Value} {xs : List Int} (h : IsInts S w v xs) (h0 : ∀ x ∈ xs, 0 ≤ x) : IsNats S w v (toN xs) := by
  have hl : (toN xs).length = xs.length := by simp [toN]
  unfold IsNats
  rw [hl]
  refine Reads.congr h (fun i hi => ?_)
  have : nth xs i = ((nthN (toN xs) i : Nat) : Int) := by rw [← nth_ofN, ofN_toN h0]
  rw [this]

theorem word_facts {ops : Int} {xs : List Int} (h : isWordM ops xs = true) : (∀ x ∈ xs, 0 ≤ x ∧ x < ops) ∧ xs.length ≤ 20 := by
  unfold isWordM inM at h
  simpa using h

theorem okW_toN {s : RSpec} {xs : List Int} (h : isWordM s.ops xs = true) : OkW (machOf s).k (toN xs) := by
  intro x hx
  obtain ⟨y, hy, rfl⟩ := List.mem_map.1 hx
  have := (word_facts h).1 y hy
  simp only [machOf]; omega

/-- What Run answers. -/
def runE (s : RSpec) (a : Int) (ws : List Int) : Int := if validM s then if inM s.st a && isWordM s.ops ws then 0 else 2 else 10
def runTo (s : RSpec) (a : Int) (ws : List Int) : Int := if runE s a ws = 0 then (stM (machOf s) a.toNat (toN ws) : Int) else 0
def runL (s : RSpec) (a : Int) (ws : List Int) : List Int := if runE s a ws = 0 then anM (machOf s) a.toNat (toN ws) else []
/-- What Tells answers. -/
def tellsE (s : RSpec) (a b : Int) (ws : List Int) : Int := if validM s then if (inM s.st a && inM s.st b) && isWordM s.ops ws then 0 else 2 else 10
def tellsB (s : RSpec) (a b : Int) (ws : List Int) : Bool := if tellsE s a b ws = 0 then !sameL (anM (machOf s) a.toNat (toN ws)) (anM (machOf s) b.toNat (toN ws)) else false

theorem runE_zero {s : RSpec} {a : Int} {ws : List Int} (h : runE s a ws = 0) : validM s = true ∧ inM s.st a = true ∧ isWordM s.ops ws = true := by
  unfold runE at h
  cases hv : validM s <;> cases hi : inM s.st a <;> cases hw : isWordM s.ops ws <;> rw [hv, hi, hw] at h <;> first | exact ⟨rfl, rfl, rfl⟩ | cases h

theorem tellsE_zero {s : RSpec} {a b : Int} {ws : List Int} (h : tellsE s a b ws = 0) : validM s = true ∧ inM s.st a = true ∧ inM s.st b = true ∧ isWordM s.ops ws = true := by
  unfold tellsE at h
  cases hv : validM s <;> cases hi : inM s.st a <;> cases hj : inM s.st b <;> cases hw : isWordM s.ops ws <;> rw [hv, hi, hj, hw] at h <;> first | exact ⟨rfl, rfl, rfl, rfl⟩ | cases h

/-- What a walk of a word is handed. -/
theorem run_ready {s : RSpec} {a : Int} {ws : List Int} (hv : validM s = true) (hi : inM s.st a = true) (hw : isWordM s.ops ws = true) :
    (machOf s).WF ∧ a.toNat < (machOf s).n ∧ OkW (machOf s).k (toN ws) ∧ (toN ws).length ≤ 100 ∧ (∀ x ∈ ws, 0 ≤ x) ∧ (a.toNat : Int) = a := by
  have hin : 0 ≤ a ∧ a < s.st := by unfold inM at hi; simpa using hi
  have hf := word_facts hw
  refine ⟨wf_machOf hv, by simp only [machOf]; omega, okW_toN hw, by have := hf.2; simp [toN]; omega, fun x hx => (hf.1 x hx).1, by omega⟩

theorem isSpec_open' {w : World} {u : Value} {R : RSpec} (h : IsSpec w u R) : ∃ na nc ya yc, u = .agg #[.int .i64 R.st, .int .i64 R.ops, .slice na R.next.length nc, .slice ya R.says.length yc] := by
  obtain ⟨_, _, rfl, ⟨_, ⟨na, nc, rfl, _, _⟩, _⟩, ⟨_, ⟨ya, yc, rfl, _, _⟩, _⟩⟩ := h
  exact ⟨_, _, _, _, rfl⟩

end Go.Lin
namespace Go.Proofs.Ytnebpcpihldllaa
open Go.RowKit Go.Lin

theorem entered73 : Entered 73 := fun _ _ => by kernel_rfl
theorem entered78 : Entered 78 := fun _ _ => by kernel_rfl

set_option maxHeartbeats 1000000 in
theorem run1_any (s : RSpec) (sv v : Value) (B C : Nat) (a : Int) (ws : List Int) (w : World) (h1 : 1 ≤ s.st) (h2 : s.st ≤ 8) (o1 : 1 ≤ s.ops) (o2 : s.ops ≤ 8) (hs : IsSpec w sv s) (hB : w.cell? ⟨B, 0, none⟩ = some (.int .i64 a)) (hC : w.cell? ⟨C, 0, none⟩ = some v) (hx : IsInts Any w v ws) :
    Says 73 #[.pointer (some ⟨B, 0, none⟩), .pointer (some ⟨C, 0, none⟩)] sv (inM s.st a && isWordM s.ops ws) w := by
  intro w' hw
  have hB' := (hw.cell (p := ⟨B, 0, none⟩) (World.block_lt_of_cell? w _ hB)).trans hB
  have hC' := (hw.cell (p := ⟨C, 0, none⟩) (World.block_lt_of_cell? w _ hC)).trans hC
  have HS := hs.grew hw
  have HX := hx.grew hw
  obtain ⟨nv, yv, rfl, _, _⟩ := hs
  obtain ⟨va, vc, rfl, _, _⟩ := hx
  clear hB hC hw
  obtain ⟨W0, hW0, g0, k0, k1, k2, k3, hz⟩ := box4 w' (.int .i64 s.st) (.int .i64 s.ops) nv yv 60
  have hltB := World.block_lt_of_cell? w' _ hB'
  have hltC := World.block_lt_of_cell? w' _ hC'
  have hB0 := (g0.cell (p := ⟨B, 0, none⟩) hltB).trans hB'
  have hC0 := (g0.cell (p := ⟨C, 0, none⟩) hltC).trans hC'
  obtain ⟨W1, hW1, g1, l0, hz1⟩ := box1 W0 (.int .i64 a) 3
  have m0 := (g1.cell (p := ⟨w'.heap.size, 0, none⟩) hz).trans k0
  have m1 := (g1.cell (p := ⟨w'.heap.size, 1, none⟩) hz).trans k1
  have m2 := (g1.cell (p := ⟨w'.heap.size, 2, none⟩) hz).trans k2
  have m3 := (g1.cell (p := ⟨w'.heap.size, 3, none⟩) hz).trans k3
  have hC1 := (g1.cell (p := ⟨C, 0, none⟩) (Nat.lt_of_lt_of_le hltC g0.size)).trans hC0
  have hltC1 : C < W1.heap.size := Nat.lt_of_lt_of_le hltC (Nat.le_trans g0.size g1.size)
  have hzm : w'.heap.size < W1.heap.size := Nat.lt_of_lt_of_le hz g1.size
  have hone : IsInts Any W1 (.slice (some ⟨W0.heap.size, 0, none⟩) 1 1) [a] := ⟨_, _, rfl, by simp, fun i hi => by
    have hi' : i = 0 := by simpa using hi
    subst hi'
    exact ⟨_, _, _, rfl, Array.getElem?_eq_getElem hz1, trivial, by simpa [nth] using l0⟩⟩
  have hst := state_any s _ _ _ W1 h1 h2 ((HS.grew g0).grew g1) hone
  simp only [List.all_cons, List.all_nil, Bool.and_true] at hst
  have HW := hid (fun (y : World) (hy : Grew W1 y) => word_any s _ _ ws y o1 o2 (((HS.grew g0).grew g1).grew hy) (((HX.grew g0).grew g1).grew hy))
  cases hi : inM s.st a <;> rw [hi] at hst
  · have HST := hid hst; clear hone hst hi
    go_enter Try.func73, Try.ntmps73
    go_wp2_with (go_at_call 58; with_reducible refine HST.out.mono ?_; rintro e w1 ⟨rfl, hx⟩; have hc := (bcell hx).1)
    go_ret
    exact ⟨ret_bool rfl, grew_trans (grew_trans g0 g1) hx⟩
  · have HST := hid hst; clear hone hst hi
    rw [Bool.true_and]
    go_enter Try.func73, Try.ntmps73
    go_wp2_with (first | (go_at_call 58; with_reducible refine HST.out.mono ?_; rintro e w1 ⟨rfl, hx⟩; have hc := (bcell hx).1) | (go_at_call 74; with_reducible refine (HW.out _ hx).mono ?_; rintro e w2 ⟨rfl, hx2⟩))
    go_ret
    exact ⟨rfl, grew_trans (grew_trans g0 g1) (grew_trans hx hx2)⟩

/-- What 'opened' answers of a state and a word. -/
theorem opened_run (s : RSpec) (sv v : Value) (B C : Nat) (a : Int) (ws : List Int) (w : World) (hs : IsSpec w sv s) (hB : w.cell? ⟨B, 0, none⟩ = some (.int .i64 a)) (hC : w.cell? ⟨C, 0, none⟩ = some v) (hx : IsInts Any w v ws) :
    Calls Try.prog 56 #[sv, .func (.func 73) #[] #[.pointer (some ⟨B, 0, none⟩), .pointer (some ⟨C, 0, none⟩)]] w fun e w' => e = .returned (.tuple #[if runE s a ws = 0 then sv else zeroSpec, .int .i64 (runE s a ws)]) ∧ Grew w w' := by
  cases hv : validM s with
  | false =>
    have he : runE s a ws = 10 := by unfold runE; rw [hv]; rfl
    rw [he]; exact opened_bad s _ _ _ hs hv
  | true =>
    obtain ⟨⟨b1, b2, b3, b4⟩, _⟩ := valid_parts hv
    have h := run1_any s _ _ _ _ a ws w b1 b2 b3 (by omega) hs hB hC hx
    cases hi : inM s.st a && isWordM s.ops ws with
    | false =>
      have he : runE s a ws = 2 := by unfold runE; rw [hv, hi]; rfl
      rw [he]; rw [hi] at h
      exact opened_arg s _ _ _ _ hs hv entered73 h
    | true =>
      have he : runE s a ws = 0 := by unfold runE; rw [hv, hi]; rfl
      rw [he]; rw [hi] at h
      exact opened_ok s _ _ _ _ hs hv entered73 h

theorem ints_of_seg {w : World} {base : Nat} {u : Value} {xs : List Int} {n : Nat} (h : Seg w base 3 1 u n (xs.map (.int .i64))) : IsInts Any w u xs := h.isInts.any

set_option maxHeartbeats 2000000 in
theorem runOf_any (s : RSpec) (a : Int) (ws : List Int) (sv v : Value) (w : World) (hs : IsSpec w sv s) (hx : IsInts Any w v ws) :
    Calls Try.prog 28 #[sv, .int .i64 a, v] w fun e w' => ∃ u, e = .returned (.tuple #[u, .int .i64 (runTo s a ws), .int .i64 (runE s a ws)]) ∧ IsInts Any w' u (runL s a ws) ∧ Grew w w' := by
  have HS := hs
  have HX := hx
  have HM := hid (fun hv => hs.isMach hv)
  obtain ⟨na, nc, ya, yc, rfl⟩ := isSpec_open' hs
  clear hs
  obtain ⟨va, vc, rfl, _, _⟩ := hx
  obtain ⟨W0, hW0, g0, k0, k1, k2, k3, hz⟩ := box4 w (.int .i64 s.st) (.int .i64 s.ops) (.slice na s.next.length nc) (.slice ya s.says.length yc) 24
  obtain ⟨W1, hW1, g1, l0, hz1⟩ := box1 W0 (.int .i64 a) 3
  obtain ⟨W2, hW2, g2, m0, hz2⟩ := box1 W1 (.slice va ws.length vc) 34
  have g02 := grew_trans g0 (grew_trans g1 g2)
  have e0 := (g2.cell (p := ⟨W0.heap.size, 0, none⟩) hz1).trans l0
  have r0 := ((grew_trans g1 g2).cell (p := ⟨w.heap.size, 0, none⟩) hz).trans k0
  have r1 := ((grew_trans g1 g2).cell (p := ⟨w.heap.size, 1, none⟩) hz).trans k1
  have r2 := ((grew_trans g1 g2).cell (p := ⟨w.heap.size, 2, none⟩) hz).trans k2
  have r3 := ((grew_trans g1 g2).cell (p := ⟨w.heap.size, 3, none⟩) hz).trans k3
  clear k0 k1 k2 k3
  have hop := opened_run s _ _ _ _ a ws W2 (HS.grew g02) e0 m0 (HX.grew g02)
  have hz0 : w.heap.size < W2.heap.size := by have := g1.size; have := g2.size; omega
  have hz3 : W0.heap.size < W2.heap.size := by have := g2.size; omega
  by_cases hok : runE s a ws = 0
  · obtain ⟨hv, hi, hw⟩ := runE_zero hok
    obtain ⟨hwf, hlt, hokw, hl100, hpos, hcast⟩ := run_ready hv hi hw
    have hto : runTo s a ws = (stM (machOf s) a.toNat (toN ws) : Int) := by unfold runTo; rw [if_pos hok]
    have hli : runL s a ws = anM (machOf s) a.toNat (toN ws) := by unfold runL; rw [if_pos hok]
    rw [if_pos hok, hok] at hop
    rw [hok, hto, hli]
    have hlen : (toN ws).length = ws.length := by simp [toN]
    have HOP := hid hop; clear hop
    have hm := HM.out hv
    obtain ⟨M, hM⟩ : ∃ M, machOf s = M := ⟨_, rfl⟩
    rw [hM] at hwf hlt hokw hm ⊢
    have hrun := fun (y : World) (hy : Grew w y) => run_any M hwf _ _ a.toNat (toN ws) y hlt hokw hl100 (hm.grew hy) ((isNats_of_ints HX hpos).grew hy)
    rw [hcast] at hrun
    have HRUN := hid hrun
    clear hrun hm hwf hlt hokw hl100 hok hto hli hM hv hi hw hpos hcast HM
    have HLEN := hid hlen; clear hlen
    go_enter Try.func28, Try.ntmps28
    go_wp2_with (first
      | (go_at_call 56; with_reducible refine HOP.out.mono ?_; rintro e w1 ⟨rfl, hx⟩; have hc := (bcell hx).1; have hlt0 : W0.heap.size < w1.heap.size := Nat.lt_of_lt_of_le hz3 hx.size; have hlt1 : W1.heap.size < w1.heap.size := Nat.lt_of_lt_of_le hz2 hx.size)
      | (go_at_call 75; with_reducible refine (HRUN.out _ (grew_alloc (grew_trans g02 hx) _)).mono ?_; rintro e w2 ⟨u, rfl, hseg, hg2⟩; have HSEG := hid hseg; clear hseg))
    go_ret3
    refine ⟨u, rfl, ints_of_seg HSEG.out, ?_⟩
    exact grew_trans (grew_alloc (grew_trans g02 hx) _) hg2
  · have hto : runTo s a ws = 0 := by unfold runTo; rw [if_neg hok]
    have hli : runL s a ws = [] := by unfold runL; rw [if_neg hok]
    rw [if_neg hok] at hop
    rw [hto, hli]
    obtain ⟨ev, hev⟩ : ∃ ev, runE s a ws = ev := ⟨_, rfl⟩
    rw [hev] at hop hok ⊢
    have hb : (ev != 0) = true := by simpa using hok
    have HOP := hid hop; clear hop hev hok hto hli HM
    go_enter Try.func28, Try.ntmps28
    go_wp2_with (go_at_call 56; with_reducible refine HOP.out.mono ?_; rintro e w1 ⟨rfl, hx⟩)
    go_ret3
    exact ⟨_, rfl, Reads.nil _ _ _ _ _, grew_alloc (grew_trans g02 hx) _⟩

set_option maxHeartbeats 2000000 in
theorem refRunOf_any (s : RSpec) (a : Int) (ws : List Int) (sv v : Value) (w : World) (hs : IsSpec w sv s) (hx : IsInts Any w v ws) :
    Calls Try.prog 29 #[sv, .int .i64 a, v] w fun e w' => ∃ u, e = .returned (.tuple #[u, .int .i64 (runTo s a ws), .int .i64 (runE s a ws)]) ∧ IsInts Any w' u (runL s a ws) ∧ Grew w w' := by
  have HS := hs
  have HX := hx
  have HM := hid (fun hv => hs.isMach hv)
  obtain ⟨na, nc, ya, yc, rfl⟩ := isSpec_open' hs
  clear hs
  obtain ⟨va, vc, rfl, _, _⟩ := hx
  obtain ⟨W0, hW0, g0, k0, k1, k2, k3, hz⟩ := box4 w (.int .i64 s.st) (.int .i64 s.ops) (.slice na s.next.length nc) (.slice ya s.says.length yc) 24
  have HV := hid (fun (y : World) (hy : Grew w y) => refValid_any s _ y (HS.grew hy))
  have HI := hid (fun (y : World) (hy : Grew w y) => isState_any s _ a y (HS.grew hy))
  have HW := hid (fun (y : World) (hy : Grew w y) => isWord_any s _ _ ws y (HS.grew hy) (HX.grew hy))
  have hg := grew_refl W0
  by_cases hok : runE s a ws = 0
  · obtain ⟨hv, hi, hw⟩ := runE_zero hok
    obtain ⟨hwf, hlt, hokw, hl100, hpos, hcast⟩ := run_ready hv hi hw
    have hto : runTo s a ws = (stM (machOf s) a.toNat (toN ws) : Int) := by unfold runTo; rw [if_pos hok]
    have hli : runL s a ws = anM (machOf s) a.toNat (toN ws) := by unfold runL; rw [if_pos hok]
    rw [hok, hto, hli]
    rw [hv] at HV; rw [hi] at HI; rw [hw] at HW
    have hm := HM.out hv
    obtain ⟨M, hM⟩ : ∃ M, machOf s = M := ⟨_, rfl⟩
    rw [hM] at hwf hlt hokw hm ⊢
    have hrun := fun (y : World) (hy : Grew w y) => refRun_any M hwf _ _ a.toNat (toN ws) y hlt hokw hl100 (hm.grew hy) ((isNats_of_ints HX hpos).grew hy)
    rw [hcast] at hrun
    have HRUN := hid hrun
    clear hrun hm hwf hlt hokw hl100 hok hto hli hM hv hi hw hpos hcast HM
    go_enter Try.func29, Try.ntmps29
    go_wp2_with (first
      | (go_at_call 33; with_reducible refine (HV.out _ (grew_trans g0 hg)).mono ?_; rintro e w1 ⟨rfl, hx⟩; replace hg := grew_trans hg hx; have hc := (bcell hg).1; clear hx)
      | (go_at_call 76; with_reducible refine (HI.out _ (grew_trans g0 hg)).mono ?_; rintro e w1 ⟨rfl, hx⟩; replace hg := grew_trans hg hx; have hc := (bcell hg).1; clear hx)
      | (go_at_call 34; with_reducible refine (HW.out _ (grew_trans g0 hg)).mono ?_; rintro e w1 ⟨rfl, hx⟩; replace hg := grew_trans hg hx; have hc := (bcell hg).1; clear hx)
      | (go_at_call 77; with_reducible refine (HRUN.out _ (grew_trans g0 hg)).mono ?_; rintro e w2 ⟨u, rfl, hseg, hg2⟩; have HSEG := hid hseg; clear hseg))
    go_ret3
    exact ⟨u, rfl, ints_of_seg HSEG.out, grew_trans (grew_trans g0 hg) hg2⟩
  · have hto : runTo s a ws = 0 := by unfold runTo; rw [if_neg hok]
    have hli : runL s a ws = [] := by unfold runL; rw [if_neg hok]
    rw [hto, hli]
    clear hto hli HM
    cases hv : validM s <;> cases hi : inM s.st a <;> cases hw : isWordM s.ops ws
    all_goals (first | (exact absurd (by unfold runE; rw [hv, hi, hw]; rfl) hok) | skip)
    all_goals
      have he : runE s a ws = if validM s then 2 else 10 := by unfold runE; rw [hv, hi, hw]; rfl
      rw [hv] at HV he; rw [hi] at HI; rw [hw] at HW
      rw [he]
      clear he hv hi hw hok
      go_enter Try.func29, Try.ntmps29
      go_wp2_with (first
        | (go_at_call 33; with_reducible refine (HV.out _ (grew_trans g0 hg)).mono ?_; rintro e w1 ⟨rfl, hx⟩; replace hg := grew_trans hg hx; have hc := (bcell hg).1; clear hx)
        | (go_at_call 76; with_reducible refine (HI.out _ (grew_trans g0 hg)).mono ?_; rintro e w1 ⟨rfl, hx⟩; replace hg := grew_trans hg hx; have hc := (bcell hg).1; clear hx)
        | (go_at_call 34; with_reducible refine (HW.out _ (grew_trans g0 hg)).mono ?_; rintro e w1 ⟨rfl, hx⟩; replace hg := grew_trans hg hx; have hc := (bcell hg).1; clear hx))
      go_ret3
      exact ⟨_, rfl, Reads.nil _ _ _ _ _, grew_trans g0 hg⟩
end Go.Proofs.Ytnebpcpihldllaa
