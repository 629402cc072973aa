/- The law SpecWays: it answers true of every input. -/
import Derived.Test.YtnebpcpihldllaaRLeast2
import Derived.Test.YtnebpcpihldllaaRReached
import Derived.Test.YtnebpcpihldllaaWReached2
namespace Go.Lin
def leastAns (s : RSpec) (cl : Nat → Nat) (L : List (List Nat)) : RSpec := if validM s then leastS s cl L else zeroM
end Go.Lin
namespace Go.Proofs.Ytnebpcpihldllaa
open Go.RowKit Go.Lin

set_option maxHeartbeats 2000000 in
theorem least_bad (s : RSpec) (sv : Value) (w : World) (hs : IsSpec w sv s) (hv : validM s = false) :
    Calls Try.prog 42 #[sv] w fun e w' => e = .returned (.tuple #[zeroSpec, .int .i64 10]) ∧ Grew w w' := by
  have HOP := hid (fun (y : World) (hy : Grew w y) => opened_bad s _ (.func (.func 70) #[] #[]) y (hs.grew hy) hv)
  obtain ⟨nv, yv, rfl, _, _⟩ := hs
  clear hv
  obtain ⟨W0, hW0, g0, k0, k1, k2, k3, hz⟩ := box4 w (.int .i64 s.st) (.int .i64 s.ops) nv yv 24
  have hobj2 := heap_alloc_new W0 (.cells #[.int .i64 0, .int .i64 0, .slice none 0 0, .slice none 0 0] 24)
  obtain ⟨W2, hW2, g2, q0, q1, q2, q3, hz2, qf⟩ := boxf4 W0 (.int .i64 0) (.int .i64 0) (.slice none 0 0) (.slice none 0 0) 24
  rw [hW2] at hobj2
  have HOBJ := hid hobj2; clear hobj2
  have g02 := grew_trans g0 g2
  have r0 := (g2.cell (p := ⟨w.heap.size, 0, none⟩) hz).trans k0
  have r1 := (g2.cell (p := ⟨w.heap.size, 1, none⟩) hz).trans k1
  have r2 := (g2.cell (p := ⟨w.heap.size, 2, none⟩) hz).trans k2
  have r3 := (g2.cell (p := ⟨w.heap.size, 3, none⟩) hz).trans k3
  clear k0 k1 k2 k3
  have hs0 := g0.size
  have hg := grew_refl W2
  go_enter Try.func42, Try.ntmps42
  go_wp2_with (go_at_call 56; with_reducible refine (HOP.out _ g02).mono ?_; rintro e w1 ⟨rfl, hx⟩; replace hg := grew_trans hg hx; obtain ⟨hc, hcf⟩ := bcell hg; have hlt1 : W0.heap.size < w1.heap.size := Nat.lt_of_lt_of_le hz2 hx.size)
  (try simp only [Exit.inBlock, Exit.then])
  have hset := fun w' => set4 (w' := w') (c := #[.int .i64 0, .int .i64 0, .slice none 0 0, .slice none 0 0]) rfl (.int .i64 0) (.int .i64 0) (.slice none 0 0) (.slice none 0 0) ((hx.block _ hz2).trans HOBJ.out)
  have hkp := fun w' => keeps_set4 (w' := w') (.int .i64 0) (.int .i64 0) (.slice none 0 0) (.slice none 0 0) ((hx.block _ hz2).trans HOBJ.out)
  generalize hw8 : (((w1.setCell ⟨W0.heap.size, 0, none⟩ (.int .i64 0)).setCell ⟨W0.heap.size, 1, none⟩ (.int .i64 0)).setCell ⟨W0.heap.size, 2, none⟩ (.slice none 0 0)).setCell ⟨W0.heap.size, 3, none⟩ (.slice none 0 0) = w8
  obtain ⟨hobj, hsz⟩ := hset w8 hw8
  have hkp8 := hkp w8 hw8
  clear hset hkp hw8
  have hgr : Grew w w8 := by
    have h := grew_trans g02 hx
    exact h.trans (hkp8.below h.size (fun k o h => by rw [h.1]; omega))
  obtain ⟨d0, d1, d2, d3, -, hd⟩ := cells4 hobj
  refine bodyPost_ret (v := .tuple #[zeroSpec, .int .i64 10]) ?_ rfl ?_
  · simp [results, Try.results42, go_sem, d0, d1, d2, d3, hd]
  · exact ⟨rfl, grew_alloc hgr _⟩

set_option maxHeartbeats 2000000 in
theorem refLeast_bad (s : RSpec) (sv : Value) (w : World) (hs : IsSpec w sv s) (hv : validM s = false) :
    Calls Try.prog 54 #[sv] w fun e w' => e = .returned (.tuple #[zeroSpec, .int .i64 10]) ∧ Grew w w' := by
  have HRV := hid (fun (y : World) (hy : Grew w y) => refValid_any s _ y (hs.grew hy))
  rw [hv] at HRV
  obtain ⟨nv, yv, rfl, _, _⟩ := hs
  clear hv
  obtain ⟨W0, hW0, g0, k0, k1, k2, k3, hz⟩ := box4 w (.int .i64 s.st) (.int .i64 s.ops) nv yv 24
  have hobj2 := heap_alloc_new W0 (.cells #[.int .i64 0, .int .i64 0, .slice none 0 0, .slice none 0 0] 24)
  obtain ⟨W2, hW2, g2, q0, q1, q2, q3, hz2, qf⟩ := boxf4 W0 (.int .i64 0) (.int .i64 0) (.slice none 0 0) (.slice none 0 0) 24
  rw [hW2] at hobj2
  have HOBJ := hid hobj2; clear hobj2
  have g02 := grew_trans g0 g2
  have r0 := (g2.cell (p := ⟨w.heap.size, 0, none⟩) hz).trans k0
  have r1 := (g2.cell (p := ⟨w.heap.size, 1, none⟩) hz).trans k1
  have r2 := (g2.cell (p := ⟨w.heap.size, 2, none⟩) hz).trans k2
  have r3 := (g2.cell (p := ⟨w.heap.size, 3, none⟩) hz).trans k3
  clear k0 k1 k2 k3
  have hs0 := g0.size
  have hg := grew_refl W2
  go_enter Try.func54, Try.ntmps54
  go_wp2_with (go_at_call 33; with_reducible refine (HRV.out _ g02).mono ?_; rintro e w1 ⟨rfl, hx⟩; replace hg := grew_trans hg hx; obtain ⟨hc, hcf⟩ := bcell hg; have hlt1 : W0.heap.size < w1.heap.size := Nat.lt_of_lt_of_le hz2 hx.size)
  (try simp only [Exit.inBlock, Exit.then])
  have hset := fun w' => set4 (w' := w') (c := #[.int .i64 0, .int .i64 0, .slice none 0 0, .slice none 0 0]) rfl (.int .i64 0) (.int .i64 0) (.slice none 0 0) (.slice none 0 0) ((hx.block _ hz2).trans HOBJ.out)
  have hkp := fun w' => keeps_set4 (w' := w') (.int .i64 0) (.int .i64 0) (.slice none 0 0) (.slice none 0 0) ((hx.block _ hz2).trans HOBJ.out)
  generalize hw8 : (((w1.setCell ⟨W0.heap.size, 0, none⟩ (.int .i64 0)).setCell ⟨W0.heap.size, 1, none⟩ (.int .i64 0)).setCell ⟨W0.heap.size, 2, none⟩ (.slice none 0 0)).setCell ⟨W0.heap.size, 3, none⟩ (.slice none 0 0) = w8
  obtain ⟨hobj, hsz⟩ := hset w8 hw8
  have hkp8 := hkp w8 hw8
  clear hset hkp hw8
  have hgr : Grew w w8 := by
    have h := grew_trans g02 hx
    exact h.trans (hkp8.below h.size (fun k o h => by rw [h.1]; omega))
  obtain ⟨d0, d1, d2, d3, -, hd⟩ := cells4 hobj
  refine bodyPost_ret (v := .tuple #[zeroSpec, .int .i64 10]) ?_ rfl ⟨rfl, hgr⟩
  simp [results, Try.results54, go_sem, d0, d1, d2, d3]

theorem least_some (s : RSpec) (sv : Value) (w : World) (hs : IsSpec w sv s) (sB : Nat → Nat → Bool) (cl : Nat → Nat) (hS : Sames (machOf s) sB cl) : ∃ L, validM s = true → LeastW (machOf s) L := by
  cases hv : validM s with
  | false => exact ⟨[], fun h => by cases h⟩
  | true =>
    obtain ⟨e, w', _, h, _⟩ := least_ok s sB cl hS sv w hs hv []
    obtain ⟨L, _, _, hL, _⟩ := h
    exact ⟨L, fun _ => hL⟩

theorem least_of (s : RSpec) (sB : Nat → Nat → Bool) (cl : Nat → Nat) (hS : Sames (machOf s) sB cl) (L : List (List Nat)) (hL : validM s = true → LeastW (machOf s) L) (sv : Value) (w : World) (hs : IsSpec w sv s) :
    Calls Try.prog 42 #[sv] w fun e w' => ∃ u, e = .returned (.tuple #[u, .int .i64 (if validM s then 0 else 10)]) ∧ IsSpec w' u (leastAns s cl L) ∧ Grew w w' := by
  unfold leastAns
  cases hv : validM s with
  | false => exact (least_bad s sv w hs hv).mono (fun e w' ⟨he, hg⟩ => ⟨_, he, isSpec_zero _, hg⟩)
  | true =>
    exact (least_ok s sB cl hS sv w hs hv).mono (fun e w' ⟨L', u, he, hL', hu, hg⟩ => by
      obtain rfl := (hL hv).unique hL'
      exact ⟨u, he, hu, hg⟩)

theorem refLeast_of (s : RSpec) (sB : Nat → Nat → Bool) (cl : Nat → Nat) (hS : Sames (machOf s) sB cl) (L : List (List Nat)) (hL : validM s = true → LeastW (machOf s) L) (sv : Value) (w : World) (hs : IsSpec w sv s) :
    Calls Try.prog 54 #[sv] w fun e w' => ∃ u, e = .returned (.tuple #[u, .int .i64 (if validM s then 0 else 10)]) ∧ IsSpec w' u (leastAns s cl L) ∧ Grew w w' := by
  unfold leastAns
  cases hv : validM s with
  | false => exact (refLeast_bad s sv w hs hv).mono (fun e w' ⟨he, hg⟩ => ⟨_, he, isSpec_zero _, hg⟩)
  | true =>
    exact (refLeast_ok s sB cl hS sv w hs hv).mono (fun e w' ⟨L', u, he, hL', hu, hg⟩ => by
      obtain rfl := (hL hv).unique hL'
      exact ⟨u, he, hu, hg⟩)

theorem reached_of (s : RSpec) (sv : Value) (w : World) (hs : IsSpec w sv s) :
    Calls Try.prog 44 #[sv] w fun e w' => ∃ u, e = .returned (.tuple #[u, .int .i64 (if validM s then 0 else 10)]) ∧ IsNats Any w' u (if validM s then reachL (machOf s) else []) ∧ Grew w w' := by
  cases hv : validM s with
  | false => exact (reached_bad s sv w hs hv).mono (fun e w' ⟨he, hg⟩ => ⟨_, he, Reads.nil _ _ _ _ _, hg⟩)
  | true => exact reached_ok s sv w hs hv

/-- What Way answers. -/
def WayOf (s : RSpec) (a : Int) (X : List Nat) (r : Int) : Prop :=
  (askedM s a a ≠ 0 ∧ r = askedM s a a ∧ X = []) ∨ (askedM s a a = 0 ∧ ((r = 0 ∧ IsWay (machOf s) a.toNat X) ∨ (r = 5 ∧ X = [] ∧ ∀ v, OkW (machOf s).k v → stM (machOf s) 0 v ≠ a.toNat)))

theorem WayOf.unique {s : RSpec} {a : Int} {X Y : List Nat} {r r' : Int} (h : WayOf s a X r) (h' : WayOf s a Y r') : X = Y ∧ r = r' := by
  rcases h with ⟨h1, e1, e2⟩ | ⟨h1, ⟨e1, e2⟩ | ⟨e1, e2, e3⟩⟩ <;> rcases h' with ⟨k1, f1, f2⟩ | ⟨k1, ⟨f1, f2⟩ | ⟨f1, f2, f3⟩⟩
  · exact ⟨e2.trans f2.symm, e1.trans f1.symm⟩
  · exact absurd k1 h1
  · exact absurd k1 h1
  · exact absurd h1 k1
  · exact ⟨e2.unique f2, e1.trans f1.symm⟩
  · exact absurd e2.leads (f3 _ e2.ok)
  · exact absurd h1 k1
  · exact absurd f2.leads (e3 _ f2.ok)
  · exact ⟨e2.trans f2.symm, e1.trans f1.symm⟩

theorem way_of (s : RSpec) (a : Int) (sv : Value) (w : World) (hs : IsSpec w sv s) :
    Calls Try.prog 43 #[sv, .int .i64 a] w fun e w' => ∃ u X r, e = .returned (.tuple #[u, .int .i64 r]) ∧ WayOf s a X r ∧ IsNats Any w' u X ∧ Grew w w' := by
  by_cases h0 : askedM s a a = 0
  · obtain ⟨hv, x, y0, rfl, hxy, hxn, -⟩ := asked_parts h0
    refine (way_ok s sv x w hs hv hxn).mono (fun e w' ⟨u, r, he, hg, hr⟩ => ?_)
    rcases hr with ⟨hr, ws, hw, hn⟩ | ⟨hr, hu, hn⟩
    · exact ⟨u, ws, r, he, .inr ⟨h0, .inl ⟨hr, hw⟩⟩, hn.any, hg⟩
    · exact ⟨u, [], r, he, .inr ⟨h0, .inr ⟨hr, rfl, hn⟩⟩, by rw [hu]; exact Reads.nil _ _ _ _ _, hg⟩
  · exact (way_bad s sv a w hs h0).mono (fun e w' ⟨he, hg⟩ => ⟨_, [], _, he, .inl ⟨h0, rfl, rfl⟩, Reads.nil _ _ _ _ _, hg⟩)

theorem refWay_of (s : RSpec) (a : Int) (sv : Value) (w : World) (hs : IsSpec w sv s) :
    Calls Try.prog 53 #[sv, .int .i64 a] w fun e w' => ∃ u X r, e = .returned (.tuple #[u, .int .i64 r]) ∧ WayOf s a X r ∧ IsNats Any w' u X ∧ Grew w w' := by
  refine (refWay_any s a sv w hs).mono (fun e w' ⟨u, r, he, hg, hr⟩ => ?_)
  rcases hr with ⟨h0, hr, hu⟩ | ⟨h0, ⟨hr, ws, hw, hn⟩ | ⟨hr, hu, hn⟩⟩
  · exact ⟨u, [], r, he, .inl ⟨h0, hr, rfl⟩, by rw [hu]; exact Reads.nil _ _ _ _ _, hg⟩
  · exact ⟨u, ws, r, he, .inr ⟨h0, .inl ⟨hr, hw⟩⟩, hn.any, hg⟩
  · exact ⟨u, [], r, he, .inr ⟨h0, .inr ⟨hr, rfl, hn⟩⟩, by rw [hu]; exact Reads.nil _ _ _ _ _, hg⟩

theorem same_nats (u v : Value) (R : List Nat) (w : World) (hu : IsNats Any w u R) (hv : IsNats Any w v R) : Calls Try.prog 25 #[u, v] w fun e w' => e = .returned (.bool true) ∧ Grew w w' := sameInts_same u v (ofN R) w hu.ints hv.ints

set_option maxHeartbeats 4000000 in
set_option maxRecDepth 100000 in
theorem specWays_law (s : RSpec) (a : Int) (sv : Value) (w : World) (hs : IsSpec w sv s) :
    Calls Try.prog 13 #[sv, .int .i64 a] w fun e w' => e = .returned (.bool true) ∧ Grew w w' := by
  obtain ⟨sB, cl, hS⟩ := sames_exist (machOf s)
  obtain ⟨L, hL⟩ := least_some s sv w hs sB cl hS
  have HS := hs
  have HLO := hid (fun (y : World) (hy : Grew w y) => long_any s _ y (HS.grew hy))
  have HA1 := hid (fun (y : World) (hy : Grew w y) => reached_of s _ y (HS.grew hy))
  have HA2 := hid (fun (y : World) (hy : Grew w y) => refReached_any s _ y (HS.grew hy))
  have HB1 := hid (fun (y : World) (hy : Grew w y) => way_of s a _ y (HS.grew hy))
  have HB2 := hid (fun (y : World) (hy : Grew w y) => refWay_of s a _ y (HS.grew hy))
  have HC1 := hid (fun (y : World) (hy : Grew w y) => least_of s sB cl hS L hL _ y (HS.grew hy))
  have HC2 := hid (fun (y : World) (hy : Grew w y) => refLeast_of s sB cl hS L hL _ y (HS.grew hy))
  obtain ⟨ev, hev⟩ : ∃ ev : Int, (if validM s then 0 else 10) = ev := ⟨_, rfl⟩
  obtain ⟨R, hR⟩ : ∃ R, (if validM s then reachL (machOf s) else []) = R := ⟨_, rfl⟩
  obtain ⟨m, hm⟩ : ∃ m, leastAns s cl L = m := ⟨_, rfl⟩
  rw [hev, hR] at HA1 HA2
  rw [hev, hm] at HC1 HC2
  have heq : eqSpec m m = true := eqSpec_self m
  obtain ⟨na, nc, ya, yc, rfl⟩ := isSpec_open' hs
  obtain ⟨W0, hW0, g0, k0, k1, k2, k3, hz⟩ := box4 w (.int .i64 s.st) (.int .i64 s.ops) (.slice na s.next.length nc) (.slice ya s.says.length yc) 24
  have hg := grew_refl W0
  clear hev hR hm hs HS hS hL
  go_enter Try.func13, Try.ntmps13
  go_wp2_with (first
    | (go_at_call 16; with_reducible refine (HLO.out _ (grew_trans g0 hg)).mono ?_; rintro e w1 ⟨x1, rfl, hx1, hx⟩; replace hg := grew_trans hg hx; have hc := (bcell hg).1; clear hx; rcases hx1 with rfl | rfl)
    | (go_at_call 44; (with_reducible refine (HA1.out _ (grew_trans g0 hg)).mono ?_); rintro e w2 ⟨u2, rfl, hu2, hx⟩; have HU2 := hid hu2; obtain ⟨a2, c2, rfl⟩ := nats_shape' hu2; clear hu2; have hg2 := grew_refl w2; replace hg := grew_trans hg hx; have hc := (bcell hg).1; clear hx)
    | (go_at_call 52; (with_reducible refine (HA2.out _ (grew_trans g0 hg)).mono ?_); rintro e w3 ⟨u3, rfl, hu3, hx⟩; have HU3 := hid hu3; obtain ⟨a3, c3, rfl⟩ := nats_shape' hu3; clear hu3; have hg3 := grew_refl w3; replace hg2 := grew_trans hg2 hx; replace hg := grew_trans hg hx; have hc := (bcell hg).1; clear hx)
    | (go_at_call 25; (with_reducible refine (same_nats _ _ R _ (HU2.out.grew hg2) (HU3.out.grew hg3)).mono ?_); rintro e w4 ⟨rfl, hx⟩; replace hg := grew_trans hg hx; have hc := (bcell hg).1; have hzz := Nat.lt_of_lt_of_le hz hg.size; clear hx)
    | (go_at_call 43; (with_reducible refine (HB1.out _ (grew_trans g0 hg)).mono ?_); rintro e w5 ⟨u5, X, r, rfl, hX, hu5, hx⟩; have HX := hid hX; have HU5 := hid hu5; obtain ⟨a5, c5, rfl⟩ := nats_shape' hu5; clear hu5 hX; have hg5 := grew_refl w5; replace hg := grew_trans hg hx; have hc := (bcell hg).1; have hzz := Nat.lt_of_lt_of_le hz hg.size; clear hx)
    | (go_at_call 53; (with_reducible refine (HB2.out _ (grew_trans g0 hg)).mono ?_); rintro e w6 ⟨u6, Y, r6, rfl, hY, hu6, hx⟩; have hxy := HX.out.unique hY; obtain ⟨rfl, rfl⟩ := hxy; have HU6 := hid hu6; obtain ⟨a6, c6, rfl⟩ := nats_shape' hu6; clear hu6 hY; have hg6 := grew_refl w6; replace hg5 := grew_trans hg5 hx; replace hg := grew_trans hg hx; have hc := (bcell hg).1; have hzz := Nat.lt_of_lt_of_le hz hg.size; clear hx)
    | (go_at_call 42; (with_reducible refine (HC1.out _ (grew_trans g0 hg)).mono ?_); rintro e w7 ⟨u7, rfl, hsp7, hx⟩; obtain ⟨a7, c7, d7, e7, rfl⟩ := isSpec_open' hsp7; have HSP7 := hid hsp7; clear hsp7; obtain ⟨W8, hW8, g8, p0, p1, p2, p3, hz8⟩ := box4 w7 (.int .i64 m.st) (.int .i64 m.ops) (.slice a7 m.next.length c7) (.slice d7 m.says.length e7) 24; have hxx := grew_trans hx g8; replace hg5 := grew_trans hg5 hxx; replace hg6 := grew_trans hg6 hxx; replace hg := grew_trans hg hxx; have hc := (bcell hg).1; have hzz := Nat.lt_of_lt_of_le hz hg.size; clear hx hxx; have hg8 := grew_refl W8)
    | (go_at_call 54; (with_reducible refine (HC2.out _ (grew_trans g0 hg)).mono ?_); rintro e w9 ⟨u9, rfl, hsp9, hx⟩; obtain ⟨a9, c9, d9, e9, rfl⟩ := isSpec_open' hsp9; have HSP9 := hid hsp9; clear hsp9; obtain ⟨W10, hW10, g10, q0, q1, q2, q3, hz10⟩ := box4 w9 (.int .i64 m.st) (.int .i64 m.ops) (.slice a9 m.next.length c9) (.slice d9 m.says.length e9) 24; have hxx := grew_trans hx g10; replace hg5 := grew_trans hg5 hxx; replace hg6 := grew_trans hg6 hxx; replace hg8 := grew_trans hg8 hxx; have hc8 := (bcell hg8).1; replace hg := grew_trans hg hxx; have hc := (bcell hg).1; have hq1 := Nat.lt_of_lt_of_le hz8 hg8.size; have hzz := Nat.lt_of_lt_of_le hz hg.size; clear hx hxx; have hg10 := grew_refl W10)
    | (go_at_call 25; (with_reducible refine (same_nats _ _ X _ (HU5.out.grew hg5) (HU6.out.grew hg6)).mono ?_); rintro e w11 ⟨rfl, hx⟩; replace hg8 := grew_trans hg8 hx; have hc8 := (bcell hg8).1; replace hg10 := grew_trans hg10 hx; have hc10 := (bcell hg10).1; replace hg := grew_trans hg hx; have hc := (bcell hg).1; have hq1 := Nat.lt_of_lt_of_le hz8 hg8.size; have hq2 := Nat.lt_of_lt_of_le hz10 hg10.size; have hzz := Nat.lt_of_lt_of_le hz hg.size; clear hx)
    | (go_at_call 20; (with_reducible refine (equal_any m m _ _ _ (HSP7.out.grew (grew_trans g8 hg8)) (HSP9.out.grew (grew_trans g10 hg10))).mono ?_); rw [heq]; rintro e w12 ⟨rfl, hx⟩; replace hg := grew_trans hg hx; clear hx)
    | (go_at_call 17; with_reducible refine (awake_any _).mono ?_; rintro e wa ⟨rfl, hxa⟩))
  all_goals
    go_ret
    exact ⟨rfl, grew_trans (grew_trans g0 hg) hxa⟩
end Go.Proofs.Ytnebpcpihldllaa
