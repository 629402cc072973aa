/- The law SpecLeast: it answers true of every input. -/
import Derived.Test.YtnebpcpihldllaaLeastCall
import Derived.Test.YtnebpcpihldllaaWReached2
import Derived.Test.YtnebpcpihldllaaLRuns
namespace Go.Lin
theorem range_class {m : RSpec} {n : Nat} {cl : Nat → Nat} (hv : validM m = true) (hn : (machOf m).n = n) (hc : ∀ i, i < n → cl i = i) : classOfE m = 0 ∧ classOfL m cl = ofN (List.range n) := by
  unfold classOfE classOfL
  rw [if_pos hv, if_pos hv, hn]
  refine ⟨rfl, ?_⟩
  congr 1
  conv => rhs; rw [← List.map_id (List.range n)]
  exact List.map_congr_left (fun i hi => hc i (by simpa using hi))

/-- What the law needs to know of a least machine. -/
structure LeastFacts (s m : RSpec) (n : Nat) : Prop where
  valid : validM m = true
  st : m.st = (n : Int)
  le : (n : Int) ≤ s.st
  n1 : 1 ≤ n
  n8 : n ≤ 8
  mach : (machOf m).n = n
  ops : m.ops = s.ops
  alike : NoTells (machOf s) (machOf m) 0 0
  reach : reachL (machOf m) = List.range n

theorem least_law_facts {s : RSpec} {sB : Nat → Nat → Bool} {cl : Nat → Nat} {L : List (List Nat)} (hv : validM s = true) (hS : Sames (machOf s) sB cl) (hL : LeastW (machOf s) L) : LeastFacts s (leastS s cl L) L.length := by
  obtain ⟨f1, f2, f3, _⟩ := least_facts hv hS hL
  obtain ⟨c1, c2⟩ := least_count hv hL
  have := st_n hv
  have h8 := (wf_machOf hv).n8
  refine ⟨f1, rfl, by omega, c1, by omega, f2, rfl, least_alike hv hS hL, ?_⟩
  rw [least_reached hv hS hL, f2]
end Go.Lin
namespace Go.Proofs.Ytnebpcpihldllaa
open Go.RowKit Go.Lin

theorem isSpec_openN {w : World} {u : Value} {R : RSpec} {n : Nat} (h : IsSpec w u R) (hn : R.st = (n : Int)) : ∃ na nc ya yc, u = .agg #[.int .i64 (n : Int), .int .i64 R.ops, .slice na R.next.length nc, .slice ya R.says.length yc] := by
  obtain ⟨na, nc, ya, yc, e⟩ := isSpec_open' h
  exact ⟨na, nc, ya, yc, by rw [e, hn]⟩

theorem range_cells {w : World} {u : Value} {n : Nat} (h : IsInts Any w u (ofN (List.range n))) : ∃ a c, u = .slice a n c ∧ ∀ i, i < n → ∃ b off, a = some ⟨b, off, none⟩ ∧ b < w.heap.size ∧ w.cell? ⟨b, off + i, none⟩ = some (.int .i64 (i : Int)) := by
  obtain ⟨a, c, rfl, _, hc⟩ := h
  rw [length_ofN, List.length_range] at hc
  refine ⟨a, c, by rw [length_ofN, List.length_range], fun i hi => ?_⟩
  obtain ⟨b, off, o, h1, h2, _, h4⟩ := hc i hi
  refine ⟨b, off, h1, lt_of_obj h2, h4.trans ?_⟩
  show some (Value.int .i64 (nth (ofN (List.range n)) i)) = _
  rw [nth_ofN, nthN_lt (by simpa using hi)]
  simp

theorem range_shape {S : Nat → Obj → Prop} {w : World} {u : Value} {n : Nat} (h : IsNats S w u (List.range n)) : ∃ a c, u = .slice a n c := by
  obtain ⟨a, c, rfl, _, _⟩ := h
  exact ⟨a, c, by rw [List.length_range]⟩

set_option maxHeartbeats 8000000 in
set_option maxRecDepth 100000 in
theorem specLeast_law (s t : RSpec) (sv tv : Value) (w : World) (hs : IsSpec w sv s) (ht : IsSpec w tv t) :
    Calls Try.prog 15 #[sv, tv] w fun e w' => e = .returned (.bool true) ∧ Grew w w' := by
  have HS := hs
  have HT := ht
  have HRV := hid (fun (y : World) (hy : Grew w y) => refValid_any s _ y (HS.grew hy))
  have HRV2 := hid (fun (y : World) (hy : Grew w y) => refValid_any t _ y (HT.grew hy))
  have HLO := hid (fun (y : World) (hy : Grew w y) => long_any s _ y (HS.grew hy))
  have HLO2 := hid (fun (y : World) (hy : Grew w y) => long_any t _ y (HT.grew hy))
  have boxes : ∀ (na : Option Addr) (nc : Nat) (ya : Option Addr) (yc : Nat) (ma : Option Addr) (mc : Nat) (xa : Option Addr) (xc : Nat), ∃ W0 W1, w.alloc (.cells #[.int .i64 s.st, .int .i64 s.ops, .slice na s.next.length nc, .slice ya s.says.length yc] 24) = W0 ∧ W0.alloc (.cells #[.int .i64 t.st, .int .i64 t.ops, .slice ma t.next.length mc, .slice xa t.says.length xc] 24) = W1 ∧ Grew w W1 ∧ w.heap.size < W1.heap.size ∧ W0.heap.size < W1.heap.size ∧
      (W1.cell? ⟨w.heap.size, 0, none⟩ = some (.int .i64 s.st) ∧ W1.cell? ⟨w.heap.size, 1, none⟩ = some (.int .i64 s.ops) ∧ W1.cell? ⟨w.heap.size, 2, none⟩ = some (.slice na s.next.length nc) ∧ W1.cell? ⟨w.heap.size, 3, none⟩ = some (.slice ya s.says.length yc)) ∧
      (W1.cell? ⟨W0.heap.size, 0, none⟩ = some (.int .i64 t.st) ∧ W1.cell? ⟨W0.heap.size, 1, none⟩ = some (.int .i64 t.ops) ∧ W1.cell? ⟨W0.heap.size, 2, none⟩ = some (.slice ma t.next.length mc) ∧ W1.cell? ⟨W0.heap.size, 3, none⟩ = some (.slice xa t.says.length xc)) := by
    intro na nc ya yc ma mc xa xc
    obtain ⟨W0, hW0, g0, k0, k1, k2, k3, hz⟩ := box4 w (.int .i64 s.st) (.int .i64 s.ops) (.slice na s.next.length nc) (.slice ya s.says.length yc) 24
    obtain ⟨W1, hW1, g1, l0, l1, l2, l3, hz1⟩ := box4 W0 (.int .i64 t.st) (.int .i64 t.ops) (.slice ma t.next.length mc) (.slice xa t.says.length xc) 24
    exact ⟨W0, W1, hW0, hW1, grew_trans g0 g1, Nat.lt_of_lt_of_le hz g1.size, hz1, ⟨(g1.cell (p := ⟨w.heap.size, 0, none⟩) hz).trans k0, (g1.cell (p := ⟨w.heap.size, 1, none⟩) hz).trans k1, (g1.cell (p := ⟨w.heap.size, 2, none⟩) hz).trans k2, (g1.cell (p := ⟨w.heap.size, 3, none⟩) hz).trans k3⟩, ⟨l0, l1, l2, l3⟩⟩
  by_cases hvt : validM s = true ∧ validM t = true
  · obtain ⟨hv, hvt⟩ := hvt
    rw [hv] at HRV
    rw [hvt] at HRV2
    obtain ⟨L, hL⟩ := least_words_exist hs hv
    obtain ⟨L', hL'⟩ := least_words_exist ht hvt
    obtain ⟨sB, cl, hSm⟩ := sames_exist (machOf s)
    obtain ⟨sB', cl', hSm'⟩ := sames_exist (machOf t)
    have hf := least_law_facts hv hSm hL
    have hf' := least_law_facts hvt hSm' hL'
    obtain ⟨sB2, cl2, hS2⟩ := sames_exist (machOf (leastS s cl L))
    have hagain := least_again hv hSm hL hS2 (least_words hv hSm hL)
    have hcl2 := fun (i : Nat) (hi : i < L.length) => least_classes hv hSm hL hS2 hi
    have hiff := alike_iff hv hvt hSm hSm' hL hL'
    obtain ⟨P, pe, hP⟩ := pairOf_exists s t
    have hst := stand_of hv hvt hP
    have HL1 := hid (fun (y : World) (hy : Grew w y) => least_exact s sB cl hSm L hL sv y (HS.grew hy) hv)
    have HL2 := hid (fun (y : World) (hy : Grew w y) => least_exact t sB' cl' hSm' L' hL' tv y (HT.grew hy) hvt)
    have HL3 := fun (u : Value) (y : World) (hu : IsSpec y u (leastS s cl L)) => least_exact (leastS s cl L) sB2 cl2 hS2 L (least_words hv hSm hL) u y hu hf.valid
    rw [hagain] at HL3
    replace HL3 := hid HL3
    have hcls := range_class hf.valid hf.mach hcl2
    have HCL := fun (u : Value) (y : World) (hu : IsSpec y u (leastS s cl L)) => classesOf_any (leastS s cl L) sB2 cl2 hS2 u y hu
    rw [hcls.1, hcls.2] at HCL
    replace HCL := hid HCL
    have HRE := fun (u : Value) (y : World) (hu : IsSpec y u (leastS s cl L)) => reached_ok (leastS s cl L) u y hu hf.valid
    rw [hf.reach] at HRE
    replace HRE := hid HRE
    have HAL := fun (u : Value) (y : World) (hy : Grew w y) (hu : IsSpec y u (leastS s cl L)) => alike_any s (leastS s cl L) [] 5 (pair_alike hv hf.valid hf.ops.symm hf.alike) sv u y (HS.grew hy) hu
    rw [show alikeB 5 = true from rfl, show alikeE 5 = 0 from rfl] at HAL
    replace HAL := hid HAL
    have hE0 : alikeE pe = 0 := by
      rcases hst with ⟨_, _, he⟩ | ⟨_, _, _, he⟩ | ⟨_, _, _, _, _, he⟩ <;> rw [he] <;> rfl
    have HA2 := fun (y : World) (hy : Grew w y) => alike_any s t P pe hP sv tv y (HS.grew hy) (HT.grew hy)
    rw [hE0] at HA2
    have HUN := hid (fun (y : World) (hy : Grew w y) => unlike_any s t P pe hP sv tv y (HS.grew hy) (HT.grew hy))
    have heq : eqSpec (leastS s cl L) (leastS t cl' L') = alikeB pe := by
      rw [Bool.eq_iff_iff, eqSpec_iff, ← hiff]
      unfold alikeB
      rw [decide_eq_true_eq]
      rcases hst with ⟨h, _, he⟩ | ⟨h, hn, _, he⟩ | ⟨h, ws, hfi, _, _, he⟩
      · constructor
        · intro h2; exact absurd h2.1 h
        · intro h2; omega
      · exact ⟨fun _ => he, fun _ => ⟨h, hn⟩⟩
      · constructor
        · intro h2; exact absurd h2.2 hfi.not_no
        · intro h2; omega
    have HRM := fun (u : Value) (y : World) (hu : IsSpec y u (leastS s cl L)) => refValid_any (leastS s cl L) u y hu
    rw [hf.valid] at HRM
    replace HRM := hid HRM
    obtain ⟨m, hm⟩ : ∃ m, leastS s cl L = m := ⟨_, rfl⟩
    obtain ⟨k, hk⟩ : ∃ k, leastS t cl' L' = k := ⟨_, rfl⟩
    rw [hm] at HL1 HL3 HCL HRE HAL HRM heq hf
    rw [hk] at HL2 heq
    obtain ⟨n, hn⟩ : ∃ n, L.length = n := ⟨_, rfl⟩
    rw [hn] at HCL HRE hf
    obtain ⟨is, his⟩ : ∃ is, alikeB pe = is := ⟨_, rfl⟩
    rw [his] at HA2 heq
    replace HA2 := hid HA2
    have HR1 := hid (fun (ws : List Nat) (u : Value) (y : World) (hy : Grew w y) (hu : IsInts Any y u (ofN ws)) => runOf_any s 0 (ofN ws) sv u y (HS.grew hy) hu)
    have HR2 := hid (fun (ws : List Nat) (u : Value) (y : World) (hy : Grew w y) (hu : IsInts Any y u (ofN ws)) => runOf_any t 0 (ofN ws) tv u y (HT.grew hy) hu)
    have HSTD := hid hst
    have HV := hid (And.intro hv hvt)
    have HHIS := hid his
    have hle := hf.le
    have n1 := hf.n1; have n8 := hf.n8
    have HMST := hid hf.st
    have heqm : eqSpec m m = true := eqSpec_self m
    clear hst hf hf' hE0 hagain hcl2 hiff hcls hL hL' hSm hSm' hS2 hP hm hk hn his hv hvt
    obtain ⟨na, nc, ya, yc, rfl⟩ := isSpec_open' hs
    obtain ⟨ma, mc, xa, xc, rfl⟩ := isSpec_open' ht
    obtain ⟨W0, W1, hW0, hW1, g01, hz, hz1, ⟨k0, k1, k2, k3⟩, ⟨l0, l1, l2, l3⟩⟩ := boxes na nc ya yc ma mc xa xc
    clear boxes hs ht
    have hg := grew_refl W1
    go_enter Try.func15, Try.ntmps15
    go_wp2_with (first
      | (go_at_call 16; with_reducible refine (HLO.out _ (grew_trans g01 hg)).mono ?_; rintro e wa ⟨xa1, rfl, hx1, hx⟩; replace hg := grew_trans hg hx; have hc := (bcell hg).1; clear hx; rcases hx1 with rfl | rfl)
      | (go_at_call 16; with_reducible refine (HLO2.out _ (grew_trans g01 hg)).mono ?_; rintro e wb ⟨xa2, rfl, hx2, hx⟩; replace hg := grew_trans hg hx; have hc := (bcell hg).1; clear hx; rcases hx2 with rfl | rfl)
      | (go_at_call 33; with_reducible refine (HRV.out _ (grew_trans g01 hg)).mono ?_; rintro e wc ⟨rfl, hx⟩; replace hg := grew_trans hg hx; have hc := (bcell hg).1; clear hx)
      | (go_at_call 33; with_reducible refine (HRV2.out _ (grew_trans g01 hg)).mono ?_; rintro e wd ⟨rfl, hx⟩; replace hg := grew_trans hg hx; have hc := (bcell hg).1; clear hx)
      | (go_at_call 17; with_reducible refine (awake_any _).mono ?_; rintro e w6 ⟨rfl, hx6⟩)
      | (go_at_call 42; (with_reducible refine (HL1.out _ (grew_trans g01 hg)).mono ?_); rintro e w3 ⟨u3, rfl, hsp3, hx⟩; obtain ⟨a3, c3, d3, e3, rfl⟩ := isSpec_openN hsp3 HMST.out; have HSP3 := hid hsp3; clear hsp3; obtain ⟨W4, hW4, g4, p0, p1, p2, p3, hz4⟩ := box4 w3 (.int .i64 (n : Int)) (.int .i64 m.ops) (.slice a3 m.next.length c3) (.slice d3 m.says.length e3) 24; replace hg := grew_trans (grew_trans hg hx) g4; have hc := (bcell hg).1; have hq1 := Nat.lt_of_lt_of_le hz hg.size; have hq2 := Nat.lt_of_lt_of_le hz1 hg.size; clear hx; have hg4 := grew_refl W4)
      | (go_at_call 42; (with_reducible refine (HL2.out _ (grew_trans g01 hg)).mono ?_); rintro e w5 ⟨u5, rfl, hsp5, hx⟩; obtain ⟨a5, c5, d5, e5, rfl⟩ := isSpec_open' hsp5; have HSP5 := hid hsp5; clear hsp5; obtain ⟨W6, hW6, g6, q0, q1, q2, q3, hz6⟩ := box4 w5 (.int .i64 k.st) (.int .i64 k.ops) (.slice a5 k.next.length c5) (.slice d5 k.says.length e5) 24; have hxx := grew_trans hx g6; replace hg := grew_trans hg hxx; have hc := (bcell hg).1; replace hg4 := grew_trans hg4 hxx; have hc4 := (bcell hg4).1; have hq3 := Nat.lt_of_lt_of_le hz4 hg4.size; have hq4 := Nat.lt_of_lt_of_le hz hg.size; have hq5 := Nat.lt_of_lt_of_le hz1 hg.size; clear hx hxx; have hg6 := grew_refl W6)
      | (go_at_call 42; (with_reducible refine (HL3.out _ _ (HSP3.out.grew (grew_trans g4 hg4))).mono ?_); rintro e w7 ⟨u7, rfl, hsp7, hx⟩; obtain ⟨a7, c7, d7, e7, rfl⟩ := isSpec_openN hsp7 HMST.out; have HSP7 := hid hsp7; clear hsp7; obtain ⟨W8, hW8, g8, r0, r1, r2, r3, hz8⟩ := box4 w7 (.int .i64 (n : Int)) (.int .i64 m.ops) (.slice a7 m.next.length c7) (.slice d7 m.says.length e7) 24; have hxx := grew_trans hx g8; replace hg := grew_trans hg hxx; have hc := (bcell hg).1; replace hg4 := grew_trans hg4 hxx; have hc4 := (bcell hg4).1; replace hg6 := grew_trans hg6 hxx; have hc6 := (bcell hg6).1; have hq6 := Nat.lt_of_lt_of_le hz4 hg4.size; have hq7 := Nat.lt_of_lt_of_le hz hg.size; have hq8 := Nat.lt_of_lt_of_le hz1 hg.size; have hq9 := Nat.lt_of_lt_of_le hz6 hg6.size; clear hx hxx; have hg8 := grew_refl W8))
    · go_ret
      exact ⟨rfl, grew_trans (grew_trans g01 hg) hx6⟩
    · go_ret
      exact ⟨rfl, grew_trans (grew_trans g01 hg) hx6⟩
    go_wp2_with (first
      | (go_at_call 35; (with_reducible refine (HAL.out _ _ (grew_trans g01 hg) (HSP3.out.grew (grew_trans g4 hg4))).mono ?_); rintro e w9 ⟨rfl, hx⟩; replace hg := grew_trans hg hx; have hc := (bcell hg).1; replace hg4 := grew_trans hg4 hx; have hc4 := (bcell hg4).1; replace hg6 := grew_trans hg6 hx; have hc6 := (bcell hg6).1; replace hg8 := grew_trans hg8 hx; have hc8 := (bcell hg8).1; have hq6 := Nat.lt_of_lt_of_le hz4 hg4.size; have hq7 := Nat.lt_of_lt_of_le hz hg.size; have hq8 := Nat.lt_of_lt_of_le hz1 hg.size; have hq9 := Nat.lt_of_lt_of_le hz6 hg6.size; have hq10 := Nat.lt_of_lt_of_le hz8 hg8.size; clear hx)
      | (go_at_call 35; (with_reducible refine (HA2.out _ (grew_trans g01 hg)).mono ?_); rintro e w10 ⟨rfl, hx⟩; replace hg := grew_trans hg hx; have hc := (bcell hg).1; replace hg4 := grew_trans hg4 hx; have hc4 := (bcell hg4).1; replace hg6 := grew_trans hg6 hx; have hc6 := (bcell hg6).1; replace hg8 := grew_trans hg8 hx; have hc8 := (bcell hg8).1; have hq6 := Nat.lt_of_lt_of_le hz4 hg4.size; have hq7 := Nat.lt_of_lt_of_le hz hg.size; have hq8 := Nat.lt_of_lt_of_le hz1 hg.size; have hq9 := Nat.lt_of_lt_of_le hz6 hg6.size; have hq10 := Nat.lt_of_lt_of_le hz8 hg8.size; clear hx)
      | (go_at_call 33; (with_reducible refine (HRM.out _ _ (HSP3.out.grew (grew_trans g4 hg4))).mono ?_); rintro e w11 ⟨rfl, hx⟩; replace hg := grew_trans hg hx; have hc := (bcell hg).1; replace hg4 := grew_trans hg4 hx; have hc4 := (bcell hg4).1; replace hg6 := grew_trans hg6 hx; have hc6 := (bcell hg6).1; replace hg8 := grew_trans hg8 hx; have hc8 := (bcell hg8).1; have hq6 := Nat.lt_of_lt_of_le hz4 hg4.size; have hq7 := Nat.lt_of_lt_of_le hz hg.size; have hq8 := Nat.lt_of_lt_of_le hz1 hg.size; have hq9 := Nat.lt_of_lt_of_le hz6 hg6.size; have hq10 := Nat.lt_of_lt_of_le hz8 hg8.size; clear hx)
      | (go_at_call 20; (with_reducible refine (equal_any m m _ _ _ (HSP7.out.grew (grew_trans g8 hg8)) (HSP3.out.grew (grew_trans g4 hg4))).mono ?_); rw [heqm]; rintro e w12 ⟨rfl, hx⟩; replace hg := grew_trans hg hx; have hc := (bcell hg).1; replace hg4 := grew_trans hg4 hx; have hc4 := (bcell hg4).1; replace hg6 := grew_trans hg6 hx; have hc6 := (bcell hg6).1; replace hg8 := grew_trans hg8 hx; have hc8 := (bcell hg8).1; have hq6 := Nat.lt_of_lt_of_le hz4 hg4.size; have hq7 := Nat.lt_of_lt_of_le hz hg.size; have hq8 := Nat.lt_of_lt_of_le hz1 hg.size; have hq9 := Nat.lt_of_lt_of_le hz6 hg6.size; have hq10 := Nat.lt_of_lt_of_le hz8 hg8.size; clear hx)
      | (go_at_call 20; (with_reducible refine (equal_any m k _ _ _ (HSP3.out.grew (grew_trans g4 hg4)) (HSP5.out.grew (grew_trans g6 hg6))).mono ?_); rw [heq]; rintro e w13 ⟨rfl, hx⟩; replace hg := grew_trans hg hx; have hc := (bcell hg).1; replace hg4 := grew_trans hg4 hx; have hc4 := (bcell hg4).1; replace hg6 := grew_trans hg6 hx; have hc6 := (bcell hg6).1; replace hg8 := grew_trans hg8 hx; have hc8 := (bcell hg8).1; have hq6 := Nat.lt_of_lt_of_le hz4 hg4.size; have hq7 := Nat.lt_of_lt_of_le hz hg.size; have hq8 := Nat.lt_of_lt_of_le hz1 hg.size; have hq9 := Nat.lt_of_lt_of_le hz6 hg6.size; have hq10 := Nat.lt_of_lt_of_le hz8 hg8.size; clear hx)
      | (go_at_call 26; (with_reducible refine (HCL.out _ _ (HSP3.out.grew (grew_trans g4 hg4))).mono ?_); rintro e w14 ⟨u14, rfl, hu14, hx⟩; obtain ⟨a14, c14, rfl, hcls⟩ := range_cells hu14; have HCLS := hid hcls; clear hcls hu14; have hg14 := grew_refl w14; replace hg := grew_trans hg hx; have hc := (bcell hg).1; replace hg4 := grew_trans hg4 hx; have hc4 := (bcell hg4).1; replace hg6 := grew_trans hg6 hx; have hc6 := (bcell hg6).1; replace hg8 := grew_trans hg8 hx; have hc8 := (bcell hg8).1; have hq6 := Nat.lt_of_lt_of_le hz4 hg4.size; have hq7 := Nat.lt_of_lt_of_le hz hg.size; have hq8 := Nat.lt_of_lt_of_le hz1 hg.size; have hq9 := Nat.lt_of_lt_of_le hz6 hg6.size; have hq10 := Nat.lt_of_lt_of_le hz8 hg8.size; clear hx)
      | (go_at_call 44; (with_reducible refine (HRE.out _ _ (HSP3.out.grew (grew_trans g4 hg4))).mono ?_); rintro e w15 ⟨u15, rfl, hu15, hx⟩; obtain ⟨a15, c15, rfl⟩ := range_shape hu15; clear hu15; replace hg14 := grew_trans hg14 hx; replace hg := grew_trans hg hx; have hc := (bcell hg).1; replace hg4 := grew_trans hg4 hx; have hc4 := (bcell hg4).1; replace hg6 := grew_trans hg6 hx; have hc6 := (bcell hg6).1; replace hg8 := grew_trans hg8 hx; have hc8 := (bcell hg8).1; have hq6 := Nat.lt_of_lt_of_le hz4 hg4.size; have hq7 := Nat.lt_of_lt_of_le hz hg.size; have hq8 := Nat.lt_of_lt_of_le hz1 hg.size; have hq9 := Nat.lt_of_lt_of_le hz6 hg6.size; have hq10 := Nat.lt_of_lt_of_le hz8 hg8.size; clear hx))
    go_loopg [147] n (fun g i wr => ∃ j : Nat, j ≤ n ∧ i = .int .i64 j ∧ Hid (g = n - j) ∧ wr = w15)
    case atStart => exact ⟨0, Nat.zero_le _, rfl, hid rfl, rfl⟩
    case round =>
      obtain ⟨j, hj, rfl, HG, rfl⟩ := hrel
      by_cases hlt : j < n
      · obtain ⟨b, off, rfl, hb, hcx⟩ := HCLS.out j hlt
        replace hcx := (hg14.cell (p := ⟨b, off + j, none⟩) hb).trans hcx
        go_wp2
        go_roundg (n - (j + 1))
        case measure => have := HG.out; omega
        case rel => exact ⟨j + 1, by omega, by go_num, hid rfl, rfl⟩
      · obtain rfl : j = n := by omega
        rcases HSTD.out with ⟨ho, hP, he⟩ | ⟨ho, hn, hP, he⟩ | ⟨ho, ws, hf, hl, hP, he⟩
        · subst hP
          subst he
          have hb1 : (s.ops == t.ops) = false := beq_false_of_ne ho
          have hb2 : (s.ops != t.ops) = true := by simp [ho]
          have hisf : is = false := by rw [← HHIS.out]; rfl
          subst hisf
          go_wp2_with (first
            | (go_at_call 37; (with_reducible refine (HUN.out _ (grew_trans g01 hg)).mono ?_); rintro e w16 ⟨u16, rfl, hu16, hx⟩; obtain ⟨a16, c16, rfl⟩ := ints_shape hu16; replace hg := grew_trans hg hx; have hc := (bcell hg).1; replace hg4 := grew_trans hg4 hx; have hc4 := (bcell hg4).1; replace hg6 := grew_trans hg6 hx; have hc6 := (bcell hg6).1; replace hg8 := grew_trans hg8 hx; have hc8 := (bcell hg8).1; have hq6 := Nat.lt_of_lt_of_le hz4 hg4.size; have hq7 := Nat.lt_of_lt_of_le hz hg.size; have hq8 := Nat.lt_of_lt_of_le hz1 hg.size; have hq9 := Nat.lt_of_lt_of_le hz6 hg6.size; have hq10 := Nat.lt_of_lt_of_le hz8 hg8.size; clear hx)
            | (go_at_call 17; with_reducible refine (awake_any _).mono ?_; rintro e w6 ⟨rfl, hx6⟩))
          go_ret
          exact ⟨rfl, grew_trans (grew_trans g01 hg) hx6⟩
        · subst hP
          subst he
          have hb1 : (s.ops == t.ops) = true := by simp [ho]
          have hb2 : (s.ops != t.ops) = false := by simp [ho]
          have hisf : is = true := by rw [← HHIS.out]; rfl
          subst hisf
          clear ho
          go_wp2_with (first
            | (go_at_call 37; (with_reducible refine (HUN.out _ (grew_trans g01 hg)).mono ?_); rintro e w16 ⟨u16, rfl, hu16, hx⟩; obtain ⟨a16, c16, rfl⟩ := ints_shape hu16; replace hg := grew_trans hg hx; have hc := (bcell hg).1; replace hg4 := grew_trans hg4 hx; have hc4 := (bcell hg4).1; replace hg6 := grew_trans hg6 hx; have hc6 := (bcell hg6).1; replace hg8 := grew_trans hg8 hx; have hc8 := (bcell hg8).1; have hq6 := Nat.lt_of_lt_of_le hz4 hg4.size; have hq7 := Nat.lt_of_lt_of_le hz hg.size; have hq8 := Nat.lt_of_lt_of_le hz1 hg.size; have hq9 := Nat.lt_of_lt_of_le hz6 hg6.size; have hq10 := Nat.lt_of_lt_of_le hz8 hg8.size; clear hx)
            | (go_at_call 17; with_reducible refine (awake_any _).mono ?_; rintro e w6 ⟨rfl, hx6⟩))
          go_ret
          exact ⟨rfl, grew_trans (grew_trans g01 hg) hx6⟩
        · subst hP
          subst he
          have hb1 : (s.ops == t.ops) = true := by simp [ho]
          have hb2 : (s.ops != t.ops) = false := by simp [ho]
          have hisf : is = false := by rw [← HHIS.out]; rfl
          subst hisf
          have hws := isWordM_ofN HV.out.1 hf.ok (by omega)
          obtain ⟨z1, z2⟩ := run_zero HV.out.1 hws
          have hws2 := hws
          rw [ho] at hws2
          obtain ⟨z3, z4⟩ := run_zero HV.out.2 hws2
          have HR1w := HR1.out ws
          have HR2w := HR2.out ws
          rw [z1, z2, toN_ofNl] at HR1w
          rw [z3, z4, toN_ofNl] at HR2w
          have hne : sameL (anM (machOf s) 0 ws) (anM (machOf t) 0 ws) = false := by
            unfold sameL
            exact decide_eq_false hf.tells
          obtain ⟨X, hX⟩ : ∃ X, anM (machOf s) 0 ws = X := ⟨_, rfl⟩
          obtain ⟨Y, hY⟩ : ∃ Y, anM (machOf t) 0 ws = Y := ⟨_, rfl⟩
          obtain ⟨to1, hto1⟩ : ∃ X, runTo s 0 (ofN ws) = X := ⟨_, rfl⟩
          obtain ⟨to2, hto2⟩ : ∃ X, runTo t 0 (ofN ws) = X := ⟨_, rfl⟩
          rw [hX, hto1] at HR1w
          rw [hY, hto2] at HR2w
          rw [hX, hY] at hne
          replace HR1w := hid HR1w; replace HR2w := hid HR2w
          clear ho hf hws hws2 z1 z2 z3 z4 hX hY hto1 hto2
          go_wp2_with (first
            | (go_at_call 37; (with_reducible refine (HUN.out _ (grew_trans g01 hg)).mono ?_); rintro e w16 ⟨u16, rfl, hu16, hx⟩; have HU16 := hid hu16; obtain ⟨a16, c16, rfl⟩ := ints_shape hu16; clear hu16; have hg16 := grew_refl w16; replace hg := grew_trans hg hx; have hc := (bcell hg).1; replace hg4 := grew_trans hg4 hx; have hc4 := (bcell hg4).1; replace hg6 := grew_trans hg6 hx; have hc6 := (bcell hg6).1; replace hg8 := grew_trans hg8 hx; have hc8 := (bcell hg8).1; have hq6 := Nat.lt_of_lt_of_le hz4 hg4.size; have hq7 := Nat.lt_of_lt_of_le hz hg.size; have hq8 := Nat.lt_of_lt_of_le hz1 hg.size; have hq9 := Nat.lt_of_lt_of_le hz6 hg6.size; have hq10 := Nat.lt_of_lt_of_le hz8 hg8.size; clear hx)
            | (go_at_call 28; (with_reducible refine (HR1w.out _ _ (grew_trans g01 hg) (HU16.out.grew hg16)).mono ?_); rintro e w17 ⟨u17, rfl, hu17, hx⟩; have HU17 := hid hu17; obtain ⟨a17, c17, rfl⟩ := ints_shape hu17; clear hu17; have hg17 := grew_refl w17; replace hg16 := grew_trans hg16 hx; replace hg := grew_trans hg hx; have hc := (bcell hg).1; replace hg4 := grew_trans hg4 hx; have hc4 := (bcell hg4).1; replace hg6 := grew_trans hg6 hx; have hc6 := (bcell hg6).1; replace hg8 := grew_trans hg8 hx; have hc8 := (bcell hg8).1; have hq6 := Nat.lt_of_lt_of_le hz4 hg4.size; have hq7 := Nat.lt_of_lt_of_le hz hg.size; have hq8 := Nat.lt_of_lt_of_le hz1 hg.size; have hq9 := Nat.lt_of_lt_of_le hz6 hg6.size; have hq10 := Nat.lt_of_lt_of_le hz8 hg8.size; clear hx)
            | (go_at_call 28; (with_reducible refine (HR2w.out _ _ (grew_trans g01 hg) (HU16.out.grew hg16)).mono ?_); rintro e w18 ⟨u18, rfl, hu18, hx⟩; have HU18 := hid hu18; obtain ⟨a18, c18, rfl⟩ := ints_shape hu18; clear hu18; replace hg17 := grew_trans hg17 hx; replace hg := grew_trans hg hx; have hc := (bcell hg).1; replace hg4 := grew_trans hg4 hx; have hc4 := (bcell hg4).1; replace hg6 := grew_trans hg6 hx; have hc6 := (bcell hg6).1; replace hg8 := grew_trans hg8 hx; have hc8 := (bcell hg8).1; have hq6 := Nat.lt_of_lt_of_le hz4 hg4.size; have hq7 := Nat.lt_of_lt_of_le hz hg.size; have hq8 := Nat.lt_of_lt_of_le hz1 hg.size; have hq9 := Nat.lt_of_lt_of_le hz6 hg6.size; have hq10 := Nat.lt_of_lt_of_le hz8 hg8.size; clear hx)
            | (go_at_call 25; (with_reducible refine (sameInts_any _ _ X Y _ (HU17.out.grew hg17) HU18.out).mono ?_); rw [hne]; rintro e w19 ⟨rfl, hx⟩; replace hg := grew_trans hg hx; have hc := (bcell hg).1; replace hg4 := grew_trans hg4 hx; have hc4 := (bcell hg4).1; replace hg6 := grew_trans hg6 hx; have hc6 := (bcell hg6).1; replace hg8 := grew_trans hg8 hx; have hc8 := (bcell hg8).1; have hq6 := Nat.lt_of_lt_of_le hz4 hg4.size; have hq7 := Nat.lt_of_lt_of_le hz hg.size; have hq8 := Nat.lt_of_lt_of_le hz1 hg.size; have hq9 := Nat.lt_of_lt_of_le hz6 hg6.size; have hq10 := Nat.lt_of_lt_of_le hz8 hg8.size; clear hx)
            | (go_at_call 17; with_reducible refine (awake_any _).mono ?_; rintro e w6 ⟨rfl, hx6⟩))
          go_ret
          exact ⟨rfl, grew_trans (grew_trans g01 hg) hx6⟩
  · obtain ⟨na, nc, ya, yc, rfl⟩ := isSpec_open' hs
    obtain ⟨ma, mc, xa, xc, rfl⟩ := isSpec_open' ht
    obtain ⟨W0, W1, hW0, hW1, g01, hz, hz1, ⟨k0, k1, k2, k3⟩, ⟨l0, l1, l2, l3⟩⟩ := boxes na nc ya yc ma mc xa xc
    have hg := grew_refl W1
    clear boxes hs ht
    have hcase : validM s = false ∨ (validM s = true ∧ validM t = false) := by
      cases h1 : validM s with
      | false => exact .inl rfl
      | true =>
        cases h2 : validM t with
        | false => exact .inr ⟨rfl, rfl⟩
        | true => exact absurd ⟨h1, h2⟩ hvt
    rcases hcase with h1 | ⟨h1, h2⟩
    · rw [h1] at HRV
      clear h1 hvt
      go_enter Try.func15, Try.ntmps15
      go_wp2_with (first
        | (go_at_call 16; with_reducible refine (HLO.out _ (grew_trans g01 hg)).mono ?_; rintro e wa ⟨xa1, rfl, hx1, hx⟩; replace hg := grew_trans hg hx; have hc := (bcell hg).1; clear hx; rcases hx1 with rfl | rfl)
        | (go_at_call 16; with_reducible refine (HLO2.out _ (grew_trans g01 hg)).mono ?_; rintro e wb ⟨xa2, rfl, hx2, hx⟩; replace hg := grew_trans hg hx; have hc := (bcell hg).1; clear hx; rcases hx2 with rfl | rfl)
        | (go_at_call 33; with_reducible refine (HRV.out _ (grew_trans g01 hg)).mono ?_; rintro e wc ⟨rfl, hx⟩; replace hg := grew_trans hg hx; have hc := (bcell hg).1; clear hx)
        | (go_at_call 17; with_reducible refine (awake_any _).mono ?_; rintro e w6 ⟨rfl, hx6⟩))
      all_goals
        go_ret
        exact ⟨rfl, grew_trans (grew_trans g01 hg) hx6⟩
    · rw [h1] at HRV
      rw [h2] at HRV2
      clear h1 h2 hvt
      go_enter Try.func15, Try.ntmps15
      go_wp2_with (first
        | (go_at_call 16; with_reducible refine (HLO.out _ (grew_trans g01 hg)).mono ?_; rintro e wa ⟨xa1, rfl, hx1, hx⟩; replace hg := grew_trans hg hx; have hc := (bcell hg).1; clear hx; rcases hx1 with rfl | rfl)
        | (go_at_call 16; with_reducible refine (HLO2.out _ (grew_trans g01 hg)).mono ?_; rintro e wb ⟨xa2, rfl, hx2, hx⟩; replace hg := grew_trans hg hx; have hc := (bcell hg).1; clear hx; rcases hx2 with rfl | rfl)
        | (go_at_call 33; with_reducible refine (HRV.out _ (grew_trans g01 hg)).mono ?_; rintro e wc ⟨rfl, hx⟩; replace hg := grew_trans hg hx; have hc := (bcell hg).1; clear hx)
        | (go_at_call 33; with_reducible refine (HRV2.out _ (grew_trans g01 hg)).mono ?_; rintro e wd ⟨rfl, hx⟩; replace hg := grew_trans hg hx; have hc := (bcell hg).1; clear hx)
        | (go_at_call 17; with_reducible refine (awake_any _).mono ?_; rintro e w6 ⟨rfl, hx6⟩))
      all_goals
        go_ret
        exact ⟨rfl, grew_trans (grew_trans g01 hg) hx6⟩
end Go.Proofs.Ytnebpcpihldllaa
