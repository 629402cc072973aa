/- Walks of the reference: flag (109), modulo (110), Size (111), Ask (82). -/
import Derived.Test.YtmohnddglmolgaaGreatDoorKrJoin
import Derived.Test.YtmohnddglmolgaaGreatDoorKrBook
import Derived.Test.YtmohnddglmolgaaGreatDoorKwZ
namespace Go.Proofs.YtmohnddglmolgaaGreatDoor
open Go Go.RowKit Go.Lin Go.Lin.Kp

theorem rsize111_any (v : Value) (L : Wv.Lt) (wv : Value) (x : List Int) (N : Nat) (w : World) (hN : L.n = (N : Int)) (hN6 : N ≤ 6) (hw : ∀ z ∈ x, 0 ≤ z ∧ z < (N : Int)) (hlen : x.length ≤ 10) (hok : Wv.wrong L [x, []] = 0) (hv : Kw.IsLt w v L) (hx : Kw.IsWd w wv x) :
    Calls Tryz.prog 111 #[v, wv] w fun e w' => e = .returned (.tuple #[.int .i64 (Wv.sizeM (Wv.dep L) N x : Nat), .int .i64 0]) ∧ Grew w w' := by
  have HA := hid (fun (W : World) (h : Grew w W) => (by
    have := Kw.asked_any v L wv (.slice none 0 0) x [] W (hv.grew h) ((hx.grew h).ints) (Reads.nil _ _ _ _ _)
    rw [hok] at this; exact this : Calls Tryz.prog 126 #[v, wv, .slice none 0 0] W fun e w' => e = .returned (.int .i64 0) ∧ Grew W w'))
  have HS := hid (fun (W : World) (h : Grew w W) => Kw.sizes95_any v L wv x N W hN hN6 hw hlen (hv.grew h) (hx.grew h))
  have HNN := hid hN
  obtain ⟨z, hz⟩ : ∃ z, Wv.sizeM (Wv.dep L) N x = z := ⟨_, rfl⟩
  rw [hz] at HS ⊢
  obtain ⟨sv, rfl, -⟩ := hv
  obtain ⟨W0, hW0, g0, k0, k1, hz0⟩ := box2 w (.int .i64 L.n) sv 173
  have HG0 := hid g0
  clear hz hx hok hw hlen hN6 g0 hN
  go_enter Tryz.func111, Tryz.ntmps111
  go_wp2_with (first
    | (go_at_call 126; (with_reducible refine (HA.out _ HG0.out).mono ?_); rintro e w1 ⟨rfl, hg⟩; have HG1 := hid (grew_trans HG0.out hg); have l0 := (hg.cell (p := ⟨w.heap.size, 0, none⟩) hz0).trans k0; have l1 := (hg.cell (p := ⟨w.heap.size, 1, none⟩) hz0).trans k1; clear hg)
    | (go_at_call 127; (with_reducible refine (HS.out _ HG1.out).mono ?_); rintro e w2 ⟨rfl, hg⟩; have HG2 := hid (grew_trans HG1.out hg); clear hg))
  go_ret2
  exact ⟨rfl, HG2.out⟩

set_option maxHeartbeats 2000000 in
set_option maxRecDepth 20000 in
theorem rmodulo110_any (v : Value) (l : List Int) (k : Int) (w : World) (hv : IsInts Any w v l) (hl : l.length ≤ 20) (hx : ∀ x ∈ l, 0 ≤ x ∧ x ≤ 999) (hk : 1 ≤ k ∧ k ≤ 10) :
    Calls Tryz.prog 110 #[v, .int .i64 k] w fun e w' => ∃ u, e = .returned u ∧ Seg w' w.heap.size 3 1 u l.length ((l.map (· % k)).map (.int .i64)) ∧ Grew w w' := by
  obtain ⟨a, cap, rfl, hm, hc⟩ := hv
  have HC := hid hc; have HX := hid hx
  clear hc hx
  obtain ⟨n, hnn⟩ : ∃ n, l.length = n := ⟨_, rfl⟩
  rw [hnn] at HC hm hl ⊢
  have HN := hid hnn
  clear hnn
  have hk0 : (k == 0) = false := by rw [beq_eq_false_iff_ne]; omega
  go_enter Tryz.func110, Tryz.ntmps110
  go_wp2
  go_loopg [5, 6] n (fun gk nv iv wr => ∃ (j : Nat), j ≤ n ∧ iv = .int .i64 (j : Int) ∧ Hid (gk = n - j) ∧ Hid (Grew w wr) ∧ Hid (Seg wr w.heap.size 3 1 nv j (((l.take j).map (· % k)).map (.int .i64))))
  case atStart => exact ⟨0, Nat.zero_le _, rfl, hid rfl, hid (grew_refl _), hid (Seg.nil _ _ _ _)⟩
  case round =>
    obtain ⟨j, hj, rfl, HGK, HG, HSG⟩ := hrel
    rename World => wr
    by_cases hlt : j < n
    · obtain ⟨b, off, o, rfl, hb, _, hcj⟩ := HC.out j hlt
      have hcj0 := (HG.out.cell (p := ⟨b, off + j, none⟩) (lt_of_obj hb)).trans hcj
      have hjl : j < l.length := by rw [HN.out]; exact hlt
      rw [nth_lt hjl] at hcj0
      obtain ⟨x, hx⟩ : ∃ x, l[j] = x := ⟨_, rfl⟩
      rw [hx] at hcj0
      have hxb := HX.out x (by rw [← hx]; exact List.getElem_mem hjl)
      have hmod : x.tmod k = x % k := Int.tmod_eq_emod_of_nonneg hxb.1
      have htk : ((l.take (j + 1)).map (· % k)).map (Value.int .i64) = ((l.take j).map (· % k)).map (Value.int .i64) ++ [.int .i64 (x % k)] := by
        rw [List.take_add_one, List.getElem?_eq_getElem hjl, hx]; simp
      have HTK := hid htk
      obtain ⟨na, nc, rfl, hsh⟩ := HSG.out.shape
      obtain ⟨y, hy⟩ : ∃ y, x % k = y := ⟨_, rfl⟩
      rw [hy] at hmod HTK
      clear htk hx hjl hb hcj hsh hxb hy
      go_wp2_with (at_builtin; refine wpList_append_one rfl _ _ 39 rfl w.heap.size 3 Tryz.underlying39 Tryz.info3 rfl (by decide) (.slice na j nc) j _ rfl (HSG.out.alloc _) _ _ _ rfl (one_new _ _ _) rfl (by omega) ?_ ?_; (have := HG.out.size; simp only [World.size_alloc]; omega); intro v9 w9 hown9 hgrow9 hblk9; have hg9 : Grew w w9 := (HG.out.alloc HG.out.size _).grown hgrow9 (HG.out.alloc HG.out.size _).size (fun k e => (HSG.out.own k e).1); have HG9 := hid hg9; have HS9 := hid hown9; clear hown9 hgrow9 hblk9 hg9)
      go_roundg (n - (j + 1))
      case measure => have := HGK.out; omega
      case rel => exact ⟨j + 1, by omega, by go_num, hid rfl, HG9, hid (by rw [HTK.out]; exact HS9.out)⟩
    · obtain rfl : j = n := by omega
      have hS := HSG.out
      rw [List.take_of_length_le (by rw [HN.out]; exact Nat.le_refl _)] at hS
      have HS2 := hid hS
      clear hS
      go_wp2
      go_ret
      exact ⟨_, rfl, HS2.out, HG.out⟩

set_option maxHeartbeats 4000000 in
set_option maxRecDepth 20000 in
theorem rflag109_any (w : World) : Calls Tryz.prog 109 #[] w fun e w' => ∃ u, e = .returned u ∧ Sp.IsSpec w' u flagS ∧ Grew w w' := by
  obtain ⟨V0, hV0, g0, o0, z0⟩ := block_made w #[.int .i64 0, .int .i64 0, .slice none 0 0, .slice none 0 0] 166
  obtain ⟨V1, hV1, g1, o1, z1⟩ := block_made V0 #[.int .i64 1, .int .i64 0] 3
  obtain ⟨V2, hV2, g2, o2, z2⟩ := block_made V1 #[.int .i64 1, .int .i64 1] 3
  obtain ⟨V3, hV3, g3, o3, z3⟩ := block_made V2 #[.slice (some ⟨V0.heap.size, 0, none⟩) 2 2, .slice (some ⟨V1.heap.size, 0, none⟩) 2 2] 39
  obtain ⟨V4, hV4, g4, o4, z4⟩ := block_made V3 #[.int .i64 0, .int .i64 0] 3
  obtain ⟨V5, hV5, g5, o5, z5⟩ := block_made V4 #[.int .i64 0, .int .i64 1] 3
  obtain ⟨V6, hV6, g6, o6, z6⟩ := block_made V5 #[.slice (some ⟨V3.heap.size, 0, none⟩) 2 2, .slice (some ⟨V4.heap.size, 0, none⟩) 2 2] 39
  have g16 := grew_trans g1 (grew_trans g2 (grew_trans g3 (grew_trans g4 (grew_trans g5 g6))))
  have o7 := (g16.block _ (lt_of_obj o0)).trans o0
  obtain ⟨VS, hVS, oS, kS⟩ := store4 o7 (.int .i64 2) (.int .i64 2) (.slice (some ⟨V2.heap.size, 0, none⟩) 2 2) (.slice (some ⟨V5.heap.size, 0, none⟩) 2 2)
  have gS : Grew w VS := grew_b (grew_trans g0 g16) (kS.below (grew_trans g0 g16).size (fun k _ e => by rw [e]; exact Nat.le_refl _))
  have keep : ∀ (q : Nat) (o : Obj) (V : World), Grew V V6 → V.heap[q]? = some o → w.heap.size < q → VS.heap[q]? = some o := fun q o V hg ho hq => kS.obj _ _ ((hg.block _ (lt_of_obj ho)).trans ho) (fun e => by omega)
  have p1 := keep _ _ V1 (grew_trans g2 (grew_trans g3 (grew_trans g4 (grew_trans g5 g6)))) o1 (by omega)
  have p2 := keep _ _ V2 (grew_trans g3 (grew_trans g4 (grew_trans g5 g6))) o2 (by omega)
  have p3 := keep _ _ V3 (grew_trans g4 (grew_trans g5 g6)) o3 (by omega)
  have p4 := keep _ _ V4 (grew_trans g5 g6) o4 (by omega)
  have p5 := keep _ _ V5 g6 o5 (by omega)
  have p6 := keep _ _ V6 (grew_refl _) o6 (by omega)
  have hspec : Sp.IsSpec VS (.agg #[.int .i64 2, .int .i64 2, .slice (some ⟨V2.heap.size, 0, none⟩) 2 2, .slice (some ⟨V5.heap.size, 0, none⟩) 2 2]) flagS :=
    ⟨_, _, rfl, rows2 p3 (ints2 p1) (ints2 p2), rows2 p6 (ints2 p4) (ints2 p5)⟩
  have HSP := hid hspec; have HGS := hid gS
  have t0 := cell_of_row V6 w.heap.size 0 _ _ _ o7; have t1 := cell_of_row V6 w.heap.size 1 _ _ _ o7; have t2 := cell_of_row V6 w.heap.size 2 _ _ _ o7; have t3 := cell_of_row V6 w.heap.size 3 _ _ _ o7
  have u0 := cell_of_row VS w.heap.size 0 _ _ _ oS; have u1 := cell_of_row VS w.heap.size 1 _ _ _ oS; have u2 := cell_of_row VS w.heap.size 2 _ _ _ oS; have u3 := cell_of_row VS w.heap.size 3 _ _ _ oS
  simp only [List.getElem?_toArray, List.getElem?_cons_zero, List.getElem?_cons_succ] at t0 t1 t2 t3 u0 u1 u2 u3
  have fz0 := frozen_of_row V6 w.heap.size 0 _ _ o7; have fz1 := frozen_of_row V6 w.heap.size 1 _ _ o7; have fz2 := frozen_of_row V6 w.heap.size 2 _ _ o7; have fz3 := frozen_of_row V6 w.heap.size 3 _ _ o7
  have hlt := lt_of_obj o7
  clear g0 g1 g2 g3 g4 g5 g6 o0 o1 o2 o3 o4 o5 o6 o7 z0 z1 z2 z3 z4 z5 z6 g16 oS kS gS keep p1 p2 p3 p4 p5 p6 hspec
  go_enter Tryz.func109, Tryz.ntmps109
  go_wp2
  (try simp only [Exit.inBlock, Exit.then])
  refine bodyPost_ret (v := .agg #[.int .i64 2, .int .i64 2, .slice (some ⟨V2.heap.size, 0, none⟩) 2 2, .slice (some ⟨V5.heap.size, 0, none⟩) 2 2]) ?_ rfl ?_
  · simp [results, Tryz.results109, go_sem, u0, u1, u2, u3]
  · exact ⟨_, rfl, HSP.out, HGS.out⟩

/-! ### Ask -/

theorem size_wrong {l : List Int} (h : l.length ≤ 10) : Wv.wrong lt4 [l.map (· % 4), []] = 0 := by rw [Wv.wrong_nil]; exact wrong4 h

set_option maxHeartbeats 4000000 in
set_option maxRecDepth 20000 in
theorem rask82_any (bb bm : Nat) (b : Bk) (G : Nat → Prop) (s : ByteArray) (w : World) (h : IsRBook w bb bm b G) (hb : BkOk b) :
    Calls Tryz.prog 82 #[ptr bb, .string s] w fun e w' => e = .returned (.tuple #[.string ⟨(askA b s.data.toList).1.toArray⟩, .int .i64 (askA b s.data.toList).2]) ∧ Grew w w' := by
  obtain ⟨u, hu⟩ := h
  obtain ⟨ua, uc, rfl, hum, -⟩ := id hu.list
  have hl20 := hb.1
  have hlx : ∀ x ∈ b.list, 0 ≤ x ∧ x ≤ 999 := fun x hx => isNum_iff.1 (hb.2 x hx)
  have c1 := hu.c1
  have hlt := lt_of_obj hu.obj
  have HU := hid hu
  have f1 := ask_eq s [115, 105, 122, 101]
  have f2 := ask_eq s [115, 97, 121, 115]
  have f3 := ask_eq s [99, 111, 117, 110, 116]
  have HMD := hid (fun (k : Int) (hk : 1 ≤ k ∧ k ≤ 10) (W : World) (h : Grew w W) => rmodulo110_any _ b.list k W ((hu.grew h).list.any) hl20 hlx hk)
  unfold askA
  obtain ⟨sl, hsl⟩ : ∃ l, s.data.toList = l := ⟨_, rfl⟩
  rw [hsl] at f1 f2 f3 ⊢
  have HC1 := hid (fun (W : World) (h : Grew w W) => (hu.grew h).c1)
  obtain ⟨l, hl⟩ : ∃ l, b.list = l := ⟨_, rfl⟩
  rw [hl] at c1 HC1 HMD hl20 hum hlx ⊢
  obtain ⟨n, hn⟩ : ∃ n, l.length = n := ⟨_, rfl⟩
  have HN := hid hn
  have HL20 := hid hl20
  rw [hn] at c1 HC1 HMD hl20 hum ⊢
  clear hsl hl hn hu hlx hb
  by_cases e1 : sl = [115, 105, 122, 101]
  · rw [decide_eq_true e1] at f1
    rw [if_pos e1]
    rw [decide_eq_false (by rw [e1]; decide)] at f2
    rw [decide_eq_false (by rw [e1]; decide)] at f3
    clear e1
    unfold sizeA
    by_cases h10 : 10 < n
    · rw [if_pos (by rw [HN.out]; exact h10)]
      have d10 : decide ((10 : Int) < (n : Int)) = true := by rw [decide_eq_true_eq]; omega
      have d10' : decide (10 < n) = true := by rw [decide_eq_true_eq]; omega
      clear h10
      go_enter Tryz.func82, Tryz.ntmps82
      go_wp2
      go_ret2
      exact ⟨rfl, grew_refl _⟩
    · rw [if_neg (by rw [HN.out]; exact h10)]
      have d10 : decide ((10 : Int) < (n : Int)) = false := by rw [decide_eq_false_iff_not]; omega
      have d10' : decide (10 < n) = false := by rw [decide_eq_false_iff_not]; omega
      have hle := sizeV_le (l := l) (by rw [HN.out]; omega)
      obtain ⟨W1, hW1, g1, o1, z1⟩ := block_made w #[.int .i64 0, .int .i64 1, .int .i64 2, .int .i64 3] 170
      have HSZ := hid (fun (W : World) (v : Value) (hu : Kw.IsLt W (.agg #[.int .i64 4, .slice (some ⟨w.heap.size, 0, none⟩) 2 2]) lt4) (hx : Kw.IsWd W v (l.map (· % 4))) => (by
        have := rsize111_any _ lt4 v (l.map (· % 4)) 4 W rfl (by decide) (mod4_letters l) (by rw [List.length_map, HN.out]; omega) (size_wrong (by rw [HN.out]; omega)) hu hx
        exact this : Calls Tryz.prog 111 #[.agg #[.int .i64 4, .slice (some ⟨w.heap.size, 0, none⟩) 2 2], v] W fun e w' => e = .returned (.tuple #[.int .i64 (sizeV l : Int), .int .i64 0]) ∧ Grew W w'))
      obtain ⟨sz, hsv⟩ : ∃ s, sizeV l = s := ⟨_, rfl⟩
      rw [hsv] at HSZ hle ⊢
      rw [show Lib.itoa (sz : Int) = Lib.decDigits sz from itoa_nat sz]
      have HDE := hid (fun W => decimal45_any sz sz (Nat.le_refl _) (by omega) W)
      have HG1 := hid g1; have HO1 := hid o1
      have q1 := HC1.out W1 g1
      clear h10 hle hsv g1 o1 z1
      go_enter Tryz.func82, Tryz.ntmps82
      go_wp2_with (first
        | (go_at_call 110; (with_reducible refine (HMD.out 4 (by decide) _ HG1.out).mono ?_); rintro e w2 ⟨u, rfl, hs, hg⟩; have HG2 := hid (grew_trans HG1.out hg); have HL2 := hid (lt4_at ((hg.block _ (lt_of_obj HO1.out)).trans HO1.out)); have HW2 := hid (Kw.IsWd.of_seg hs); clear hs hg)
        | (go_at_call 111; (with_reducible refine (HSZ.out _ _ HL2.out HW2.out).mono ?_); rintro e w3 ⟨rfl, hg⟩; have HG3 := hid (grew_trans HG2.out hg); clear hg)
        | (go_at_call 45; (with_reducible refine (HDE.out _).mono ?_); rintro e w4 ⟨rfl, hg⟩; have HG4 := hid (grew_trans HG3.out hg); clear hg))
      go_ret2
      exact ⟨rfl, HG4.out⟩
  · rw [decide_eq_false e1] at f1
    rw [if_neg e1]
    by_cases e2 : sl = [115, 97, 121, 115]
    · rw [decide_eq_true e2] at f2
      rw [if_pos e2]
      rw [decide_eq_false (by rw [e2]; decide)] at f3
      unfold saysA
      have HFL := hid (fun W => rflag109_any W)
      have HRUN := hid (fun (W : World) (f u : Value) (hs : Sp.IsSpec W f flagS) (hx : IsInts Any W u (l.map (· % 2))) => (by
        have := Ks.refRunOf_any flagS 0 (l.map (· % 2)) _ u W hs hx
        rw [flag_runs HL20.out] at this; exact this))
      have HJ := hid (fun (W : World) (u : Value) (hu : IsInts Any W u (saysL l)) => rjoined96_any u (saysL l) 32 W hu (saysL_len HL20.out) (saysL_bits l))
      have qd := HC1.out w.drew (grew_drew (grew_refl w))
      clear e1 e2
      go_enter Tryz.func82, Tryz.ntmps82
      go_wp2
      go_region_law (first
        | (go_simp; go_at_call 109; (with_reducible refine (HFL.out _).mono ?_); rintro e w1 ⟨f, rfl, hs, hg⟩; have hg2 := grew_trans (grew_drew (grew_refl w)) hg; have q1 := HC1.out _ hg2; have HSP1 := hid hs; have HG1 := hid hg2; clear hs hg hg2)
        | (go_simp; go_at_call 110; (with_reducible refine (HMD.out 2 (by decide) _ HG1.out).mono ?_); rintro e w2 ⟨u, rfl, hs, hg⟩; have HG2 := hid (grew_trans HG1.out hg); have HSP2 := hid (HSP1.out.grew hg); have HI2 := hid hs.isInts.any; clear hs hg)
        | (go_simp; go_at_call 108; (with_reducible refine (HRUN.out _ _ _ HSP2.out HI2.out).mono ?_); rintro e w3 ⟨u3, rfl, hi3, hg3⟩; obtain ⟨ua3, uc3, rfl, _⟩ := id hi3; have HI3 := hid (show IsInts Any w3 _ (saysL l) from hi3); have HG3 := hid (grew_trans HG2.out hg3); clear hi3 hg3))
      all_goals (
        go_wp2_with (go_at_call 96; (with_reducible refine (HJ.out _ _ HI3.out).mono ?_); rintro e w4 ⟨rfl, hg⟩; have HG4 := hid (grew_trans HG3.out hg); clear hg)
        go_ret2
        exact ⟨rfl, HG4.out⟩)
    · rw [decide_eq_false e2] at f2
      rw [if_neg e2]
      by_cases e3 : sl = [99, 111, 117, 110, 116]
      · rw [decide_eq_true e3] at f3
        rw [if_pos e3]
        rw [show Lib.itoa (n : Int) = Lib.decDigits n from itoa_nat n]
        have HDE := hid (fun W => decimal45_any n n (Nat.le_refl _) (by omega) W)
        clear e1 e2 e3
        go_enter Tryz.func82, Tryz.ntmps82
        go_wp2_with (go_at_call 45; (with_reducible refine (HDE.out _).mono ?_); rintro e w2 ⟨rfl, hg⟩; have HG := hid hg; clear hg)
        go_ret2
        exact ⟨rfl, HG.out⟩
      · rw [decide_eq_false e3] at f3
        rw [if_neg e3]
        clear e1 e2 e3
        go_enter Tryz.func82, Tryz.ntmps82
        go_wp2
        go_ret2
        exact ⟨rfl, grew_refl _⟩

end Go.Proofs.YtmohnddglmolgaaGreatDoor
