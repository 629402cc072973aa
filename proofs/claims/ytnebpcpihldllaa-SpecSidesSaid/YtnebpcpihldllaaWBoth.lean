/- Walks: two specifications side by side, of the program's own text. -/
import Derived.Test.YtnebpcpihldllaaBoth
import Derived.Test.YtnebpcpihldllaaWConcat
import Derived.Test.YtnebpcpihldllaaWOpen
import Derived.IntWalk
namespace Go.Proofs.Ytnebpcpihldllaa
open Go.RowKit Go.Lin

set_option maxHeartbeats 40000000 in
set_option maxRecDepth 100000 in
theorem both_ok (s t : RSpec) (n p m q : Nat) (hz0 : Sized s t n p m q) (sv tv : Value) (w : World) (hs : IsSpec w sv s) (ht : IsSpec w tv t) (hvs : validM s = true) (hvt : validM t = true) (hnm : n * m ≤ 8) (hpq : p + q ≤ 4) :
    Calls Try.prog 39 #[sv, tv] w fun e w' => ∃ u, e = .returned (.tuple #[u, .int .i64 0]) ∧ IsSpec w' u (bothM s t) ∧ Grew w w' := by
  have HV1 := hid (fun (y : World) (hy : Grew w y) => valid_any s sv y (hs.grew hy))
  have HV2 := hid (fun (y : World) (hy : Grew w y) => valid_any t tv y (ht.grew hy))
  rw [hvs] at HV1
  rw [hvt] at HV2
  have HSZ := hid hz0
  have n1 := hz0.n1; have n8 := hz0.n8; have m1 := hz0.m1; have m8 := hz0.m8; have p4 := hz0.p4; have q4 := hz0.q4
  obtain ⟨b1, off1, c1, b2, off2, c2, rfl, t1, t2⟩ := tabs_of hs hz0.st hz0.ops hvs
  obtain ⟨b3, off3, c3, b4, off4, c4, rfl, t3, t4⟩ := tabs_of ht hz0.st' hz0.ops' hvt
  clear hs ht hvs hvt hz0
  obtain ⟨Wa, hWa, ga, k0, k1, k2, k3, hz⟩ := box4 w (.int .i64 (n : Int)) (.int .i64 (p : Int)) (.slice (some ⟨b1, off1, none⟩) n c1) (.slice (some ⟨b2, off2, none⟩) n c2) 24
  obtain ⟨W1, hW1, gb, l0, l1, l2, l3, hz1⟩ := box4 Wa (.int .i64 (m : Int)) (.int .i64 (q : Int)) (.slice (some ⟨b3, off3, none⟩) m c3) (.slice (some ⟨b4, off4, none⟩) m c4) 24
  have hobj2 := heap_alloc_new W1 (.cells #[.int .i64 0, .int .i64 0, .slice none 0 0, .slice none 0 0] 24)
  obtain ⟨W2, hW2, g2, q0, q1, q2, q3, hz2, qf⟩ := boxf4 W1 (.int .i64 0) (.int .i64 0) (.slice none 0 0) (.slice none 0 0) 24
  rw [hW2] at hobj2
  have HOBJ := hid hobj2; clear hobj2
  have g12 := grew_trans gb g2
  have g02 := grew_trans ga g12
  have a0 := (g12.cell (p := ⟨w.heap.size, 0, none⟩) hz).trans k0
  have a1 := (g12.cell (p := ⟨w.heap.size, 1, none⟩) hz).trans k1
  have a2 := (g12.cell (p := ⟨w.heap.size, 2, none⟩) hz).trans k2
  have a3 := (g12.cell (p := ⟨w.heap.size, 3, none⟩) hz).trans k3
  have e0 := (g2.cell (p := ⟨Wa.heap.size, 0, none⟩) hz1).trans l0
  have e1 := (g2.cell (p := ⟨Wa.heap.size, 1, none⟩) hz1).trans l1
  have e2 := (g2.cell (p := ⟨Wa.heap.size, 2, none⟩) hz1).trans l2
  have e3 := (g2.cell (p := ⟨Wa.heap.size, 3, none⟩) hz1).trans l3
  clear k0 k1 k2 k3 l0 l1 l2 l3 q0 q1 q2 q3 qf
  have T1 := hid (t1.grew g02); have T2 := hid (t2.grew g02)
  have T3 := hid (t3.grew g02); have T4 := hid (t4.grew g02)
  clear t1 t2 t3 t4
  have za : w.heap.size < W2.heap.size := Nat.lt_of_lt_of_le hz g12.size
  have zb : Wa.heap.size < W2.heap.size := Nat.lt_of_lt_of_le hz1 g2.size
  obtain ⟨N, hN⟩ : ∃ N, n * m = N := ⟨_, rfl⟩
  rw [hN] at hnm
  have hwr : IntKind.i64.wrap ((n : Int) * (m : Int)) = (N : Int) := by rw [← Int.natCast_mul, hN]; exact IntWalk.i64_in _ (by omega)
  have HN := hid hN; clear hN
  have hpq2 : decide ((4 : Int) < (p : Int) + (q : Int)) = false := decide_eq_false (by omega)
  have hg := grew_refl W2
  go_enter Try.func39, Try.ntmps39
  go_wp2_with (first
    | (go_at_call 32; with_reducible refine (HV1.out _ (grew_trans g02 hg)).mono ?_; rintro e w1 ⟨rfl, hx⟩; replace hg := grew_trans hg hx; have hc := (bcell hg).1; have hza := Nat.lt_of_lt_of_le za hg.size; have hzb := Nat.lt_of_lt_of_le zb hg.size)
    | (go_at_call 32; with_reducible refine (HV2.out _ (grew_trans g02 hg)).mono ?_; rintro e w2 ⟨rfl, hx2⟩; replace hg := grew_trans hg hx2; have hc := (bcell hg).1; have hza := Nat.lt_of_lt_of_le za hg.size; have hzb := Nat.lt_of_lt_of_le zb hg.size))
  have hbl0 := Built.start (W := w2) (st := (N : Int)) (ops := (p : Int) + (q : Int))
  obtain ⟨W4, hW4⟩ : ∃ W4, w2.alloc (.cells #[.int .i64 (N : Int), .int .i64 ((p : Int) + (q : Int)), .slice none 0 0, .slice none 0 0] 24) = W4 := ⟨_, rfl⟩
  rw [hW4] at hbl0 ⊢
  have HB0 := hid hbl0; clear hbl0
  clear hW1 hWa hW2 hW4 hc hza hzb hwr hpq2 hpq
  have HG2 := hid hg
  go_loopg [53] n (fun g iv wr => ∃ (i : Nat) (nv yv : Value), i ≤ n ∧ iv = .int .i64 (i : Int) ∧ Hid (g = n - i) ∧ Hid (Built w2 wr N ((p : Int) + (q : Int)) nv yv ((List.range (i * m)).map (bothNr s t m)) ((List.range (i * m)).map (bothYr s t m))))
  case atStart => exact ⟨0, _, _, Nat.zero_le _, rfl, hid rfl, by rw [Nat.zero_mul]; exact HB0⟩
  case round =>
    clear HB0
    obtain ⟨i, nv, yv, hi, rfl, HG, HB⟩ := hrel
    have gB := grew_trans HG2.out HB.out.grew
    by_cases hin : i < n
    · have hc := (bcell gB).1
      have hza := Nat.lt_of_lt_of_le za gB.size
      have hzb := Nat.lt_of_lt_of_le zb gB.size
      go_wp2
      obtain ⟨wo, rfl⟩ : ∃ wo : World, wo = wr := ⟨_, rfl⟩
      clear hc hza hzb gB
      go_loopg [58] m (fun g kv wr => ∃ (k : Nat) (nv yv : Value), k ≤ m ∧ kv = .int .i64 (k : Int) ∧ Hid (g = m - k) ∧ Hid (Built w2 wr N ((p : Int) + (q : Int)) nv yv ((List.range (i * m + k)).map (bothNr s t m)) ((List.range (i * m + k)).map (bothYr s t m))))
      case atStart => exact ⟨0, _, _, Nat.zero_le _, rfl, hid rfl, by rw [Nat.add_zero]; exact HB⟩
      case round =>
        clear HB
        obtain ⟨k, nv, yv, hk, rfl, HGk, HB⟩ := hrel
        have gB := grew_trans HG2.out HB.out.grew
        by_cases hkm : k < m
        · have hc := (bcell gB).1
          have hza := Nat.lt_of_lt_of_le za gB.size
          have hzb := Nat.lt_of_lt_of_le zb gB.size
          obtain ⟨br, offr, cr, hr, hrb, hrc⟩ := T1.out.2 i hin
          have hb1 := T1.out.1
          have HRC := hid hrc; clear hrc
          go_wp2
          obtain ⟨wy, rfl⟩ : ∃ wy : World, wy = wr := ⟨_, rfl⟩
          clear hc hza hzb hr hb1
          go_loopg [9, 67] p (fun g u jv wi => ∃ j : Nat, j ≤ p ∧ jv = .int .i64 (j : Int) ∧ Hid (g = p - j) ∧ Grew wy wi ∧ Seg wi wy.heap.size 3 1 u j ((((nthL s.next i).take j).map (fun x => x * (m : Int) + (k : Int))).map (.int .i64)))
          case atStart => exact ⟨0, Nat.zero_le _, rfl, hid rfl, grew_refl _, by simpa using Seg.nil _ _ _ _⟩
          case round =>
            obtain ⟨j, hj, rfl, HGj, hgj, hseg⟩ := hrel
            obtain ⟨sa, sc, rfl, _⟩ := hseg.shape
            have gI := grew_trans gB hgj
            have hsz := hgj.size
            by_cases hjp : j < p
            · have hc := (bcell gI).1
              have hcj := HRC.out j hjp
              have hrb2 := Nat.lt_of_lt_of_le hrb gI.size
              have hzb := Nat.lt_of_lt_of_le zb gI.size
              obtain ⟨hl1, hx⟩ := HSZ.out.next i hin
              obtain ⟨hx0, hx1⟩ := hx j hjp
              have htk : (nthL s.next i).take (j + 1) = (nthL s.next i).take j ++ [nth (nthL s.next i) j] := take_succ_nth (by omega)
              obtain ⟨x, hxe⟩ : ∃ x, nth (nthL s.next i) j = x := ⟨_, rfl⟩
              rw [hxe] at htk hcj hx0 hx1
              have HTK := hid htk
              have hxm : 0 ≤ x * (m : Int) ∧ x * (m : Int) ≤ 64 := ⟨Int.mul_nonneg hx0 (by omega), by
                have h1 : x * (m : Int) ≤ 8 * (m : Int) := Int.mul_le_mul_of_nonneg_right (by omega) (by omega)
                omega⟩
              obtain ⟨hxm0, hxm1⟩ := hxm
              have hwx : IntKind.i64.wrap (x * (m : Int)) = x * (m : Int) := IntWalk.i64_in _ (by omega)
              clear htk hxe hl1 hx
              go_wp2_with (at_builtin; refine wpList_append_one rfl _ _ 34 rfl wy.heap.size 3 Try.underlying34 Try.info3 rfl (by decide) _ (j) _ rfl (hseg.alloc _) _ _ _ rfl (one_new _ _ _) rfl (by omega) ?_ ?_; (simp only [World.size_alloc]; omega); intro v1 w1 hown1 hgrow1 hblk1; have hg1 := (hgj.alloc hgj.size _).grown hgrow1 (hgj.alloc hgj.size _).size (fun k e => (hseg.own k e).1); have hc1 := (bcell hg1).1; clear hgrow1)
              go_roundg (p - (j + 1))
              case measure => have := HGj.out; omega
              case rel =>
                refine ⟨j + 1, by omega, by go_num, hid rfl, hg1, ?_⟩
                rw [HTK.out, List.map_append, List.map_append]; exact hown1
            · obtain rfl : p = j := by omega
              have hc := (bcell gI).1
              have hza := Nat.lt_of_lt_of_le za gI.size
              have hzb := Nat.lt_of_lt_of_le zb gI.size
              obtain ⟨bt, offt, ct, hr, htb, hrc⟩ := T3.out.2 k hkm
              have hb3 := T3.out.1
              have HRC2 := hid hrc; clear hrc
              have hl1 := (HSZ.out.next i hin).1
              rw [List.take_of_length_le (by omega)] at hseg
              have HSEG := hid hseg; clear hseg
              have hb3b := Nat.lt_of_lt_of_le hb3 gI.size
              go_wp2
              obtain ⟨wz, rfl⟩ : ∃ wz : World, wz = wr := ⟨_, rfl⟩
              clear hc hza hzb hr hb3 hb3b hl1
              go_loopg [9, 87] q (fun g u jv wi => ∃ j' : Nat, j' ≤ q ∧ jv = .int .i64 (j' : Int) ∧ Hid (g = q - j') ∧ Grew wy wi ∧ Seg wi wy.heap.size 3 1 u (p + j') (((nthL s.next i).map (fun x => x * (m : Int) + (k : Int)) ++ ((nthL t.next k).take j').map (fun x => (i : Int) * (m : Int) + x)).map (.int .i64)))
              case atStart => exact ⟨0, Nat.zero_le _, rfl, hid rfl, hgj, by simpa using HSEG.out⟩
              case round =>
                clear HSEG
                obtain ⟨j', hj', rfl, HGj', hgj', hseg⟩ := hrel
                obtain ⟨sa, sc, rfl, _⟩ := hseg.shape
                have gI2 := grew_trans gB hgj'
                have hsz := hgj'.size
                by_cases hjq : j' < q
                · have hc := (bcell gI2).1
                  have hcj := HRC2.out j' hjq
                  have hrb2 := Nat.lt_of_lt_of_le htb gI2.size
                  have hzb := Nat.lt_of_lt_of_le zb gI2.size
                  obtain ⟨hl1, hx⟩ := HSZ.out.next' k hkm
                  obtain ⟨hx0, hx1⟩ := hx j' hjq
                  have htk : (nthL t.next k).take (j' + 1) = (nthL t.next k).take j' ++ [nth (nthL t.next k) j'] := take_succ_nth (by omega)
                  obtain ⟨x, hxe⟩ : ∃ x, nth (nthL t.next k) j' = x := ⟨_, rfl⟩
                  rw [hxe] at htk hcj hx0 hx1
                  have HTK := hid htk
                  have hxm : 0 ≤ (i : Int) * (m : Int) ∧ (i : Int) * (m : Int) ≤ 64 := ⟨Int.mul_nonneg (by omega) (by omega), by
                    have h1 : (i : Int) * (m : Int) ≤ 8 * (m : Int) := Int.mul_le_mul_of_nonneg_right (by omega) (by omega)
                    omega⟩
                  obtain ⟨hxm0, hxm1⟩ := hxm
                  have hwx : IntKind.i64.wrap ((i : Int) * (m : Int)) = (i : Int) * (m : Int) := IntWalk.i64_in _ (by omega)
                  have hjj : p + j' < 1000000000 := by omega
                  clear htk hxe hl1 hx
                  go_wp2_with (at_builtin; refine wpList_append_one rfl _ _ 34 rfl wy.heap.size 3 Try.underlying34 Try.info3 rfl (by decide) _ ((p + j')) _ rfl (hseg.alloc _) _ _ _ rfl (one_new _ _ _) rfl (by omega) ?_ ?_; (simp only [World.size_alloc]; omega); intro v1 w1 hown1 hgrow1 hblk1; have hg1 := (hgj'.alloc hgj'.size _).grown hgrow1 (hgj'.alloc hgj'.size _).size (fun k e => (hseg.own k e).1); have hc1 := (bcell hg1).1; clear hgrow1)
                  go_roundg (q - (j' + 1))
                  case measure => have := HGj'.out; omega
                  case rel =>
                    refine ⟨j' + 1, by omega, by go_num, hid rfl, hg1, ?_⟩
                    rw [HTK.out, List.map_append (l₁ := (nthL t.next k).take j'), ← List.append_assoc, List.map_append (l₂ := List.map _ [x])]
                    exact hown1
                · obtain rfl : q = j' := by omega
                  obtain ⟨cn, hcn⟩ : ∃ cn, i * m + k = cn := ⟨_, rfl⟩
                  have hcn8 : cn < 1000 := by
                    have h1 : i * m ≤ 8 * m := Nat.mul_le_mul_right _ (by omega)
                    omega
                  have hB0 := HB.out
                  rw [hcn] at hB0
                  have hN : ((List.range cn).map (bothNr s t m)).length = cn := by rw [List.length_map, List.length_range]
                  have hY : ((List.range cn).map (bothYr s t m)).length = cn := by rw [List.length_map, List.length_range]
                  have HN2 := hid hN; have HY := hid hY; clear hN hY
                  have hBi := hB0.grown hgj'
                  clear hB0
                  obtain ⟨ta, tc, htv⟩ := hBi.next.shape
                  obtain ⟨ya, yc, hyv⟩ := hBi.says.shape
                  rw [List.length_map, List.length_range] at htv hyv
                  subst htv; subst hyv
                  obtain ⟨p0, p1, p2, p3, pf, hzb⟩ := hBi.cells
                  obtain ⟨Vs, hVs, hV⟩ := hBi.next
                  rw [List.length_map, List.length_range] at hVs hV
                  have HV1' := hid hV; clear hV
                  have HBI := hid hBi; clear hBi
                  have hk9 : cn < 1000000000 := by omega
                  obtain ⟨wi, rfl⟩ : ∃ wi : World, wi = wr := ⟨_, rfl⟩
                  rw [List.take_of_length_le (by have := (HSZ.out.next' k hkm).1; omega)] at hseg
                  have HCN := hid hcn; clear hcn
                  go_wp2_with (at_builtin; refine wpList_append_one rfl _ _ 22 rfl (w2.heap.size + 1) 34 Try.underlying22 Try.info34 rfl (by decide) _ cn _ rfl (hVs.alloc _) _ _ _ rfl (one_new _ _ _) rfl hk9 ?_ ?_; (simp only [World.size_alloc]; omega); intro v1 w5 hown1 hgrow1 hblk1; obtain ⟨a1, c1', rfl, _⟩ := hown1.shape; obtain ⟨-, hobj1, -⟩ := HBI.out.after (T := (List.range cn).map (bothNr s t m)) (v' := .slice a1 (cn + 1) c1') 2 (grew_alloc (grew_refl wi) _) (by rw [HN2.out]; exact hVs) hgrow1; obtain ⟨y0, y1, y2, y3, yf, hzy⟩ := cells4 hobj1; obtain ⟨w6, hw6⟩ : ∃ w6, w5.setCell ⟨w2.heap.size, 2, none⟩ (.slice a1 (cn + 1) c1') = w6 := ⟨_, rfl⟩)
                  have hrowk : IsInts (IntObj 3) (wi.alloc (.cells #[Value.slice sa (p + q) sc] 34)) (.slice sa (p + q) sc) (bothNr s t m cn) := by
                    have h := (Reads.mono hseg.isInts (S' := IntObj 3) (fun k o ⟨_, cur, ho⟩ => ⟨cur, _, ho⟩)).grew (grew_alloc (grew_refl wi) (.cells #[Value.slice sa (p + q) sc] 34))
                    rw [← HCN.out, bothNr_at s t hkm]
                    exact h
                  have hB6 := HBI.out.next_snoc (v' := .slice a1 (cn + 1) c1') (Vs := Vs) (row := bothNr s t m cn) (grew_alloc (grew_refl wi) _) (by rw [HN2.out]; exact hVs) (by rw [HN2.out]; exact HV1'.out) (by rw [HN2.out]; exact hown1) hgrow1
                    (hblk1.imp id (fun h => ⟨_, h, by simp⟩)) hrowk
                  rw [hw6, ← range_snoc] at hB6
                  obtain ⟨f0, f1, f2, f3, ff, hz6⟩ := hB6.cells
                  have g36 := hB6.grew
                  obtain ⟨Vs2, hVs2, hV2⟩ := hB6.says
                  rw [HY.out] at hVs2 hV2
                  have HV2' := hid hV2; have HB6 := hid hB6
                  clear hw6 hV2 hB6 hrowk y0 y1 y2 y3 yf hzy hobj1 hgrow1 hblk1 hown1 hVs HV1' p0 p1 p2 p3 pf hzb hseg HBI gI gI2 gB hsz w5
                  have hgd : Grew W2 w6.drew := grew_drew (grew_trans HG2.out g36)
                  obtain ⟨bs, offs, cs, hs2, hsb, hsc⟩ := T2.out.2 i hin
                  obtain ⟨bu, offu, cu, hs4, hub, huc⟩ := T4.out.2 k hkm
                  have hb2 := T2.out.1
                  have hb4 := T4.out.1
                  obtain ⟨W8, hW8, g8, x0, x1, x2⟩ := box2 w6.drew (.slice (some ⟨bs, offs, none⟩) p cs) (.slice (some ⟨bu, offu, none⟩) q cu) 34
                  have hl1 := HSZ.out.says i hin
                  have hl2 := HSZ.out.says' k hkm
                  have r1 : IsInts Any W2 (.slice (some ⟨bs, offs, none⟩) p cs) (nthL s.says i) := ⟨_, _, by rw [hl1], by omega, fun j hj => ⟨bs, offs, _, rfl, Array.getElem?_eq_getElem hsb, trivial, hsc j (by omega)⟩⟩
                  have r2 : IsInts Any W2 (.slice (some ⟨bu, offu, none⟩) q cu) (nthL t.says k) := ⟨_, _, by rw [hl2], by omega, fun j hj => ⟨bu, offu, _, rfl, Array.getElem?_eq_getElem hub, trivial, huc j (by omega)⟩⟩
                  have hcc := concat_two _ p q _ _ _ _ W8 x0 x1 (r1.grew (grew_trans hgd g8)) (r2.grew (grew_trans hgd g8)) hl1 hl2 HSZ.out.p1 (by omega) HSZ.out.q1 (by omega)
                  have HCC := hid hcc
                  clear hcc r1 r2 hsc huc hl1 hl2 x0 x1 x2
                  have fl1 := (hgd.cell (p := ⟨w.heap.size, 3, none⟩) za).trans a3
                  have fl2 := (hgd.cell (p := ⟨Wa.heap.size, 3, none⟩) zb).trans e3
                  have fl3 := (hgd.cell (p := ⟨b2, off2 + i, none⟩) hb2).trans hs2
                  have fl4 := (hgd.cell (p := ⟨b4, off4 + k, none⟩) hb4).trans hs4
                  have z1 := Nat.lt_of_lt_of_le za hgd.size
                  have z2 := Nat.lt_of_lt_of_le zb hgd.size
                  have z3 := Nat.lt_of_lt_of_le hb2 hgd.size
                  have z4 := Nat.lt_of_lt_of_le hb4 hgd.size
                  have hz6d : w2.heap.size < w6.drew.heap.size := hz6
                  have fw3 := (g8.cell (p := ⟨w2.heap.size, 3, none⟩) hz6d).trans f3
                  have z5 := Nat.lt_of_lt_of_le hz6d g8.size
                  have i0 : (0 : Int) ≤ (i : Int) := by omega
                  have i1 : (i : Int) < (n : Int) := by omega
                  have k0 : (0 : Int) ≤ (k : Int) := by omega
                  have k1 : (k : Int) < (m : Int) := by omega
                  have g68 : Grew w6 W8 := grew_trans (grew_drew (grew_refl w6)) g8
                  go_region_law (first
                      | (refine step_append_one (by rfl) _ _ 22 (by rfl) (w2.heap.size + 1) 34 Try.underlying22 Try.info34 rfl (by decide) _ cn _ (by rfl) ((hVs2.grew hg67).alloc _) w7.heap.size _ _ (by rfl) (one_new _ _ _) rfl (by omega) (by simp; omega) ?_; intro v8 w8 hown8 hgrow8 hblk8; obtain ⟨a8, c8, rfl, _⟩ := hown8.shape; obtain ⟨-, hobj8, hG8⟩ := HB7.out.after (T := (List.range cn).map (bothYr s t m)) (v' := .slice a8 (cn + 1) c8) 3 (grew_alloc (grew_refl w7) _) (by rw [HY.out]; exact hVs2.grew hg67) hgrow8; obtain ⟨y0, y1, y2, y3, yf, hzy⟩ := cells4 hobj8)
                      | (go_simp; go_at_call 85; refine (show Calls _ _ _ _ _ from HCC.out).mono ?_; rintro e w7 ⟨cv, rfl, hseg7, hg7⟩; obtain ⟨a7, c7, rfl, _⟩ := hseg7.shape; have hg67 : Grew w6 w7 := grew_trans g68 hg7; have hG7 := grew_trans g36 hg67; have hB7 := HB6.out.grown hg67; obtain ⟨e0, e1, e2, e3, ef, ez7⟩ := hB7.cells; have HB7 := hid hB7; clear hB7))
                  all_goals
                    have hrow8 : IsInts (IntObj 3) (w7.alloc (.cells #[.slice a7 (p + q) c7] 34)) (.slice a7 (p + q) c7) (bothYr s t m cn) := by
                      rw [← HCN.out, bothYr_at s t hkm]
                      exact (Reads.mono hseg7.isInts (S' := IntObj 3) (fun k o ⟨_, cur, ho⟩ => ⟨cur, _, ho⟩)).grew (grew_alloc (grew_refl w7) _)
                    have hB9 := HB7.out.says_snoc (v' := .slice a8 (cn + 1) c8) (Vs := Vs2) (row := bothYr s t m cn) (grew_alloc (grew_refl w7) _) (by rw [HY.out]; exact hVs2.grew hg67) (by rw [HY.out]; exact fun i hi => let ⟨u, h1, h2⟩ := HV2'.out i hi; ⟨u, h1, h2.grew hg67⟩)
                      (by rw [HY.out]; exact hown8) hgrow8 (hblk8.imp id (fun h => ⟨_, h, by simp⟩)) hrow8
                    rw [← range_snoc] at hB9
                    have HB9 := hid hB9
                    clear hB9 hrow8 hgrow8 hblk8 hown8 hseg7
                    go_wp2
                    go_roundg (m - (k + 1))
                    case measure => have := HGk.out; omega
                    case rel => exact ⟨k + 1, _, _, by omega, by go_num, hid rfl, by rw [← Nat.add_assoc, HCN.out]; exact HB9⟩
        · obtain rfl : m = k := by omega
          go_wp2
          go_roundg (n - (i + 1))
          case measure => have := HG.out; omega
          case rel => exact ⟨i + 1, _, _, by omega, by go_num, hid rfl, by rw [Nat.add_mul, Nat.one_mul]; exact HB⟩
    · obtain rfl : n = i := by omega
      have hB := HB.out
      obtain ⟨ta, tc, htv⟩ := hB.next.shape
      obtain ⟨ua, uc, huv⟩ := hB.says.shape
      rw [List.length_map, List.length_range, HN.out] at htv huv
      subst htv; subst huv
      obtain ⟨p0, p1, p2, p3, pf, hzb⟩ := hB.cells
      have hzw : W1.heap.size < wr.heap.size := Nat.lt_of_lt_of_le hz2 gB.size
      have hobj := (gB.block _ hz2).trans HOBJ.out
      obtain ⟨y0, y1, y2, y3, yf, hzy⟩ := cells4 hobj
      have HOB := hid hobj
      clear hobj hB
      go_wp2
      have hset := fun w' => set4 (w' := w') (c := #[.int .i64 0, .int .i64 0, .slice none 0 0, .slice none 0 0]) rfl (.int .i64 (N : Int)) (.int .i64 ((p : Int) + (q : Int))) (.slice ta N tc) (.slice ua N uc) HOB.out
      have hkp := fun w' => keeps_set4 (w' := w') (.int .i64 (N : Int)) (.int .i64 ((p : Int) + (q : Int))) (.slice ta N tc) (.slice ua N uc) HOB.out
      have hgr : Grew w ((((wr.setCell ⟨W1.heap.size, 0, none⟩ (.int .i64 (N : Int))).setCell ⟨W1.heap.size, 1, none⟩ (.int .i64 ((p : Int) + (q : Int)))).setCell ⟨W1.heap.size, 2, none⟩ (.slice ta N tc)).setCell ⟨W1.heap.size, 3, none⟩ (.slice ua N uc)) := by
        have h := grew_trans g02 gB
        have hb : w.heap.size ≤ W1.heap.size := Nat.le_trans ga.size gb.size
        repeat' (first | assumption | refine Below.setCell ?_ (by (try simp); omega) _)
      generalize hw8 : (((wr.setCell ⟨W1.heap.size, 0, none⟩ (.int .i64 (N : Int))).setCell ⟨W1.heap.size, 1, none⟩ (.int .i64 ((p : Int) + (q : Int)))).setCell ⟨W1.heap.size, 2, none⟩ (.slice ta N tc)).setCell ⟨W1.heap.size, 3, none⟩ (.slice ua N uc) = w8 at hgr ⊢
      obtain ⟨hobj8, hsz8⟩ := hset w8 hw8
      have hkp8 := hkp w8 hw8
      obtain ⟨d0, d1, d2, d3, -, hd⟩ := cells4 hobj8
      clear hset hkp
      refine bodyPost_ret (v := .tuple #[.agg #[.int .i64 (N : Int), .int .i64 ((p : Int) + (q : Int)), .slice ta N tc, .slice ua N uc], .int .i64 0]) ?_ rfl ?_
      · simp [results, Try.results39, go_sem, d0, d1, d2, d3]
      · refine ⟨_, rfl, ?_, hgr⟩
        have h := HB.out.isSpec_keeps hkp8
        rw [bothM_of HSZ.out, ← Int.natCast_mul, HN.out]
        rw [HN.out] at h
        exact h
end Go.Proofs.Ytnebpcpihldllaa
