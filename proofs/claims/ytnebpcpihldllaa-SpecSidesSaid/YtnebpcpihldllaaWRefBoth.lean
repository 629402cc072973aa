/- Walks: two specifications side by side, of the reference's text. -/
import Derived.Test.YtnebpcpihldllaaBoth
import Derived.Test.YtnebpcpihldllaaTwo
import Derived.Test.YtnebpcpihldllaaWRefB
import Derived.Deep.RegionHeld3
import Derived.IntWalk
namespace Go.Lin

theorem later_both {W w' : World} (h : Grew W w') : Grew W w' ∧ ∀ b o, b < W.heap.size → w'.cell? ⟨b, o, none⟩ = W.cell? ⟨b, o, none⟩ := ⟨h, (bcell h).1⟩

theorem TabAt.atB {w : World} {b off n k : Nat} {f : Nat → Nat → Int} (h : TabAt w b off n k f) {i j : Nat} (hi : i < n) (hj : j < k) :
    ∃ b2 off2 c2, w.cell? ⟨b, off + i, none⟩ = some (.slice (some ⟨b2, off2, none⟩) k c2) ∧ w.cell? ⟨b2, off2 + j, none⟩ = some (.int .i64 (f i j)) ∧ b2 < w.heap.size := by
  obtain ⟨b2, off2, c2, h1, h2, h3⟩ := h.2 i hi
  exact ⟨b2, off2, c2, h1, h3 j hj, h2⟩
end Go.Lin
namespace Go.Proofs.Ytnebpcpihldllaa
open Go.RowKit Go.Lin

set_option maxHeartbeats 8000000 in
set_option maxRecDepth 100000 in
theorem refBoth_ok (s t : RSpec) (n p m q : Nat) (hz0 : Sized s t n p m q) (sv tv : Value) (w : World) (hs : IsSpec w sv s) (ht : IsSpec w tv t) (hvs : validM s = true) (hvt : validM t = true) (hnm : n * m ≤ 8) (hpq : p + q ≤ 4) :
    Calls Try.prog 40 #[sv, tv] w fun e w' => ∃ u, e = .returned (.tuple #[u, .int .i64 0]) ∧ IsSpec w' u (bothM s t) ∧ Grew w w' := by
  have HV1 := hid (fun (y : World) (hy : Grew w y) => refValid_any s sv y (hs.grew hy))
  have HV2 := hid (fun (y : World) (hy : Grew w y) => refValid_any t tv y (ht.grew hy))
  rw [hvs] at HV1
  rw [hvt] at HV2
  have HSZ := hid hz0
  have n1 := hz0.n1; have n8 := hz0.n8; have m1 := hz0.m1; have m8 := hz0.m8; have p4 := hz0.p4; have q4 := hz0.q4
  obtain ⟨b1, off1, c1, b2, off2, c2, rfl, t1, t2⟩ := tabs_of hs hz0.st hz0.ops hvs
  obtain ⟨b3, off3, c3, b4, off4, c4, rfl, t3, t4⟩ := tabs_of ht hz0.st' hz0.ops' hvt
  clear hs ht hvs hvt hz0
  obtain ⟨Wa, hWa, ga, k0, k1, k2, k3, hz⟩ := box4 w (.int .i64 (n : Int)) (.int .i64 (p : Int)) (.slice (some ⟨b1, off1, none⟩) n c1) (.slice (some ⟨b2, off2, none⟩) n c2) 24
  obtain ⟨W1, hW1, gb, l0, l1, l2, l3, hz1⟩ := box4 Wa (.int .i64 (m : Int)) (.int .i64 (q : Int)) (.slice (some ⟨b3, off3, none⟩) m c3) (.slice (some ⟨b4, off4, none⟩) m c4) 24
  have hobj2 := heap_alloc_new W1 (.cells #[.int .i64 0, .int .i64 0, .slice none 0 0, .slice none 0 0] 24)
  obtain ⟨W2, hW2, g2, q0, q1, q2, q3, hz2, qf⟩ := boxf4 W1 (.int .i64 0) (.int .i64 0) (.slice none 0 0) (.slice none 0 0) 24
  rw [hW2] at hobj2
  have HOBJ := hid hobj2; clear hobj2
  have g12 := grew_trans gb g2
  have g02 := grew_trans ga g12
  have a0 := (g12.cell (p := ⟨w.heap.size, 0, none⟩) hz).trans k0
  have a1 := (g12.cell (p := ⟨w.heap.size, 1, none⟩) hz).trans k1
  have a2 := (g12.cell (p := ⟨w.heap.size, 2, none⟩) hz).trans k2
  have a3 := (g12.cell (p := ⟨w.heap.size, 3, none⟩) hz).trans k3
  have e0 := (g2.cell (p := ⟨Wa.heap.size, 0, none⟩) hz1).trans l0
  have e1 := (g2.cell (p := ⟨Wa.heap.size, 1, none⟩) hz1).trans l1
  have e2 := (g2.cell (p := ⟨Wa.heap.size, 2, none⟩) hz1).trans l2
  have e3 := (g2.cell (p := ⟨Wa.heap.size, 3, none⟩) hz1).trans l3
  clear k0 k1 k2 k3 l0 l1 l2 l3 q0 q1 q2 q3 qf
  have T1 := hid (t1.grew g02); have T2 := hid (t2.grew g02)
  have T3 := hid (t3.grew g02); have T4 := hid (t4.grew g02)
  clear t1 t2 t3 t4
  have za : w.heap.size < W2.heap.size := Nat.lt_of_lt_of_le hz g12.size
  have zb : Wa.heap.size < W2.heap.size := Nat.lt_of_lt_of_le hz1 g2.size
  obtain ⟨N, hN⟩ : ∃ N, n * m = N := ⟨_, rfl⟩
  rw [hN] at hnm
  have hwr : IntKind.i64.wrap ((n : Int) * (m : Int)) = (N : Int) := by rw [← Int.natCast_mul, hN]; exact IntWalk.i64_in _ (by omega)
  have HN := hid hN; clear hN
  have hpq2 : decide ((4 : Int) < (p : Int) + (q : Int)) = false := decide_eq_false (by omega)
  have hg := grew_refl W2
  go_enter Try.func40, Try.ntmps40
  go_wp2_with (first
    | (go_at_call 33; with_reducible refine (HV1.out _ (grew_trans g02 hg)).mono ?_; rintro e w1 ⟨rfl, hx⟩; replace hg := grew_trans hg hx; have hc := (bcell hg).1; have hza := Nat.lt_of_lt_of_le za hg.size; have hzb := Nat.lt_of_lt_of_le zb hg.size)
    | (go_at_call 33; with_reducible refine (HV2.out _ (grew_trans g02 hg)).mono ?_; rintro e w2 ⟨rfl, hx2⟩; replace hg := grew_trans hg hx2; have hc := (bcell hg).1; have hza := Nat.lt_of_lt_of_le za hg.size; have hzb := Nat.lt_of_lt_of_le zb hg.size))
  have hbl0 := Built.start (W := w2) (st := (N : Int)) (ops := (p : Int) + (q : Int))
  obtain ⟨W4, hW4⟩ : ∃ W4, w2.alloc (.cells #[.int .i64 (N : Int), .int .i64 ((p : Int) + (q : Int)), .slice none 0 0, .slice none 0 0] 24) = W4 := ⟨_, rfl⟩
  rw [hW4] at hbl0 ⊢
  have HB0 := hid hbl0; clear hbl0
  clear hW1 hWa hW2 hW4 hc hza hzb hwr hpq2 hpq
  have HG2 := hid hg
  go_loopg [44] n (fun g iv wr => ∃ (i : Nat) (nv yv : Value), i ≤ n ∧ iv = .int .i64 (i : Int) ∧ Hid (g = n - i) ∧ Hid (Built w2 wr N ((p : Int) + (q : Int)) nv yv ((List.range (i * m)).map (bothNr s t m)) ((List.range (i * m)).map (bothYr s t m))))
  case atStart => exact ⟨0, _, _, Nat.zero_le _, rfl, hid rfl, by rw [Nat.zero_mul]; exact HB0⟩
  case round =>
    clear HB0
    obtain ⟨i, nv, yv, hi, rfl, HG, HB⟩ := hrel
    have gB := grew_trans HG2.out HB.out.grew
    by_cases hin : i < n
    · have hc := (bcell gB).1
      have hza := Nat.lt_of_lt_of_le za gB.size
      have hzb := Nat.lt_of_lt_of_le zb gB.size
      go_wp2
      obtain ⟨wo, rfl⟩ : ∃ wo : World, wo = wr := ⟨_, rfl⟩
      clear hc hza hzb gB
      go_loopg [49] m (fun g kv wr => ∃ (k : Nat) (nv yv : Value), k ≤ m ∧ kv = .int .i64 (k : Int) ∧ Hid (g = m - k) ∧ Hid (Built w2 wr N ((p : Int) + (q : Int)) nv yv ((List.range (i * m + k)).map (bothNr s t m)) ((List.range (i * m + k)).map (bothYr s t m))))
      case atStart => exact ⟨0, _, _, Nat.zero_le _, rfl, hid rfl, by rw [Nat.add_zero]; exact HB⟩
      case round =>
        clear HB
        obtain ⟨k, nv, yv, hk, rfl, HGk, HB⟩ := hrel
        have gB := grew_trans HG2.out HB.out.grew
        by_cases hkm : k < m
        · have hc := (bcell gB).1
          have hza := Nat.lt_of_lt_of_le za gB.size
          have hzb := Nat.lt_of_lt_of_le zb gB.size
          go_wp2
          obtain ⟨wy, rfl⟩ : ∃ wy : World, wy = wr := ⟨_, rfl⟩
          clear hc hza hzb
          go_loopg [9, 10, 54] p (fun g u v jv wi => ∃ (j : Nat) (xs ys : List Int), j ≤ p ∧ xs.length = j ∧ ys.length = j ∧ jv = .int .i64 (j : Int) ∧ Hid (g = p - j) ∧ Hid (Two wy wi u v xs ys) ∧
            Hid (xs = ((nthL s.next i).take j).map (fun x => x * (m : Int) + (k : Int)) ∧ ys = (nthL s.says i).take j))
          case atStart => exact ⟨0, [], [], Nat.zero_le _, rfl, rfl, rfl, hid rfl, hid (Two.start _), hid (by simp)⟩
          case round =>
            obtain ⟨j, xs, ys, hj, hxl, hyl, rfl, HGj, HT, HXY⟩ := hrel
            have HXL := hid hxl; have HYL := hid hyl; clear hxl hyl
            obtain ⟨sa, sc, rfl, _⟩ := HT.out.one.shape
            obtain ⟨sa2, sc2, rfl, _⟩ := HT.out.two.shape
            have gI := grew_trans gB HT.out.grew
            by_cases hjp : j < p
            · have hc := (bcell gI).1
              obtain ⟨br, offr, cr, hr1, hr2, hrb⟩ := T1.out.atB hin hjp
              obtain ⟨bs, offs, cs, hs1, hs2, hsb⟩ := T2.out.atB hin hjp
              have hb1 := T1.out.1
              have hb2 := T2.out.1
              obtain ⟨hl1, hx⟩ := HSZ.out.next i hin
              have hl2 := HSZ.out.says i hin
              obtain ⟨hx0, hx1⟩ := hx j hjp
              have htk : (nthL s.next i).take (j + 1) = (nthL s.next i).take j ++ [nth (nthL s.next i) j] := take_succ_nth (by omega)
              have htk2 : (nthL s.says i).take (j + 1) = (nthL s.says i).take j ++ [nth (nthL s.says i) j] := take_succ_nth (by omega)
              obtain ⟨x, hxe⟩ : ∃ x, nth (nthL s.next i) j = x := ⟨_, rfl⟩
              obtain ⟨y, hye⟩ : ∃ y, nth (nthL s.says i) j = y := ⟨_, rfl⟩
              rw [hxe] at htk hr2 hx0 hx1
              rw [hye] at htk2 hs2
              have HTK := hid htk; have HTK2 := hid htk2
              have hxm : 0 ≤ x * (m : Int) ∧ x * (m : Int) ≤ 64 := ⟨Int.mul_nonneg hx0 (by omega), by
                have h1 : x * (m : Int) ≤ 8 * (m : Int) := Int.mul_le_mul_of_nonneg_right (by omega) (by omega)
                omega⟩
              obtain ⟨hxm0, hxm1⟩ := hxm
              have hwx : IntKind.i64.wrap (x * (m : Int)) = x * (m : Int) := IntWalk.i64_in _ (by omega)
              have hza := Nat.lt_of_lt_of_le za gI.size
              have hzb := Nat.lt_of_lt_of_le zb gI.size
              have hz3 := Nat.lt_of_lt_of_le hb1 gI.size
              have hz4 := Nat.lt_of_lt_of_le hrb gI.size
              clear htk hxe htk2 hye hl1 hl2 hx
              go_wp2
              have hj0 : (0 : Int) ≤ (j : Int) := by omega
              have hwk : IntKind.i64.wrap (x * (m : Int) + (k : Int)) = x * (m : Int) + (k : Int) := IntWalk.i64_in _ (by omega)
              have hj1 : (j : Int) < (p : Int) := by omega
              have hi0 : (0 : Int) ≤ (i : Int) := by omega
              have hi1 : (i : Int) < (n : Int) := by omega
              obtain ⟨wi, rfl⟩ : ∃ wi : World, wi = wr := ⟨_, rfl⟩
              have hgw := HT.out.grew
              clear hc
              go_region_held3 (fun w' => Grew W2 w' ∧ ∀ b o, b < W2.heap.size → w'.cell? ⟨b, o, none⟩ = W2.cell? ⟨b, o, none⟩) (exact later_both (by repeat' (first | assumption | refine grew_alloc ?_ _ | refine grew_drew ?_)))
                ((refine step_append_one (by rfl) _ _ 34 (by rfl) wy.heap.size 3 Try.underlying34 Try.info3 rfl (by decide) _ xs.length _ (by rfl) ((HT.out.one.grew (grew_drew (grew_refl wi))).alloc _) _ _ _ (by rfl) (one_new _ _ _) rfl (by rw [HXL.out]; omega) (by have := HT.out.grew.size; simp; omega) ?_; intro v8 w8 hown8 hgrow8 hblk8; have HT8 := hid (HT.out.app1 (grew_alloc (grew_drew (grew_refl wi)) _) hown8 hgrow8 (hblk8.imp id (fun h => ⟨_, h, by simp⟩))); have hg8 : Grew W2 w8 := grew_trans gB HT8.out.grew; obtain ⟨a8, c8, rfl, _⟩ := HT8.out.one.shape))
              have hl8 : (xs ++ [x * (m : Int) + (k : Int)]).length = j + 1 := by rw [List.length_append, HXL.out]; rfl
              have hc := (bcell hg8).1
              have hsz8 := HT8.out.grew.size
              have hza := Nat.lt_of_lt_of_le za hg8.size
              have hz3 := Nat.lt_of_lt_of_le hb2 hg8.size
              have hz4 := Nat.lt_of_lt_of_le hsb hg8.size
              have hyl : ys.length < 1000000000 := by rw [HYL.out]; omega
              have HL8 := hid hl8
              clear hown8 hgrow8 hblk8 hl8
              go_wp2_with (at_builtin; refine wpList_append_one rfl _ _ 34 rfl wy.heap.size 3 Try.underlying34 Try.info3 rfl (by decide) _ (ys.length) _ rfl (HT8.out.two.alloc _) _ _ _ rfl (one_new _ _ _) rfl hyl ?_ ?_; (simp only [World.size_alloc]; omega); intro v9 w9 hown9 hgrow9 hblk9; have HT9 := hid (HT8.out.app2 (grew_alloc (grew_refl w8) _) hown9 hgrow9 (hblk9.imp id (fun h => ⟨_, h, by simp⟩))); clear hown9 hgrow9 hblk9)
              go_roundg (p - (j + 1))
              case measure => have := HGj.out; omega
              case rel =>
                refine ⟨j + 1, _, _, by omega, HL8.out, ?_, by go_num, hid rfl, (by have h := HT9.out; rw [List.length_append] at h; exact hid h), hid ⟨?_, ?_⟩⟩
                · rw [List.length_append, HYL.out]; rfl
                · rw [HTK.out, List.map_append, ← HXY.out.1]; rfl
                · rw [HTK2.out, ← HXY.out.2]
            · obtain rfl : p = j := by omega
              have hc := (bcell gI).1
              have hza := Nat.lt_of_lt_of_le za gI.size
              have hzb := Nat.lt_of_lt_of_le zb gI.size
              go_wp2
              obtain ⟨wz, rfl⟩ : ∃ wz : World, wz = wr := ⟨_, rfl⟩
              clear hc hza hzb gI
              go_loopg [9, 10, 87] q (fun g u v jv wi => ∃ (j : Nat) (xs ys : List Int), j ≤ q ∧ xs.length = p + j ∧ ys.length = p + j ∧ jv = .int .i64 (j : Int) ∧ Hid (g = q - j) ∧ Hid (Two wy wi u v xs ys) ∧
                Hid (xs = (nthL s.next i).map (fun x => x * (m : Int) + (k : Int)) ++ ((nthL t.next k).take j).map (fun x => (i : Int) * (m : Int) + x) ∧ ys = nthL s.says i ++ (nthL t.says k).take j))
              case atStart =>
                have hl1 := (HSZ.out.next i hin).1
                have hl2 := HSZ.out.says i hin
                refine ⟨0, xs, ys, Nat.zero_le _, HXL.out, HYL.out, rfl, hid rfl, HT, hid ?_⟩
                simp [HXY.out.1, HXY.out.2, List.take_of_length_le (show (nthL s.next i).length ≤ p by omega), List.take_of_length_le (show (nthL s.says i).length ≤ p by omega)]
              case round =>
                clear HXY HXL HYL HT hj
                obtain ⟨j, xs, ys, hj, hxl, hyl, rfl, HGj', HT, HXY⟩ := hrel
                have HXL := hid hxl; have HYL := hid hyl; clear hxl hyl
                obtain ⟨sa, sc, rfl, _⟩ := HT.out.one.shape
                obtain ⟨sa2, sc2, rfl, _⟩ := HT.out.two.shape
                have gI := grew_trans gB HT.out.grew
                by_cases hjq : j < q
                · have hc := (bcell gI).1
                  obtain ⟨br, offr, cr, hr1, hr2, hrb⟩ := T3.out.atB hkm hjq
                  obtain ⟨bs, offs, cs, hs1, hs2, hsb⟩ := T4.out.atB hkm hjq
                  have hb3 := T3.out.1
                  have hb4 := T4.out.1
                  obtain ⟨hl1, hx⟩ := HSZ.out.next' k hkm
                  have hl2 := HSZ.out.says' k hkm
                  obtain ⟨hx0, hx1⟩ := hx j hjq
                  have htk : (nthL t.next k).take (j + 1) = (nthL t.next k).take j ++ [nth (nthL t.next k) j] := take_succ_nth (by omega)
                  have htk2 : (nthL t.says k).take (j + 1) = (nthL t.says k).take j ++ [nth (nthL t.says k) j] := take_succ_nth (by omega)
                  obtain ⟨x, hxe⟩ : ∃ x, nth (nthL t.next k) j = x := ⟨_, rfl⟩
                  obtain ⟨y, hye⟩ : ∃ y, nth (nthL t.says k) j = y := ⟨_, rfl⟩
                  rw [hxe] at htk hr2 hx0 hx1
                  rw [hye] at htk2 hs2
                  have HTK := hid htk; have HTK2 := hid htk2
                  have hxm : 0 ≤ (i : Int) * (m : Int) ∧ (i : Int) * (m : Int) ≤ 64 := ⟨Int.mul_nonneg (by omega) (by omega), by
                    have h1 : (i : Int) * (m : Int) ≤ 8 * (m : Int) := Int.mul_le_mul_of_nonneg_right (by omega) (by omega)
                    omega⟩
                  obtain ⟨hxm0, hxm1⟩ := hxm
                  have hwx : IntKind.i64.wrap ((i : Int) * (m : Int)) = (i : Int) * (m : Int) := IntWalk.i64_in _ (by omega)
                  have hwk : IntKind.i64.wrap ((i : Int) * (m : Int) + x) = (i : Int) * (m : Int) + x := IntWalk.i64_in _ (by omega)
                  have hza := Nat.lt_of_lt_of_le za gI.size
                  have hzb := Nat.lt_of_lt_of_le zb gI.size
                  have hz3 := Nat.lt_of_lt_of_le hb3 gI.size
                  have hz4 := Nat.lt_of_lt_of_le hrb gI.size
                  clear htk hxe htk2 hye hl1 hl2 hx
                  go_wp2
                  have hj0 : (0 : Int) ≤ (j : Int) := by omega
                  have hj1 : (j : Int) < (q : Int) := by omega
                  have hk0 : (0 : Int) ≤ (k : Int) := by omega
                  have hk1 : (k : Int) < (m : Int) := by omega
                  obtain ⟨wi, rfl⟩ : ∃ wi : World, wi = wr := ⟨_, rfl⟩
                  have hgw := HT.out.grew
                  clear hc
                  go_region_held3 (fun w' => Grew W2 w' ∧ ∀ b o, b < W2.heap.size → w'.cell? ⟨b, o, none⟩ = W2.cell? ⟨b, o, none⟩) (exact later_both (by repeat' (first | assumption | refine grew_alloc ?_ _ | refine grew_drew ?_)))
                    ((refine step_append_one (by rfl) _ _ 34 (by rfl) wy.heap.size 3 Try.underlying34 Try.info3 rfl (by decide) _ xs.length _ (by rfl) ((HT.out.one.grew (grew_drew (grew_refl wi))).alloc _) _ _ _ (by rfl) (one_new _ _ _) rfl (by rw [HXL.out]; omega) (by have := HT.out.grew.size; simp; omega) ?_; intro v8 w8 hown8 hgrow8 hblk8; have HT8 := hid (HT.out.app1 (grew_alloc (grew_drew (grew_refl wi)) _) hown8 hgrow8 (hblk8.imp id (fun h => ⟨_, h, by simp⟩))); have hg8 : Grew W2 w8 := grew_trans gB HT8.out.grew; obtain ⟨a8, c8, rfl, _⟩ := HT8.out.one.shape))
                  have hl8 : (xs ++ [(i : Int) * (m : Int) + x]).length = p + (j + 1) := by rw [List.length_append, HXL.out]; rfl
                  have hc := (bcell hg8).1
                  have hsz8 := HT8.out.grew.size
                  have hza := Nat.lt_of_lt_of_le za hg8.size
                  have hzb := Nat.lt_of_lt_of_le zb hg8.size
                  have hz3 := Nat.lt_of_lt_of_le hb4 hg8.size
                  have hz4 := Nat.lt_of_lt_of_le hsb hg8.size
                  have hyl : ys.length < 1000000000 := by rw [HYL.out]; omega
                  have HL8 := hid hl8
                  clear hown8 hgrow8 hblk8 hl8
                  go_wp2_with (at_builtin; refine wpList_append_one rfl _ _ 34 rfl wy.heap.size 3 Try.underlying34 Try.info3 rfl (by decide) _ (ys.length) _ rfl (HT8.out.two.alloc _) _ _ _ rfl (one_new _ _ _) rfl hyl ?_ ?_; (simp only [World.size_alloc]; omega); intro v9 w9 hown9 hgrow9 hblk9; have HT9 := hid (HT8.out.app2 (grew_alloc (grew_refl w8) _) hown9 hgrow9 (hblk9.imp id (fun h => ⟨_, h, by simp⟩))); clear hown9 hgrow9 hblk9)
                  go_roundg (q - (j + 1))
                  case measure => have := HGj'.out; omega
                  case rel =>
                    refine ⟨j + 1, _, _, by omega, HL8.out, ?_, by go_num, hid rfl, (by have h := HT9.out; rw [List.length_append] at h; exact hid h), hid ⟨?_, ?_⟩⟩
                    · rw [List.length_append, HYL.out]; rfl
                    · rw [HTK.out, List.map_append, ← List.append_assoc, ← HXY.out.1]; rfl
                    · rw [HTK2.out, ← List.append_assoc, ← HXY.out.2]
                · obtain rfl : q = j := by omega
                  have hxe : xs = bothNr s t m (i * m + k) := by
                    rw [bothNr_at s t hkm, HXY.out.1, List.take_of_length_le (by have := (HSZ.out.next' k hkm).1; omega)]; rfl
                  have hye : ys = bothYr s t m (i * m + k) := by
                    rw [bothYr_at s t hkm, HXY.out.2, List.take_of_length_le (by have := HSZ.out.says' k hkm; omega)]; rfl
                  obtain ⟨cn, hcn⟩ : ∃ cn, i * m + k = cn := ⟨_, rfl⟩
                  have hcn8 : cn < 1000 := by
                    have h1 : i * m ≤ 8 * m := Nat.mul_le_mul_right _ (by omega)
                    omega
                  rw [hcn] at hxe hye
                  have hB0 := HB.out
                  rw [hcn] at hB0
                  have hN : ((List.range cn).map (bothNr s t m)).length = cn := by rw [List.length_map, List.length_range]
                  have hY : ((List.range cn).map (bothYr s t m)).length = cn := by rw [List.length_map, List.length_range]
                  have HN2 := hid hN; have HY := hid hY; clear hN hY
                  have hBi := hB0.grown HT.out.grew
                  clear hB0
                  obtain ⟨ta, tc, htv⟩ := hBi.next.shape
                  obtain ⟨ya, yc, hyv⟩ := hBi.says.shape
                  rw [List.length_map, List.length_range] at htv hyv
                  subst htv; subst hyv
                  obtain ⟨p0, p1, p2, p3, pf, hzb⟩ := hBi.cells
                  obtain ⟨Vs, hVs, hV⟩ := hBi.next
                  rw [List.length_map, List.length_range] at hVs hV
                  have HV1' := hid hV; clear hV
                  have HBI := hid hBi; clear hBi
                  have hk9 : cn < 1000000000 := by omega
                  obtain ⟨wi, rfl⟩ : ∃ wi : World, wi = wr := ⟨_, rfl⟩
                  have HCN := hid hcn; have HXE := hid hxe; have HYE := hid hye; clear hcn hxe hye
                  have hrw := fun (o : Obj) => Reads.grew ((HT.out.one.isInts).mono (S' := IntObj 3) (fun k o ⟨_, cur, ho⟩ => ⟨cur, _, ho⟩)) (grew_alloc (grew_refl wi) o)
                  have HRW := hid hrw
                  have HRW2 := hid ((HT.out.two.isInts).mono (S' := IntObj 3) (fun k o ⟨_, cur, ho⟩ => ⟨cur, _, ho⟩))
                  clear hrw
                  go_wp2_with (first
                    | (at_builtin; refine wpList_append_one rfl _ _ 22 rfl (w2.heap.size + 1) 34 Try.underlying22 Try.info34 rfl (by decide) _ cn _ rfl (hVs.alloc _) _ _ _ rfl (one_new _ _ _) rfl hk9 ?_ ?_; (simp only [World.size_alloc]; omega); intro v1 w5 hown1 hgrow1 hblk1; obtain ⟨a1, c1', rfl, _⟩ := hown1.shape; obtain ⟨hkp, hobj1, -⟩ := HBI.out.after (T := (List.range cn).map (bothNr s t m)) (v' := .slice a1 (cn + 1) c1') 2 (grew_alloc (grew_refl wi) _) (by rw [HN2.out]; exact hVs) hgrow1; obtain ⟨y0, y1, y2, y3, yf, hzy⟩ := cells4 hobj1; obtain ⟨w6, hw6⟩ : ∃ w6, w5.setCell ⟨w2.heap.size, 2, none⟩ (.slice a1 (cn + 1) c1') = w6 := ⟨_, rfl⟩;
                        have hB6 := HBI.out.next_snoc (v' := .slice a1 (cn + 1) c1') (Vs := Vs) (row := bothNr s t m cn) (grew_alloc (grew_refl wi) _) (by rw [HN2.out]; exact hVs) (by rw [HN2.out]; exact HV1'.out) (by rw [HN2.out]; exact hown1) hgrow1 (hblk1.imp id (fun h => ⟨_, h, by simp⟩)) (by rw [← HXE.out]; exact HRW.out _);
                        rw [hw6] at hkp; rw [hw6, ← range_snoc] at hB6; have HRW3 := hid (Reads.keeps (HRW2.out.grew (grew_alloc (grew_refl wi) _)) hkp (fun k o ⟨c, fr, ho⟩ => by subst ho; rintro (⟨_, cur, h⟩ | ⟨_, c', h⟩) <;> cases h));
                        obtain ⟨f0, f1, f2, f3, ff, hz6⟩ := hB6.cells; obtain ⟨Vs2, hVs2, hV2⟩ := hB6.says; rw [HY.out] at hVs2 hV2; have HV2' := hid hV2; have HB6 := hid hB6; clear hV2 hB6 hkp hVs HV1' HBI hown1 hgrow1 hblk1 hobj1 p0 p1 p2 p3 pf hzb)
                    | (at_builtin; refine wpList_append_one rfl _ _ 22 rfl (w2.heap.size + 1) 34 Try.underlying22 Try.info34 rfl (by decide) _ cn _ rfl (hVs2.alloc _) _ _ _ rfl (one_new _ _ _) rfl hk9 ?_ ?_; (simp only [World.size_alloc]; omega); intro v2 w7 hown2 hgrow2 hblk2; obtain ⟨a2', c2', rfl, _⟩ := hown2.shape; obtain ⟨-, hobj2, -⟩ := HB6.out.after (T := (List.range cn).map (bothYr s t m)) (v' := .slice a2' (cn + 1) c2') 3 (grew_alloc (grew_refl w6) _) (by rw [HY.out]; exact hVs2) hgrow2; obtain ⟨x0, x1, x2, x3, xf, hzx⟩ := cells4 hobj2; obtain ⟨w8, hw8⟩ : ∃ w8, w7.setCell ⟨w2.heap.size, 3, none⟩ (.slice a2' (cn + 1) c2') = w8 := ⟨_, rfl⟩;
                        have hB8 := HB6.out.says_snoc (v' := .slice a2' (cn + 1) c2') (Vs := Vs2) (row := bothYr s t m cn) (grew_alloc (grew_refl w6) _) (by rw [HY.out]; exact hVs2) (by rw [HY.out]; exact HV2'.out) (by rw [HY.out]; exact hown2) hgrow2 (hblk2.imp id (fun h => ⟨_, h, by simp⟩)) (by rw [← HYE.out]; exact HRW3.out.grew (grew_alloc (grew_refl w6) _));
                        rw [hw8, ← range_snoc] at hB8; have HB8 := hid hB8; clear hB8 hown2 hgrow2 hblk2 hobj2 hVs2 HV2' HB6))
                  go_roundg (m - (k + 1))
                  case measure => have := HGk.out; omega
                  case rel => exact ⟨k + 1, _, _, by omega, by go_num, hid rfl, by rw [← Nat.add_assoc, HCN.out]; exact HB8⟩
        · obtain rfl : m = k := by omega
          go_wp2
          go_roundg (n - (i + 1))
          case measure => have := HG.out; omega
          case rel => exact ⟨i + 1, _, _, by omega, by go_num, hid rfl, by rw [Nat.add_mul, Nat.one_mul]; exact HB⟩
    · obtain rfl : n = i := by omega
      have hB := HB.out
      obtain ⟨ta, tc, htv⟩ := hB.next.shape
      obtain ⟨ua, uc, huv⟩ := hB.says.shape
      rw [List.length_map, List.length_range, HN.out] at htv huv
      subst htv; subst huv
      obtain ⟨p0, p1, p2, p3, pf, hzb⟩ := hB.cells
      have hzw : W1.heap.size < wr.heap.size := Nat.lt_of_lt_of_le hz2 gB.size
      have hobj := (gB.block _ hz2).trans HOBJ.out
      obtain ⟨y0, y1, y2, y3, yf, hzy⟩ := cells4 hobj
      have HOB := hid hobj
      clear hobj hB
      go_wp2
      have hset := fun w' => set4 (w' := w') (c := #[.int .i64 0, .int .i64 0, .slice none 0 0, .slice none 0 0]) rfl (.int .i64 (N : Int)) (.int .i64 ((p : Int) + (q : Int))) (.slice ta N tc) (.slice ua N uc) HOB.out
      have hkp := fun w' => keeps_set4 (w' := w') (.int .i64 (N : Int)) (.int .i64 ((p : Int) + (q : Int))) (.slice ta N tc) (.slice ua N uc) HOB.out
      have hgr : Grew w ((((wr.setCell ⟨W1.heap.size, 0, none⟩ (.int .i64 (N : Int))).setCell ⟨W1.heap.size, 1, none⟩ (.int .i64 ((p : Int) + (q : Int)))).setCell ⟨W1.heap.size, 2, none⟩ (.slice ta N tc)).setCell ⟨W1.heap.size, 3, none⟩ (.slice ua N uc)) := by
        have h := grew_trans g02 gB
        have hb : w.heap.size ≤ W1.heap.size := Nat.le_trans ga.size gb.size
        repeat' (first | assumption | refine Below.setCell ?_ (by (try simp); omega) _)
      generalize hw8 : (((wr.setCell ⟨W1.heap.size, 0, none⟩ (.int .i64 (N : Int))).setCell ⟨W1.heap.size, 1, none⟩ (.int .i64 ((p : Int) + (q : Int)))).setCell ⟨W1.heap.size, 2, none⟩ (.slice ta N tc)).setCell ⟨W1.heap.size, 3, none⟩ (.slice ua N uc) = w8 at hgr ⊢
      obtain ⟨hobj8, hsz8⟩ := hset w8 hw8
      have hkp8 := hkp w8 hw8
      obtain ⟨d0, d1, d2, d3, -, hd⟩ := cells4 hobj8
      clear hset hkp
      refine bodyPost_ret (v := .tuple #[.agg #[.int .i64 (N : Int), .int .i64 ((p : Int) + (q : Int)), .slice ta N tc, .slice ua N uc], .int .i64 0]) ?_ rfl ?_
      · simp [results, Try.results40, go_sem, d0, d1, d2, d3]
      · refine ⟨_, rfl, ?_, hgr⟩
        have h := HB.out.isSpec_keeps hkp8
        rw [bothM_of HSZ.out, ← Int.natCast_mul, HN.out]
        rw [HN.out] at h
        exact h
end Go.Proofs.Ytnebpcpihldllaa
