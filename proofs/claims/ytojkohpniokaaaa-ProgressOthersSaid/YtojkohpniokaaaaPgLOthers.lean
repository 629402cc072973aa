/- The law ProgressOthers (11). Printed by gen_pgothers.py. -/
import Derived.Test.YtojkohpniokaaaaPgGrN
import Derived.Test.YtojkohpniokaaaaPgNamesP
namespace Go.Lin.Pg
open Go.Proofs.Ytojkohpniokaaaa
theorem without_wf {g : Gr} (i : Int) : ∀ m ∈ (withoutA g i).1.ms, MvWf m := fun m hm => by
  unfold withoutA at hm
  cases hv : valid g with
  | false => rw [hv] at hm; cases hm
  | true =>
    rw [hv] at hm
    simp only [if_true] at hm
    split at hm
    · exact valid_wf hv m (without_mem m hm)
    · cases hm
theorem only_wf {g : Gr} (t : Int) : ∀ m ∈ (onlyA g t).1.ms, MvWf m := fun m hm => by
  unfold onlyA at hm
  cases hv : valid g with
  | false => rw [hv] at hm; cases hm
  | true =>
    rw [hv] at hm
    simp only [if_true] at hm
    split at hm
    · exact valid_wf hv m (only_mem m hm).1
    · cases hm
theorem ren_wf {g : Gr} (a b : Int) : ∀ m ∈ (renA g a b).1.ms, MvWf m := fun m hm => by
  unfold renA at hm
  cases hv : valid g with
  | false => rw [hv] at hm; cases hm
  | true =>
    rw [hv] at hm
    simp only [if_true] at hm
    split at hm
    · rename_i hc
      rw [Bool.and_eq_true] at hc
      exact valid_wf (valid_ren hv hc.1 hc.2) m hm
    · cases hm
end Go.Lin.Pg
namespace Go.Proofs.Ytojkohpniokaaaa
open Go Go.RowKit Go.Lin Go.Lin.Pg

theorem isGr_mk' {w : World} {n : Int} {s : Value} {ms : List Mv} {B k : Nat} (h : Seg w B 50 4 s k (cellsM ms)) (hk : ms.length = k) : IsGr w (.agg #[.int .i64 n, s]) ⟨n, ms⟩ := ⟨s, rfl, mvs_of_seg h hk⟩

set_option maxHeartbeats 16000000 in
set_option maxRecDepth 20000 in
theorem progressOthers_law (g : Gr) (i a b : Int) (v : Value) (w : World) (hn : -9223372036854775808 ≤ g.n ∧ g.n ≤ 9223372036854775807) (hv : IsGr w v g) :
    Calls Try.prog 11 #[v, .int .i64 i, .int .i64 a, .int .i64 b] w fun e w' => e = .returned (.bool true) ∧ Grew w w' := by
  have HV := hid hv
  obtain ⟨s, rfl, hmv0⟩ := hv
  obtain ⟨sa, sn, sc, rfl⟩ : ∃ a n c, s = .slice a n c := let ⟨a, c, e, _⟩ := hmv0; ⟨a, _, c, e⟩
  clear hmv0
  obtain ⟨w0, hw0, g0, cp0, cq0, hz0⟩ := box2 w (.int .i64 g.n) (.slice sa sn sc) 24
  have HG0 := hid g0
  have HAW := hid (fun (W : World) => awake17_any W)
  have HLO := hid (fun (W : World) (h : Grew w W) => long15_any _ g W (HV.out.grew h))
  have HC0 := hid cp0; have HC1 := hid cq0
  -- what stays of the graph's box
  have HUP := hid (fun (W : World) (h : Below w0.heap.size w0 W) => show Grew w W ∧ W.cell? ⟨w.heap.size, 0, none⟩ = some (.int .i64 g.n) ∧ W.cell? ⟨w.heap.size, 1, none⟩ = some (.slice sa sn sc) ∧ w.heap.size < W.heap.size from
    ⟨g0.trans (h.mono g0.size), (h.cell (p := ⟨w.heap.size, 0, none⟩) hz0).trans HC0.out, (h.cell (p := ⟨w.heap.size, 1, none⟩) hz0).trans HC1.out, Nat.lt_of_lt_of_le hz0 h.size⟩)
  have H41 := hid (fun (W : World) (h : Grew w W) => without41_new _ g i W hn (HV.out.grew h))
  have H48 := hid (fun (W : World) (h : Grew w W) => rWithout48_new _ g i W (HV.out.grew h))
  have H37 := hid (fun (W : World) (h : Grew w W) => renamed37_new _ g a b W hn (HV.out.grew h))
  have H49 := hid (fun (W : World) (h : Grew w W) => rRenamed49_new _ g a b W (HV.out.grew h))
  have H40 := hid (fun (W : World) (h : Grew w W) => only40_new _ g a W hn (HV.out.grew h))
  have H50 := hid (fun (W : World) (h : Grew w W) => rOnly50_new _ g a W (HV.out.grew h))
  have hwx := without_wf (g := g) i
  have hwr := ren_wf (g := g) a b
  have hwo := only_wf (g := g) a
  obtain ⟨⟨⟨nx, mx⟩, ex⟩, hx⟩ : ∃ x, withoutA g i = x := ⟨_, rfl⟩
  obtain ⟨⟨⟨nr, mr⟩, er⟩, hr⟩ : ∃ x, renA g a b = x := ⟨_, rfl⟩
  obtain ⟨⟨⟨no, mo⟩, eo⟩, ho⟩ : ∃ x, onlyA g a = x := ⟨_, rfl⟩
  rw [hx] at H41 H48 hwx
  rw [hr] at H37 H49 hwr
  rw [ho] at H40 H50 hwo
  simp only at H41 H48 H37 H49 H40 H50 hwx hwr hwo
  have HSX := hid (fun (u u' : Value) (W : World) (h : IsGr W u ⟨nx, mx⟩) (h' : IsGr W u' ⟨nx, mx⟩) => same38_any u u' ⟨nx, mx⟩ W h h' hwx)
  have HSR := hid (fun (u u' : Value) (W : World) (h : IsGr W u ⟨nr, mr⟩) (h' : IsGr W u' ⟨nr, mr⟩) => same38_any u u' ⟨nr, mr⟩ W h h' hwr)
  have HSO := hid (fun (u u' : Value) (W : World) (h : IsGr W u ⟨no, mo⟩) (h' : IsGr W u' ⟨no, mo⟩) => same38_any u u' ⟨no, mo⟩ W h h' hwo)
  have bx : (ex != ex) = false := by simp
  have br : (er != er) = false := by simp
  have bo : (eo == eo) = true := by simp
  obtain ⟨lo, hlo⟩ : ∃ b, decide ((g.ms.length : Int) > 100) = b := ⟨_, rfl⟩
  rw [hlo] at HLO
  clear hlo hx hr ho hwx hwr hwo
  cases lo with
  | true =>
    go_enter Try.func11, Try.ntmps11
    go_wp2_with (first
      | (go_at_call 15; (with_reducible refine (HLO.out _ HG0.out).mono ?_); rintro e w1 ⟨rfl, hx⟩; have HX1 := hid hx; clear hx)
      | (go_at_call 17; (with_reducible refine (HAW.out _).mono ?_); rintro e w2 ⟨rfl, hx⟩; have HX2 := hid hx; clear hx))
    go_ret
    exact ⟨rfl, grew_trans HG0.out (grew_trans HX1.out HX2.out)⟩
  | false =>
    go_enter Try.func11, Try.ntmps11
    go_wp2_with (first
      | (go_at_call 15; (with_reducible refine (HLO.out _ HG0.out).mono ?_); rintro e w1 ⟨rfl, hx⟩; have HB1 := hid (hx : Below w0.heap.size w0 w1); obtain ⟨hgu1, cp1, cq1, hz1⟩ := HUP.out w1 HB1.out; have HG1 := hid hgu1; clear hx hgu1)
      | (go_at_call 41; (with_reducible refine (H41.out _ HG1.out).mono ?_); rintro e v2 ⟨u, rfl, hx, hu⟩; obtain ⟨s2, rfl, hs2⟩ := hu; obtain ⟨w2, hw2, gb, e0, e1, hzb⟩ := box2 v2 (.int .i64 nx) s2 24; have hxx := grew_trans hx gb; have HB2 := hid (HB1.out.trans (hxx.mono HB1.out.size)); obtain ⟨bA, hbA⟩ : ∃ B, v2.heap.size = B := ⟨_, rfl⟩; have HOA2 := hid (show w2.heap[bA]? = some (.cells #[.int .i64 nx, s2] 24 (0, 0)) by rw [← hw2, ← hbA]; exact heap_alloc_new v2 _); have HSA2 := hid (hs2.grew gb); have hltA : w1.heap.size ≤ bA ∧ bA < w2.heap.size := (by rw [← hbA]; exact ⟨hx.size, hzb⟩); have HLTA := hid (show w0.heap.size ≤ bA from Nat.le_trans HB1.out.size hltA.1); have HLA2 := hid hltA.2; obtain ⟨a2, l2, k2, rfl⟩ := shape2 hs2; rw [hbA] at e0 e1 hzb; have y0A2 := e0; have y1A2 := e1; have ylA2 := hzb; obtain ⟨hgu2, cp2, cq2, hz2⟩ := HUP.out w2 HB2.out; have HG2 := hid hgu2; clear hx hxx gb hs2 hltA hgu2 e0 e1 hzb)
      | (go_at_call 48; (with_reducible refine (H48.out _ HG2.out).mono ?_); rintro e v3 ⟨u, rfl, hx, hu⟩; obtain ⟨s3, rfl, hs3⟩ := hu; obtain ⟨w3, hw3, gb, e0, e1, hzb⟩ := box2 v3 (.int .i64 nx) s3 24; have hxx := grew_trans hx gb; have HB3 := hid (HB2.out.trans (hxx.mono HB2.out.size)); obtain ⟨bB, hbB⟩ : ∃ B, v3.heap.size = B := ⟨_, rfl⟩; have HOB3 := hid (show w3.heap[bB]? = some (.cells #[.int .i64 nx, s3] 24 (0, 0)) by rw [← hw3, ← hbB]; exact heap_alloc_new v3 _); have HSB3 := hid (hs3.grew gb); have hltB : w2.heap.size ≤ bB ∧ bB < w3.heap.size := (by rw [← hbB]; exact ⟨hx.size, hzb⟩); have HLTB := hid (show w0.heap.size ≤ bB from Nat.le_trans HB2.out.size hltB.1); have HLB3 := hid hltB.2; have HOA3 := hid ((hxx.block _ (lt_of_obj HOA2.out)).trans HOA2.out); have HSA3 := hid (HSA2.out.grew hxx); have HNAB := hid (show bA < bB from Nat.lt_of_lt_of_le (lt_of_obj HOA2.out) hltB.1); obtain ⟨a3, l3, k3, rfl⟩ := shape2 hs3; rw [hbB] at e0 e1 hzb; have y0B3 := e0; have y1B3 := e1; have ylB3 := hzb; have y0A3 : w3.cell? ⟨bA, 0, none⟩ = some _ := cell_of_row _ _ _ _ _ _ HOA3.out; have y1A3 : w3.cell? ⟨bA, 1, none⟩ = some _ := cell_of_row _ _ _ _ _ _ HOA3.out; have ylA3 := lt_of_obj HOA3.out; obtain ⟨hgu3, cp3, cq3, hz3⟩ := HUP.out w3 HB3.out; have HG3 := hid hgu3; clear hx hxx gb hs3 hltB hgu3 e0 e1 hzb)
      | (go_at_call 38; (with_reducible refine (HSX.out _ _ _ (isGr_mk' HSA3.out rfl) (isGr_mk' HSB3.out rfl)).mono ?_); rintro e w4 ⟨rfl, hx⟩; have HB4 := hid (HB3.out.trans (hx.mono HB3.out.size)); have HOA4 := hid ((hx.block _ (lt_of_obj HOA3.out)).trans HOA3.out); have HOB4 := hid ((hx.block _ (lt_of_obj HOB3.out)).trans HOB3.out); obtain ⟨hgu4, cp4, cq4, hz4⟩ := HUP.out w4 HB4.out; have HG4 := hid hgu4; clear hx hgu4)
      | (go_at_call 37; (with_reducible refine (H37.out _ HG4.out).mono ?_); rintro e v5 ⟨u, rfl, hx, hu⟩; obtain ⟨s5, rfl, hs5⟩ := hu; have o5 := (hx.block _ (lt_of_obj HOA4.out)).trans HOA4.out; have hst := gr_stores o5 (.int .i64 nr) s5; obtain ⟨w5, hw5⟩ : ∃ W, (v5.setCell ⟨bA, 0, none⟩ (.int .i64 nr)).setCell ⟨bA, 1, none⟩ s5 = W := ⟨_, rfl⟩; rw [hw5] at hst; have e0 : v5.cell? ⟨bA, 0, none⟩ = some _ := cell_of_row _ _ _ _ _ _ o5; have e1 : v5.cell? ⟨bA, 1, none⟩ = some _ := cell_of_row _ _ _ _ _ _ o5; have f0 := frozen_obj o5 0; have f1 := frozen_obj o5 1; have hl5 := lt_of_obj o5; have HB5 := hid ((HB4.out.trans (hx.mono HB4.out.size)).trans (hst.2.below (Nat.le_trans HB4.out.size hx.size) (fun j _ e => by rw [e]; exact HLTA.out))); have HOA5 := hid hst.1; have HOB5 := hid (hst.2.obj _ _ ((hx.block _ (lt_of_obj HOB4.out)).trans HOB4.out) (fun e => by have h := HNAB.out; omega)); have HSA5 := hid (hs5.keeps hst.2 (fun j o hj _ e => by have h := (hs5.own j hj).1; have h2 := lt_of_obj HOA4.out; omega)); obtain ⟨a5, l5, k5, rfl⟩ := shape2 hs5; have y0A5 : w5.cell? ⟨bA, 0, none⟩ = some _ := cell_of_row _ _ _ _ _ _ HOA5.out; have y1A5 : w5.cell? ⟨bA, 1, none⟩ = some _ := cell_of_row _ _ _ _ _ _ HOA5.out; have ylA5 := lt_of_obj HOA5.out; have y0B5 : w5.cell? ⟨bB, 0, none⟩ = some _ := cell_of_row _ _ _ _ _ _ HOB5.out; have y1B5 : w5.cell? ⟨bB, 1, none⟩ = some _ := cell_of_row _ _ _ _ _ _ HOB5.out; have ylB5 := lt_of_obj HOB5.out; have HLXA := hid (show bB < w4.heap.size from lt_of_obj HOB4.out); obtain ⟨hgu5, cp5, cq5, hz5⟩ := HUP.out w5 HB5.out; have HG5 := hid hgu5; clear hx hst hs5 hgu5 o5)
      | (go_at_call 49; (with_reducible refine (H49.out _ HG5.out).mono ?_); rintro e v6 ⟨u, rfl, hx, hu⟩; obtain ⟨s6, rfl, hs6⟩ := hu; have o6 := (hx.block _ (lt_of_obj HOB5.out)).trans HOB5.out; have hst := gr_stores o6 (.int .i64 nr) s6; obtain ⟨w6, hw6⟩ : ∃ W, (v6.setCell ⟨bB, 0, none⟩ (.int .i64 nr)).setCell ⟨bB, 1, none⟩ s6 = W := ⟨_, rfl⟩; rw [hw6] at hst; have e0 : v6.cell? ⟨bB, 0, none⟩ = some _ := cell_of_row _ _ _ _ _ _ o6; have e1 : v6.cell? ⟨bB, 1, none⟩ = some _ := cell_of_row _ _ _ _ _ _ o6; have f0 := frozen_obj o6 0; have f1 := frozen_obj o6 1; have hl6 := lt_of_obj o6; have HB6 := hid ((HB5.out.trans (hx.mono HB5.out.size)).trans (hst.2.below (Nat.le_trans HB5.out.size hx.size) (fun j _ e => by rw [e]; exact HLTB.out))); have HOB6 := hid hst.1; have HOA6 := hid (hst.2.obj _ _ ((hx.block _ (lt_of_obj HOA5.out)).trans HOA5.out) (fun e => by have h := HNAB.out; omega)); have HSB6 := hid (hs6.keeps hst.2 (fun j o hj _ e => by have h := (hs6.own j hj).1; have h2 := lt_of_obj HOB5.out; omega)); have HSA6 := hid ((HSA5.out.grew hx).keeps hst.2 (fun j o hj _ e => by have h := ((HSA5.out.grew hx).own j hj).1; have h2 := HLXA.out; omega)); obtain ⟨a6, l6, k6, rfl⟩ := shape2 hs6; have y0B6 : w6.cell? ⟨bB, 0, none⟩ = some _ := cell_of_row _ _ _ _ _ _ HOB6.out; have y1B6 : w6.cell? ⟨bB, 1, none⟩ = some _ := cell_of_row _ _ _ _ _ _ HOB6.out; have ylB6 := lt_of_obj HOB6.out; have y0A6 : w6.cell? ⟨bA, 0, none⟩ = some _ := cell_of_row _ _ _ _ _ _ HOA6.out; have y1A6 : w6.cell? ⟨bA, 1, none⟩ = some _ := cell_of_row _ _ _ _ _ _ HOA6.out; have ylA6 := lt_of_obj HOA6.out; have HLXB := hid (show bA < w5.heap.size from lt_of_obj HOA5.out); obtain ⟨hgu6, cp6, cq6, hz6⟩ := HUP.out w6 HB6.out; have HG6 := hid hgu6; clear hx hst hs6 hgu6 o6)
      | (go_at_call 38; (with_reducible refine (HSR.out _ _ _ (isGr_mk' HSA6.out rfl) (isGr_mk' HSB6.out rfl)).mono ?_); rintro e w7 ⟨rfl, hx⟩; have HB7 := hid (HB6.out.trans (hx.mono HB6.out.size)); have HOA7 := hid ((hx.block _ (lt_of_obj HOA6.out)).trans HOA6.out); have HOB7 := hid ((hx.block _ (lt_of_obj HOB6.out)).trans HOB6.out); obtain ⟨hgu7, cp7, cq7, hz7⟩ := HUP.out w7 HB7.out; have HG7 := hid hgu7; clear hx hgu7)
      | (go_at_call 40; (with_reducible refine (H40.out _ HG7.out).mono ?_); rintro e v8 ⟨u, rfl, hx, hu⟩; obtain ⟨s8, rfl, hs8⟩ := hu; have o8 := (hx.block _ (lt_of_obj HOA7.out)).trans HOA7.out; have hst := gr_stores o8 (.int .i64 no) s8; obtain ⟨w8, hw8⟩ : ∃ W, (v8.setCell ⟨bA, 0, none⟩ (.int .i64 no)).setCell ⟨bA, 1, none⟩ s8 = W := ⟨_, rfl⟩; rw [hw8] at hst; have e0 : v8.cell? ⟨bA, 0, none⟩ = some _ := cell_of_row _ _ _ _ _ _ o8; have e1 : v8.cell? ⟨bA, 1, none⟩ = some _ := cell_of_row _ _ _ _ _ _ o8; have f0 := frozen_obj o8 0; have f1 := frozen_obj o8 1; have hl8 := lt_of_obj o8; have HB8 := hid ((HB7.out.trans (hx.mono HB7.out.size)).trans (hst.2.below (Nat.le_trans HB7.out.size hx.size) (fun j _ e => by rw [e]; exact HLTA.out))); have HOA8 := hid hst.1; have HOB8 := hid (hst.2.obj _ _ ((hx.block _ (lt_of_obj HOB7.out)).trans HOB7.out) (fun e => by have h := HNAB.out; omega)); have HSA8 := hid (hs8.keeps hst.2 (fun j o hj _ e => by have h := (hs8.own j hj).1; have h2 := lt_of_obj HOA7.out; omega)); obtain ⟨a8, l8, k8, rfl⟩ := shape2 hs8; have y0A8 : w8.cell? ⟨bA, 0, none⟩ = some _ := cell_of_row _ _ _ _ _ _ HOA8.out; have y1A8 : w8.cell? ⟨bA, 1, none⟩ = some _ := cell_of_row _ _ _ _ _ _ HOA8.out; have ylA8 := lt_of_obj HOA8.out; have y0B8 : w8.cell? ⟨bB, 0, none⟩ = some _ := cell_of_row _ _ _ _ _ _ HOB8.out; have y1B8 : w8.cell? ⟨bB, 1, none⟩ = some _ := cell_of_row _ _ _ _ _ _ HOB8.out; have ylB8 := lt_of_obj HOB8.out; have HLXA := hid (show bB < w7.heap.size from lt_of_obj HOB7.out); obtain ⟨hgu8, cp8, cq8, hz8⟩ := HUP.out w8 HB8.out; have HG8 := hid hgu8; clear hx hst hs8 hgu8 o8)
      | (go_at_call 50; (with_reducible refine (H50.out _ HG8.out).mono ?_); rintro e v9 ⟨u, rfl, hx, hu⟩; obtain ⟨s9, rfl, hs9⟩ := hu; have o9 := (hx.block _ (lt_of_obj HOB8.out)).trans HOB8.out; have hst := gr_stores o9 (.int .i64 no) s9; obtain ⟨w9, hw9⟩ : ∃ W, (v9.setCell ⟨bB, 0, none⟩ (.int .i64 no)).setCell ⟨bB, 1, none⟩ s9 = W := ⟨_, rfl⟩; rw [hw9] at hst; have e0 : v9.cell? ⟨bB, 0, none⟩ = some _ := cell_of_row _ _ _ _ _ _ o9; have e1 : v9.cell? ⟨bB, 1, none⟩ = some _ := cell_of_row _ _ _ _ _ _ o9; have f0 := frozen_obj o9 0; have f1 := frozen_obj o9 1; have hl9 := lt_of_obj o9; have HB9 := hid ((HB8.out.trans (hx.mono HB8.out.size)).trans (hst.2.below (Nat.le_trans HB8.out.size hx.size) (fun j _ e => by rw [e]; exact HLTB.out))); have HOB9 := hid hst.1; have HOA9 := hid (hst.2.obj _ _ ((hx.block _ (lt_of_obj HOA8.out)).trans HOA8.out) (fun e => by have h := HNAB.out; omega)); have HSB9 := hid (hs9.keeps hst.2 (fun j o hj _ e => by have h := (hs9.own j hj).1; have h2 := lt_of_obj HOB8.out; omega)); have HSA9 := hid ((HSA8.out.grew hx).keeps hst.2 (fun j o hj _ e => by have h := ((HSA8.out.grew hx).own j hj).1; have h2 := HLXA.out; omega)); obtain ⟨a9, l9, k9, rfl⟩ := shape2 hs9; have y0B9 : w9.cell? ⟨bB, 0, none⟩ = some _ := cell_of_row _ _ _ _ _ _ HOB9.out; have y1B9 : w9.cell? ⟨bB, 1, none⟩ = some _ := cell_of_row _ _ _ _ _ _ HOB9.out; have ylB9 := lt_of_obj HOB9.out; have y0A9 : w9.cell? ⟨bA, 0, none⟩ = some _ := cell_of_row _ _ _ _ _ _ HOA9.out; have y1A9 : w9.cell? ⟨bA, 1, none⟩ = some _ := cell_of_row _ _ _ _ _ _ HOA9.out; have ylA9 := lt_of_obj HOA9.out; have HLXB := hid (show bA < w8.heap.size from lt_of_obj HOA8.out); obtain ⟨hgu9, cp9, cq9, hz9⟩ := HUP.out w9 HB9.out; have HG9 := hid hgu9; clear hx hst hs9 hgu9 o9)
      | (go_at_call 38; (with_reducible refine (HSO.out _ _ _ (isGr_mk' HSA9.out rfl) (isGr_mk' HSB9.out rfl)).mono ?_); rintro e w10 ⟨rfl, hx⟩; have HB10 := hid (HB9.out.trans (hx.mono HB9.out.size)); have HOA10 := hid ((hx.block _ (lt_of_obj HOA9.out)).trans HOA9.out); have HOB10 := hid ((hx.block _ (lt_of_obj HOB9.out)).trans HOB9.out); obtain ⟨hgu10, cp10, cq10, hz10⟩ := HUP.out w10 HB10.out; have HG10 := hid hgu10; clear hx hgu10)
      | (go_at_call 17; (with_reducible refine (HAW.out _).mono ?_); rintro e w11 ⟨rfl, hx⟩; have HX11 := hid (grew_trans HG10.out hx); clear hx))
    go_ret
    exact ⟨rfl, HX11.out⟩
end Go.Proofs.Ytojkohpniokaaaa
