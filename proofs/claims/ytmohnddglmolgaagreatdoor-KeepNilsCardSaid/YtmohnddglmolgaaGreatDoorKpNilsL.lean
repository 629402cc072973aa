/- Law: KeepNils (9). -/
import Derived.Test.YtmohnddglmolgaaGreatDoorKpNil
import Derived.Test.YtmohnddglmolgaaGreatDoorKpStepV
namespace Go.Proofs.YtmohnddglmolgaaGreatDoor
open Go Go.RowKit Go.Lin Go.Lin.Kp

set_option maxHeartbeats 8000000 in
set_option maxRecDepth 20000 in
theorem nils9_any (v : Value) (x : StepV) (w : World) (hv : IsStep w v x) (hL : Lay w) :
    Calls Tryz.prog 9 #[v] w fun e w' => e = .returned (.bool true) ∧ Grew w w' := by
  have HSANE := hid (fun (W : World) (h : Grew w W) => sane12_any W (hL.grew h))
  have HV := hid hv
  obtain ⟨c, rfl, hc, -⟩ := hv
  obtain ⟨W0, hW0, g0, k0, k1, k2, k3, k4, hz0⟩ := box5 w (.int .u8 x.what) (.int .i64 x.a) (.int .i64 x.b) c (.string x.text) 68
  have HLG := hid (fun (W : World) (h : Grew w W) => long33_any _ x W (HV.out.grew h))
  have HC := hid hc
  obtain ⟨ca, cc, rfl, -⟩ := id hc
  have HG0 := hid g0
  clear hc hL g0
  go_enter Tryz.func9, Tryz.ntmps9
  go_wp2_with (go_at_call 33; (with_reducible refine (HLG.out _ HG0.out).mono ?_); rintro e w1 ⟨r, rfl, hr, hg⟩; have HG1 := hid hg; have e0 := (hg.cell (p := ⟨w.heap.size, 0, none⟩) hz0).trans k0; have e1 := (hg.cell (p := ⟨w.heap.size, 1, none⟩) hz0).trans k1; have e2 := (hg.cell (p := ⟨w.heap.size, 2, none⟩) hz0).trans k2; have e3 := (hg.cell (p := ⟨w.heap.size, 3, none⟩) hz0).trans k3; have e4 := (hg.cell (p := ⟨w.heap.size, 4, none⟩) hz0).trans k4; clear hg hr; cases r)
  rotate_left
  · go_wp2_with (go_at_call 12; (with_reducible refine (HSANE.out _ (grew_trans HG0.out HG1.out)).mono ?_); rintro e w2 ⟨rfl, hg⟩; have HG2 := hid (grew_trans (grew_trans HG0.out HG1.out) hg); clear hg)
    go_ret
    exact ⟨rfl, HG2.out⟩
  have HNEW := hid (fun W => new17_any W)
  go_wp2_with (go_at_call 17; (with_reducible refine (HNEW.out _).mono ?_); rintro e w2 ⟨rfl, hm2, hg2⟩; have HM2 := hid hm2; have HG2 := hid (grew_trans HG1.out hg2); have HW12 := hid hg2; obtain ⟨w3, hw3, g3, ho3, hz3⟩ := block_made w2 Tryz.zeroCells89 89; obtain ⟨w4, hw4, g4, m0, m1, hz4⟩ := box2 w3 (.pointer none) (ptr w2.heap.size) 35; have HO3 := hid ho3; have G4 := hid (grew_trans g3 g4); have G3 := hid g4; clear hm2 hg2 ho3 g3 g4 hz3)
  have HG4 := hid (grew_trans HG2.out G4.out)
  have HN0 := hid (noM_nil w4)
  have HN1 := hid (noM_zero (w := w4) (b := w2.heap.size) (by
    have h := cell_of_row w3 w2.heap.size 0 _ _ _ HO3.out
    rw [show Tryz.zeroCells89[0]? = some (.bool false) by kernel_rfl] at h
    exact (G3.out.cell (p := ⟨w2.heap.size, 0, none⟩) (World.block_lt_of_cell? _ _ h)).trans h))
  have HSM := hid (fun (W : World) (h : Grew w4 W) => none57_mem (w1.heap.size + 1) Mem.new _ W (HM2.out.grew (grew_trans G4.out h)))
  have h04 : w.heap.size < w1.heap.size := Nat.lt_of_lt_of_le hz0 HG1.out.size
  have HG24 := hid (grew_trans HW12.out G4.out)
  have HMAIN : ∀ (a : Option Addr) (W : World), Grew w4 W → NoM w4 (.pointer a) → NoM W (.pointer a) := fun a W h hn => hn.grew h
  have HMAIN := hid HMAIN
  clear HM2 HNEW
  go_loopg [5, 6, 7, 8, 9, 10, 11, 12, 35, 42, 49] 2 (fun gk iv _ _ _ _ _ _ _ _ _ _ wr => ∃ (j : Nat), j ≤ 2 ∧ iv = .int .i64 (j : Int) ∧ Hid (gk = 2 - j) ∧ Hid (Grew w4 wr))
  case atStart => exact ⟨0, by omega, rfl, hid rfl, hid (grew_refl _)⟩
  case round =>
    obtain ⟨j, hj, rfl, HGK, HG⟩ := hrel
    rename World => wr
    have hg1 := grew_trans HG24.out HG.out
    have f0 := (hg1.cell (p := ⟨w.heap.size, 0, none⟩) h04).trans e0
    have f1 := (hg1.cell (p := ⟨w.heap.size, 1, none⟩) h04).trans e1
    have f2 := (hg1.cell (p := ⟨w.heap.size, 2, none⟩) h04).trans e2
    have f3 := (hg1.cell (p := ⟨w.heap.size, 3, none⟩) h04).trans e3
    have f4 := (hg1.cell (p := ⟨w.heap.size, 4, none⟩) h04).trans e4
    have p0 := (HG.out.cell (p := ⟨w3.heap.size, 0, none⟩) (World.block_lt_of_cell? _ _ m0)).trans m0
    have p1 := (HG.out.cell (p := ⟨w3.heap.size, 1, none⟩) (World.block_lt_of_cell? _ _ m1)).trans m1
    have HGA := hid (grew_trans (grew_trans HG0.out HG4.out) HG.out)
    have HB := hid (bcell hg1)
    clear hg1
    rcases (show j = 0 ∨ j = 1 ∨ j = 2 by omega) with rfl | rfl | rfl
    · clear HB
      have NV := hid (fun (W : World) (h : Grew w4 W) => HN0.out.grew h)
      have H39 := hid (fun (W : World) (h : Grew w4 W) => read39_none (.pointer none) x.a W (fun r => asked53_none _ r W (NV.out W h).now))
      have H40 := hid (fun (W : World) (h : Grew w4 W) => kept40_none (.pointer none) x.a W (NV.out W h).now)
      have H41 := hid (fun (W : World) (h : Grew w4 W) => open41_none (.pointer none) W (NV.out W h).now)
      have H28 := hid (fun (W : World) (h : Grew w4 W) => write28_none none x.a x.b W (NV.out W h))
      have H42 := hid (fun (W : World) (h : Grew w4 W) => flush42_none none x.a W (NV.out W h))
      have H43 := hid (fun (W : World) (h : Grew w4 W) => fence43_noM none W (NV.out W h))
      have H20 := hid (fun (W : World) (h : Grew w4 W) => fail20_none (.pointer none) (.slice ca x.cells.length cc) x.a x.cells W (NV.out W h) (Reads.grew HC.out (grew_trans (grew_trans HG0.out HG4.out) h)))
      have H30 := hid (fun (W : World) (h : Grew w4 W) => crash30_none (.pointer none) (.slice ca x.cells.length cc) x.cells W (NV.out W h) (Reads.grew HC.out (grew_trans (grew_trans HG0.out HG4.out) h)))
      have H26 := hid (fun (W : World) (h : Grew w4 W) => start26_none (.pointer none) W (NV.out W h).now)
      have H25 := hid (fun (W : World) (h : Grew w4 W) => power25_none (.pointer none) W (NV.out W h).now)
      have H27 := hid (fun (W : World) (h : Grew w4 W) => steps27_none (.pointer none) W (NV.out W h).now)
      have H29 := hid (fun (W : World) (h : Grew w4 W) => copy29_none (.pointer none) W (NV.out W h).now)
      have HS1 := hid (fun (W : World) (h : Grew w4 W) => same35_none1 (.pointer none) (ptr (w1.heap.size + 1)) false W (NV.out W h).now (HSM.out W h))
      have HS2 := hid (fun (W : World) (h : Grew w4 W) => same35_none2 (ptr (w1.heap.size + 1)) (.pointer none) W (HSM.out W h) (NV.out W h).now)
      have HS3 := hid (fun (W : World) (h : Grew w4 W) => same35_none1 (.pointer none) (.pointer none) true W (NV.out W h).now (none57_nil W))
      go_wp2_with (first
        | (go_at_call 39; (with_reducible refine (H39.out _ HG.out).mono ?_); rintro e w5 ⟨rfl, rfl⟩)
        | (go_at_call 40; (with_reducible refine (H40.out _ HG.out).mono ?_); rintro e w5 ⟨rfl, rfl⟩)
        | (go_at_call 41; (with_reducible refine (H41.out _ HG.out).mono ?_); rintro e w5 ⟨rfl, rfl⟩)
        | (go_at_call 28; (with_reducible refine (H28.out _ HG.out).mono ?_); rintro e w5 ⟨rfl, hg5⟩; have HG5 := hid (grew_trans HG.out hg5); have f15 := (hg5.cell (p := ⟨w.heap.size, 1, none⟩) (World.block_lt_of_cell? _ _ f1)).trans f1; have f25 := (hg5.cell (p := ⟨w.heap.size, 2, none⟩) (World.block_lt_of_cell? _ _ f2)).trans f2; have f35 := (hg5.cell (p := ⟨w.heap.size, 3, none⟩) (World.block_lt_of_cell? _ _ f3)).trans f3; have f45 := (hg5.cell (p := ⟨w.heap.size, 4, none⟩) (World.block_lt_of_cell? _ _ f4)).trans f4; clear hg5)
        | (go_at_call 42; (with_reducible refine (H42.out _ HG5.out).mono ?_); rintro e w6 ⟨rfl, hg6⟩; have HG6 := hid (grew_trans HG5.out hg6); have f16 := (hg6.cell (p := ⟨w.heap.size, 1, none⟩) (World.block_lt_of_cell? _ _ f15)).trans f15; have f26 := (hg6.cell (p := ⟨w.heap.size, 2, none⟩) (World.block_lt_of_cell? _ _ f25)).trans f25; have f36 := (hg6.cell (p := ⟨w.heap.size, 3, none⟩) (World.block_lt_of_cell? _ _ f35)).trans f35; have f46 := (hg6.cell (p := ⟨w.heap.size, 4, none⟩) (World.block_lt_of_cell? _ _ f45)).trans f45; clear hg6)
        | (go_at_call 43; (with_reducible refine (H43.out _ HG6.out).mono ?_); rintro e w7 ⟨rfl, hg7⟩; have HG7 := hid (grew_trans HG6.out hg7); have f17 := (hg7.cell (p := ⟨w.heap.size, 1, none⟩) (World.block_lt_of_cell? _ _ f16)).trans f16; have f27 := (hg7.cell (p := ⟨w.heap.size, 2, none⟩) (World.block_lt_of_cell? _ _ f26)).trans f26; have f37 := (hg7.cell (p := ⟨w.heap.size, 3, none⟩) (World.block_lt_of_cell? _ _ f36)).trans f36; have f47 := (hg7.cell (p := ⟨w.heap.size, 4, none⟩) (World.block_lt_of_cell? _ _ f46)).trans f46; clear hg7)
        | (go_at_call 20; (with_reducible refine (H20.out _ HG7.out).mono ?_); rintro e w8 ⟨rfl, rfl⟩)
        | (go_at_call 30; (with_reducible refine (H30.out _ HG7.out).mono ?_); rintro e w8 ⟨rfl, rfl⟩)
        | (go_at_call 26; (with_reducible refine (H26.out _ HG7.out).mono ?_); rintro e w8 ⟨rfl, rfl⟩)
        | (go_at_call 25; (with_reducible refine (H25.out _ HG7.out).mono ?_); rintro e w8 ⟨rfl, rfl⟩)
        | (go_at_call 27; (with_reducible refine (H27.out _ HG7.out).mono ?_); rintro e w8 ⟨rfl, rfl⟩)
        | (go_at_call 29; (with_reducible refine (H29.out _ HG7.out).mono ?_); rintro e w8 ⟨rfl, rfl⟩)
        | (go_at_call 35; (with_reducible refine (HS1.out _ HG7.out).mono ?_); rintro e w8 ⟨rfl, rfl⟩)
        | (go_at_call 35; (with_reducible refine (HS2.out _ HG7.out).mono ?_); rintro e w8 ⟨rfl, rfl⟩)
        | (go_at_call 35; (with_reducible refine (HS3.out _ HG7.out).mono ?_); rintro e w8 ⟨rfl, rfl⟩))
      go_roundg 1
      case measure => have := HGK.out; omega
      case rel => exact ⟨1, by omega, by go_num, hid rfl, HG7⟩
    · clear HB
      have NV := hid (fun (W : World) (h : Grew w4 W) => HN1.out.grew h)
      have H39 := hid (fun (W : World) (h : Grew w4 W) => read39_none (.pointer (some ⟨w2.heap.size, 0, none⟩)) x.a W (fun r => asked53_none _ r W (NV.out W h).now))
      have H40 := hid (fun (W : World) (h : Grew w4 W) => kept40_none (.pointer (some ⟨w2.heap.size, 0, none⟩)) x.a W (NV.out W h).now)
      have H41 := hid (fun (W : World) (h : Grew w4 W) => open41_none (.pointer (some ⟨w2.heap.size, 0, none⟩)) W (NV.out W h).now)
      have H28 := hid (fun (W : World) (h : Grew w4 W) => write28_none (some ⟨w2.heap.size, 0, none⟩) x.a x.b W (NV.out W h))
      have H42 := hid (fun (W : World) (h : Grew w4 W) => flush42_none (some ⟨w2.heap.size, 0, none⟩) x.a W (NV.out W h))
      have H43 := hid (fun (W : World) (h : Grew w4 W) => fence43_noM (some ⟨w2.heap.size, 0, none⟩) W (NV.out W h))
      have H20 := hid (fun (W : World) (h : Grew w4 W) => fail20_none (.pointer (some ⟨w2.heap.size, 0, none⟩)) (.slice ca x.cells.length cc) x.a x.cells W (NV.out W h) (Reads.grew HC.out (grew_trans (grew_trans HG0.out HG4.out) h)))
      have H30 := hid (fun (W : World) (h : Grew w4 W) => crash30_none (.pointer (some ⟨w2.heap.size, 0, none⟩)) (.slice ca x.cells.length cc) x.cells W (NV.out W h) (Reads.grew HC.out (grew_trans (grew_trans HG0.out HG4.out) h)))
      have H26 := hid (fun (W : World) (h : Grew w4 W) => start26_none (.pointer (some ⟨w2.heap.size, 0, none⟩)) W (NV.out W h).now)
      have H25 := hid (fun (W : World) (h : Grew w4 W) => power25_none (.pointer (some ⟨w2.heap.size, 0, none⟩)) W (NV.out W h).now)
      have H27 := hid (fun (W : World) (h : Grew w4 W) => steps27_none (.pointer (some ⟨w2.heap.size, 0, none⟩)) W (NV.out W h).now)
      have H29 := hid (fun (W : World) (h : Grew w4 W) => copy29_none (.pointer (some ⟨w2.heap.size, 0, none⟩)) W (NV.out W h).now)
      have HS1 := hid (fun (W : World) (h : Grew w4 W) => same35_none1 (.pointer (some ⟨w2.heap.size, 0, none⟩)) (ptr (w1.heap.size + 1)) false W (NV.out W h).now (HSM.out W h))
      have HS2 := hid (fun (W : World) (h : Grew w4 W) => same35_none2 (ptr (w1.heap.size + 1)) (.pointer (some ⟨w2.heap.size, 0, none⟩)) W (HSM.out W h) (NV.out W h).now)
      have HS3 := hid (fun (W : World) (h : Grew w4 W) => same35_none1 (.pointer (some ⟨w2.heap.size, 0, none⟩)) (.pointer none) true W (NV.out W h).now (none57_nil W))
      go_wp2_with (first
        | (go_at_call 39; (with_reducible refine (H39.out _ HG.out).mono ?_); rintro e w5 ⟨rfl, rfl⟩)
        | (go_at_call 40; (with_reducible refine (H40.out _ HG.out).mono ?_); rintro e w5 ⟨rfl, rfl⟩)
        | (go_at_call 41; (with_reducible refine (H41.out _ HG.out).mono ?_); rintro e w5 ⟨rfl, rfl⟩)
        | (go_at_call 28; (with_reducible refine (H28.out _ HG.out).mono ?_); rintro e w5 ⟨rfl, hg5⟩; have HG5 := hid (grew_trans HG.out hg5); have f15 := (hg5.cell (p := ⟨w.heap.size, 1, none⟩) (World.block_lt_of_cell? _ _ f1)).trans f1; have f25 := (hg5.cell (p := ⟨w.heap.size, 2, none⟩) (World.block_lt_of_cell? _ _ f2)).trans f2; have f35 := (hg5.cell (p := ⟨w.heap.size, 3, none⟩) (World.block_lt_of_cell? _ _ f3)).trans f3; have f45 := (hg5.cell (p := ⟨w.heap.size, 4, none⟩) (World.block_lt_of_cell? _ _ f4)).trans f4; clear hg5)
        | (go_at_call 42; (with_reducible refine (H42.out _ HG5.out).mono ?_); rintro e w6 ⟨rfl, hg6⟩; have HG6 := hid (grew_trans HG5.out hg6); have f16 := (hg6.cell (p := ⟨w.heap.size, 1, none⟩) (World.block_lt_of_cell? _ _ f15)).trans f15; have f26 := (hg6.cell (p := ⟨w.heap.size, 2, none⟩) (World.block_lt_of_cell? _ _ f25)).trans f25; have f36 := (hg6.cell (p := ⟨w.heap.size, 3, none⟩) (World.block_lt_of_cell? _ _ f35)).trans f35; have f46 := (hg6.cell (p := ⟨w.heap.size, 4, none⟩) (World.block_lt_of_cell? _ _ f45)).trans f45; clear hg6)
        | (go_at_call 43; (with_reducible refine (H43.out _ HG6.out).mono ?_); rintro e w7 ⟨rfl, hg7⟩; have HG7 := hid (grew_trans HG6.out hg7); have f17 := (hg7.cell (p := ⟨w.heap.size, 1, none⟩) (World.block_lt_of_cell? _ _ f16)).trans f16; have f27 := (hg7.cell (p := ⟨w.heap.size, 2, none⟩) (World.block_lt_of_cell? _ _ f26)).trans f26; have f37 := (hg7.cell (p := ⟨w.heap.size, 3, none⟩) (World.block_lt_of_cell? _ _ f36)).trans f36; have f47 := (hg7.cell (p := ⟨w.heap.size, 4, none⟩) (World.block_lt_of_cell? _ _ f46)).trans f46; clear hg7)
        | (go_at_call 20; (with_reducible refine (H20.out _ HG7.out).mono ?_); rintro e w8 ⟨rfl, rfl⟩)
        | (go_at_call 30; (with_reducible refine (H30.out _ HG7.out).mono ?_); rintro e w8 ⟨rfl, rfl⟩)
        | (go_at_call 26; (with_reducible refine (H26.out _ HG7.out).mono ?_); rintro e w8 ⟨rfl, rfl⟩)
        | (go_at_call 25; (with_reducible refine (H25.out _ HG7.out).mono ?_); rintro e w8 ⟨rfl, rfl⟩)
        | (go_at_call 27; (with_reducible refine (H27.out _ HG7.out).mono ?_); rintro e w8 ⟨rfl, rfl⟩)
        | (go_at_call 29; (with_reducible refine (H29.out _ HG7.out).mono ?_); rintro e w8 ⟨rfl, rfl⟩)
        | (go_at_call 35; (with_reducible refine (HS1.out _ HG7.out).mono ?_); rintro e w8 ⟨rfl, rfl⟩)
        | (go_at_call 35; (with_reducible refine (HS2.out _ HG7.out).mono ?_); rintro e w8 ⟨rfl, rfl⟩)
        | (go_at_call 35; (with_reducible refine (HS3.out _ HG7.out).mono ?_); rintro e w8 ⟨rfl, rfl⟩))
      go_roundg 0
      case measure => have := HGK.out; omega
      case rel => exact ⟨2, by omega, by go_num, hid rfl, HG7⟩
    · clear HB
      clear e0 e1 e2 e3 e4 m0 m1 p0 p1
      obtain ⟨w9, hw9, g9, n0, n1, n2, hz9⟩ := box3 wr (.pointer none) (.int .i64 0) (.slice none 0 0) 96
      obtain ⟨w10, hw10, g10, o0, o1, hz10⟩ := box2 w9 (.pointer none) (ptr wr.heap.size) 37
      have HG10 := hid (grew_trans g9 g10)
      have HB0 := hid (noB_nil w10)
      have HB1 := hid (noB_zero (w := w10) (b := wr.heap.size) ((g10.cell (p := ⟨wr.heap.size, 0, none⟩) (World.block_lt_of_cell? _ _ n0)).trans n0))
      have hz0r : w.heap.size < wr.heap.size := World.block_lt_of_cell? _ _ f0
      clear g9 g10 n0 n1 n2
      go_wp2
      go_loopg [14, 15, 16, 17, 158] 2 (fun gk iv _ _ _ _ wq => ∃ (j : Nat), j ≤ 2 ∧ iv = .int .i64 (j : Int) ∧ Hid (gk = 2 - j) ∧ Hid (Grew w10 wq))
      case atStart => exact ⟨0, by omega, rfl, hid rfl, hid (grew_refl _)⟩
      case round =>
        obtain ⟨j, hj, rfl, HGK2, HGB⟩ := hrel
        rename World => wq
        have hg1 := grew_trans HG10.out HGB.out
        have t1 := (hg1.cell (p := ⟨w.heap.size, 1, none⟩) hz0r).trans f1
        have t2 := (hg1.cell (p := ⟨w.heap.size, 2, none⟩) hz0r).trans f2
        have t4 := (hg1.cell (p := ⟨w.heap.size, 4, none⟩) hz0r).trans f4
        have p0 := (HGB.out.cell (p := ⟨w9.heap.size, 0, none⟩) (World.block_lt_of_cell? _ _ o0)).trans o0
        have p1 := (HGB.out.cell (p := ⟨w9.heap.size, 1, none⟩) (World.block_lt_of_cell? _ _ o1)).trans o1
        have HGZ := hid (grew_trans HGA.out hg1)
        clear hg1
        rcases (show j = 0 ∨ j = 1 ∨ j = 2 by omega) with rfl | rfl | rfl
        · skip
          have NV := hid (fun (W : World) (h : Grew w10 W) => HB0.out.grew h)
          have H44 := hid (fun (W : World) (h : Grew w10 W) => ask44_none (.pointer none) x.text W (NV.out W h).now)
          have H19 := hid (fun (W : World) (h : Grew w10 W) => entries19_none (.pointer none) W (NV.out W h).now)
          have H31 := hid (fun (W : World) (h : Grew w10 W) => add31_none (.pointer none) x.b W (NV.out W h).now)
          have H32 := hid (fun (W : World) (h : Grew w10 W) => change32_none (.pointer none) x.a x.b W (NV.out W h).now)
          go_wp2_with (first
            | (go_at_call 44; (with_reducible refine (H44.out _ HGB.out).mono ?_); rintro e w5 ⟨rfl, rfl⟩)
            | (go_at_call 19; (with_reducible refine (H19.out _ HGB.out).mono ?_); rintro e w5 ⟨rfl, rfl⟩)
            | (go_at_call 31; (with_reducible refine (H31.out _ HGB.out).mono ?_); rintro e w5 ⟨rfl, rfl⟩)
            | (go_at_call 32; (with_reducible refine (H32.out _ HGB.out).mono ?_); rintro e w5 ⟨rfl, rfl⟩))
          go_roundg 1
          case measure => have := HGK2.out; omega
          case rel => exact ⟨1, by omega, by go_num, hid rfl, HGB⟩
        · skip
          have NV := hid (fun (W : World) (h : Grew w10 W) => HB1.out.grew h)
          have H44 := hid (fun (W : World) (h : Grew w10 W) => ask44_none (.pointer (some ⟨wr.heap.size, 0, none⟩)) x.text W (NV.out W h).now)
          have H19 := hid (fun (W : World) (h : Grew w10 W) => entries19_none (.pointer (some ⟨wr.heap.size, 0, none⟩)) W (NV.out W h).now)
          have H31 := hid (fun (W : World) (h : Grew w10 W) => add31_none (.pointer (some ⟨wr.heap.size, 0, none⟩)) x.b W (NV.out W h).now)
          have H32 := hid (fun (W : World) (h : Grew w10 W) => change32_none (.pointer (some ⟨wr.heap.size, 0, none⟩)) x.a x.b W (NV.out W h).now)
          go_wp2_with (first
            | (go_at_call 44; (with_reducible refine (H44.out _ HGB.out).mono ?_); rintro e w5 ⟨rfl, rfl⟩)
            | (go_at_call 19; (with_reducible refine (H19.out _ HGB.out).mono ?_); rintro e w5 ⟨rfl, rfl⟩)
            | (go_at_call 31; (with_reducible refine (H31.out _ HGB.out).mono ?_); rintro e w5 ⟨rfl, rfl⟩)
            | (go_at_call 32; (with_reducible refine (H32.out _ HGB.out).mono ?_); rintro e w5 ⟨rfl, rfl⟩))
          go_roundg 0
          case measure => have := HGK2.out; omega
          case rel => exact ⟨2, by omega, by go_num, hid rfl, HGB⟩
        · go_wp2_with (go_at_call 12; (with_reducible refine (HSANE.out _ HGZ.out).mono ?_); rintro e w11 ⟨rfl, hg⟩; have HGF := hid (grew_trans HGZ.out hg); clear hg)
          go_ret
          exact ⟨rfl, HGF.out⟩

end Go.Proofs.YtmohnddglmolgaaGreatDoor
