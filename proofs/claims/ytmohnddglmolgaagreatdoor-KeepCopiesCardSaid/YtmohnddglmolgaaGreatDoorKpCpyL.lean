/- Law: KeepCopies (7). -/
import Derived.Test.YtmohnddglmolgaaGreatDoorKpTwo
import Derived.Test.YtmohnddglmolgaaGreatDoorKpSameM
import Derived.Test.YtmohnddglmolgaaGreatDoorKpAonA
import Derived.Deep.RegionLaw
namespace Go.Proofs.YtmohnddglmolgaaGreatDoor
open Go Go.RowKit Go.Lin Go.Lin.Kp

theorem stepM_size {A : Bk → List UInt8 → List UInt8 × Int} {D : Ds} {what : Nat} {a n : Int} {cells : List Int} {text : List UInt8} {r : (List UInt8 × Int) × Ds} (h : stepM A D what a n cells text = r) : r.2.M.size ≤ D.M.size + 14 := by
  subst h; exact size_stepM D what a n cells text
theorem stepM_ok {A : Bk → List UInt8 → List UInt8 × Int} {D : Ds} (hd : DsOk D) {what : Nat} {a n : Int} {cells : List Int} {text : List UInt8} {r : (List UInt8 × Int) × Ds} (h : stepM A D what a n cells text = r) : DsOk r.2 := by
  subst h; exact dsOk_step hd what a n cells text
theorem stepM_still {A : Bk → List UInt8 → List UInt8 × Int} {D : Ds} (hd : DsOk D) {what : Nat} {a n : Int} {cells : List Int} {text : List UInt8} {r : (List UInt8 × Int) × Ds} (h : stepM A D what a n cells text = r) (hc : 9 ≤ what ∨ (r.1.2 ≠ 0 ∧ r.1.2 ≠ 101 ∧ what ≠ 6)) : r.2.M = D.M := by
  subst h; exact step_still D hd what a n cells text hc

theorem dsOk_new : DsOk ⟨Mem.new, none⟩ := ⟨Ok.new, fun _ h => by cases h⟩

set_option maxHeartbeats 40000000 in
set_option maxRecDepth 20000 in
theorem copies7_any (sv mv : Value) (ss ms : List StepV) (w : World) (hs : IsSteps w sv ss) (hm : IsSteps w mv ms) (hL : Lay w) :
    Calls Tryz.prog 7 #[sv, mv] w fun e w' => e = .returned (.bool true) ∧ Grew w w' := by
  have HSANE := hid (fun (W : World) (h : Grew w W) => sane12_any W (hL.grew h))
  have HLAY := hid (fun (W : World) (h : Grew w W) => hL.grew h)
  obtain ⟨sa, sc, rfl, hsm, hsc⟩ := hs
  obtain ⟨ma, mc, rfl, hmm, hmc⟩ := hm
  have HSC := hid hsc; have HMC := hid hmc
  obtain ⟨n, hnn⟩ : ∃ n, ss.length = n := ⟨_, rfl⟩
  obtain ⟨m, hnm⟩ : ∃ n, ms.length = n := ⟨_, rfl⟩
  have HN := hid hnn; have HM := hid hnm
  rw [hnn] at hsm ⊢
  rw [hnm] at hmm ⊢
  clear hsc hmc hL hnn hnm
  have HNEW := hid (fun W => new17_any W)
  by_cases hn40 : 40 < n
  · have d1 : decide ((40 : Int) < (n : Int)) = true := by simp; omega
    clear hn40
    go_enter Tryz.func7, Tryz.ntmps7
    go_wp2_with (go_at_call 12; (with_reducible refine (HSANE.out _ (grew_refl _)).mono ?_); rintro e w2 ⟨rfl, hg⟩; have HG2 := hid hg; clear hg)
    go_ret
    exact ⟨rfl, HG2.out⟩
  have d1 : decide ((40 : Int) < (n : Int)) = false := by simp; omega
  by_cases hm40 : 40 < m
  · have d2 : decide ((40 : Int) < (m : Int)) = true := by simp; omega
    clear hn40 hm40
    go_enter Tryz.func7, Tryz.ntmps7
    go_wp2_with (go_at_call 12; (with_reducible refine (HSANE.out _ (grew_refl _)).mono ?_); rintro e w2 ⟨rfl, hg⟩; have HG2 := hid hg; clear hg)
    go_ret
    exact ⟨rfl, HG2.out⟩
  have d2 : decide ((40 : Int) < (m : Int)) = false := by simp; omega
  replace hn40 : n ≤ 40 := by omega
  replace hm40 : m ≤ 40 := by omega
  go_enter Tryz.func7, Tryz.ntmps7
  go_wp2_with (go_at_call 17; (with_reducible refine (HNEW.out _).mono ?_); rintro e w2 ⟨rfl, hm1, hg1⟩; obtain ⟨WD, hWD, gD, oD, sD⟩ := block_new w2 #[ptr (w.heap.size + 1), .pointer none] 65; have HM1 := hid hm1; have HG2 := hid hg1; have HWD := hid (And.intro gD (And.intro oD sD)); clear hm1 hg1 gD oD sD)
  have hP0 : DkL w WD w2.heap.size (w.heap.size + 1) (.pointer none) ⟨Mem.new, none⟩ (fun k => k = w.heap.size ∨ k = w.heap.size + 1) (fun _ => False) := by
    have h1s := HG2.out.size
    have hm1 := HM1.out.lt
    refine ⟨grew_trans HG2.out HWD.out.1, ⟨HWD.out.2.1, HM1.out.grew HWD.out.1, rfl, fun _ _ h => h, ?_, fun h => h, fun _ h => h.elim⟩, ?_⟩
    · rintro (e | e) <;> omega
    · rintro k ((e | e) | e | e) <;> first | omega | exact e.elim
  have HP0 := hid hP0
  obtain ⟨F0, hF⟩ : ∃ F : Nat → Prop, (fun k => k = w.heap.size ∨ k = w.heap.size + 1) = F := ⟨_, rfl⟩
  obtain ⟨G0, hG⟩ : ∃ F : Nat → Prop, (fun _ : Nat => False) = F := ⟨_, rfl⟩
  obtain ⟨bm, hbm⟩ : ∃ x, w.heap.size + 1 = x := ⟨_, rfl⟩
  obtain ⟨bd, hbd⟩ : ∃ x, w2.heap.size = x := ⟨_, rfl⟩
  rw [hF, hG, hbm, hbd] at HP0
  (try rw [hbd])
  clear hP0 hF hG hbm hbd HM1 HG2 HWD HNEW hWD
  go_loopg [6, 7, 8, 9, 47] n (fun gk iv _ _ _ _ wr => ∃ (j : Nat) (bv : Value) (D : Ds) (F G : Nat → Prop), j ≤ n ∧ iv = .int .i64 (j : Int) ∧ Hid (gk = n - j) ∧ Hid (D.M.size ≤ 1 + 14 * j) ∧ Hid (DsOk D) ∧ Hid (DkL w wr bd bm bv D F G))
  case atStart => exact ⟨0, .pointer none, ⟨Mem.new, none⟩, F0, G0, Nat.zero_le _, rfl, hid rfl, hid (by decide), hid dsOk_new, HP0⟩
  case round =>
    clear HP0
    obtain ⟨j, bv, D, F, G, hj, rfl, HGK, HSZ, HOK, HP⟩ := hrel
    rename World => wr
    by_cases hlt : j < n
    · have HWW := hid (fun (W : World) (h : DkL w W bd bm bv D F G) => copy29_mem bm D.M F W h.desk.mem HOK.out.M)
      have hjl : j < ss.length := by rw [HN.out]; exact hlt
      obtain ⟨x, hx⟩ : ∃ x, ss[j]? = some x := ⟨_, List.getElem?_eq_getElem hjl⟩
      obtain ⟨b1, off, rfl, hbl, hst⟩ := HSC.out j x hx
      obtain ⟨wh, a, b, cl, tx⟩ := x
      obtain ⟨c, hc3, hcc⟩ := hst.cells
      obtain ⟨ca, cc, rfl, -⟩ := id hcc
      have hc0 := hst.c0; have hc1 := hst.c1; have hc2 := hst.c2; have hc4 := hst.c4
      simp only at hc0 hc1 hc2 hc3 hc4
      have HCC := hid hcc; have HB0 := hid hst.b0
      have HY := hid (fun (W : World) (h : Grew w W) => (⟨(h.cell (p := ⟨b1, off + j * 5, none⟩) hbl).trans hc0, (h.cell (p := ⟨b1, off + j * 5 + 1, none⟩) hbl).trans hc1, (h.cell (p := ⟨b1, off + j * 5 + 2, none⟩) hbl).trans hc2, (h.cell (p := ⟨b1, off + j * 5 + 3, none⟩) hbl).trans hc3, (h.cell (p := ⟨b1, off + j * 5 + 4, none⟩) hbl).trans hc4⟩ : W.cell? ⟨b1, off + j * 5, none⟩ = some (.int .u8 wh) ∧ W.cell? ⟨b1, off + j * 5 + 1, none⟩ = some (.int .i64 a) ∧ W.cell? ⟨b1, off + j * 5 + 2, none⟩ = some (.int .i64 b) ∧ W.cell? ⟨b1, off + j * 5 + 3, none⟩ = some (.slice ca cl.length cc) ∧ W.cell? ⟨b1, off + j * 5 + 4, none⟩ = some (.string tx)))
      obtain ⟨t, ht⟩ : ∃ t, wh.tmod 10 = t := ⟨_, rfl⟩
      obtain ⟨rr, hrr⟩ : ∃ r, stepM askA D t.toNat a b cl tx.data.toList = r := ⟨_, rfl⟩
      have hsz' := stepM_size hrr
      have hok' := stepM_ok HOK.out hrr
      have HST := hid (fun hc => stepM_still HOK.out hrr hc)
      have HDO := hid (fun (V W : World) (bd bm : Nat) (bv : Value) (F G : Nat → Prop) (hV : Grew w V) (h : DkL V W bd bm bv D F G) (hts : tx.size ≤ 300) => (by
        have := step34_any askA askOk bd bm bv (.agg #[.int .u8 wh, .int .i64 a, .int .i64 b, .slice ca cl.length cc, .string tx]) D F G ⟨wh, a, b, cl, tx⟩ W h.desk (stepS HCC.out HB0.out (grew_trans hV h.grew) (Nat.le_trans hV.size (h.new bm (.inl (by obtain ⟨_, _, hm⟩ := h.desk.mem; exact hm.inM))))) HOK.out (by have := HSZ.out; omega) (HLAY.out W (grew_trans hV h.grew)) (by show tx.size ≤ 10000; omega)
        rw [show (StepV.what ⟨wh, a, b, cl, tx⟩).tmod 10 = t from ht] at this
        rw [show stepM askA D t.toNat (StepV.a ⟨wh, a, b, cl, tx⟩) (StepV.b ⟨wh, a, b, cl, tx⟩) (StepV.cells ⟨wh, a, b, cl, tx⟩) (StepV.text ⟨wh, a, b, cl, tx⟩).data.toList = rr from hrr] at this
        exact this : Calls Tryz.prog 34 #[ptr bd, .agg #[.int .u8 wh, .int .i64 a, .int .i64 b, .slice ca cl.length cc, .string tx]] W (StepLeft W bd bm F G rr)))
      have HLONG := hid (fun (W : World) (h : Grew w W) => long33_any (.agg #[.int .u8 wh, .int .i64 a, .int .i64 b, .slice ca cl.length cc, .string tx]) ⟨wh, a, b, cl, tx⟩ W ⟨.slice ca cl.length cc, rfl, (Reads.grew HCC.out h).any, HB0.out⟩)
      obtain ⟨⟨sx, er⟩, D'⟩ := rr
      simp only at hsz' hok'
      have HSZ' := hid (show D'.M.size ≤ 1 + 14 * (j + 1 + 0) by have := HSZ.out; omega)
      have HOK' := hid hok'
      clear hx hbl hst hc0 hc1 hc2 hc3 hc4 hcc hrr hsz' hok' hjl
      obtain ⟨y0, y1, y2, y3, y4⟩ := HY.out wr HP.out.grew
      go_wp2_with (go_at_call 33; (with_reducible refine (HLONG.out _ HP.out.grew).mono ?_); rintro e w4 ⟨r4, rfl, hr4, hg4⟩; have HP4 := hid (HP.out.grown hg4); have HR4 := hid hr4; have d4 := cell_of_row w4 bd 0 _ _ _ HP4.out.desk.obj; simp only [List.getElem?_toArray, List.getElem?_cons_zero] at d4; clear hr4 hg4; cases r4)
      rotate_left
      · go_wp2_with (go_at_call 12; (with_reducible refine (HSANE.out _ HP4.out.grew).mono ?_); rintro e w5 ⟨rfl, hg⟩; have HG5 := hid (grew_trans HP4.out.grew hg); clear hg)
        go_ret
        exact ⟨rfl, HG5.out⟩
      have hnl := HR4.out.out (by first | rfl | trivial)
      have HTX := hid hnl.2
      clear y0 y1 y2 y3 y4 hnl
      go_upto_region 11 with (first
        | (go_at_call 29; (with_reducible refine (HWW.out _ HP4.out).mono ?_); rintro e w5 ⟨bq, Fq, rfl, hm5, hF5, hg5⟩; have HP5 := hid (HP4.out.grown hg5); have HM5 := hid hm5; have HF5 := hid hF5; obtain ⟨u0, u1, u2, u3, u4⟩ := HY.out w5 HP5.out.grew; clear hm5 hF5 hg5)
        | (go_at_call 34; (with_reducible refine (HDO.out w _ bd bm bv F G (grew_refl _) HP5.out HTX.out).mono ?_); rintro e w6 ⟨rfl, hd6, hk6⟩; obtain ⟨bv6, F6, G6, hp6, hF6, hG6⟩ := HP5.out.step hd6 hk6; have HM6 := hid (HM5.out.keeps hk6 (fun k _ hFq e => by have := HF5.out k hFq; have := HP4.out.desk.ltAll k e; omega)); have HP6 := hid hp6; obtain ⟨z0, z1, z2, z3, z4⟩ := HY.out w6 HP6.out.grew; have d6 := cell_of_row w6 bd 0 _ _ _ hp6.desk.obj; simp only [List.getElem?_toArray, List.getElem?_cons_zero] at d6; clear hd6 hk6 hp6 hF6 hG6))
      rcases (show (t = 9 ∨ (t ≠ 9 ∧ er = 0) ∨ (t ≠ 9 ∧ er ≠ 0 ∧ er = 101) ∨ (t ≠ 9 ∧ er ≠ 0 ∧ er ≠ 101 ∧ t = 6) ∨ (t ≠ 9 ∧ er ≠ 0 ∧ er ≠ 101 ∧ t ≠ 6)) by omega) with h9 | ⟨h9, h0⟩ | ⟨h9, h0, h1⟩ | ⟨h9, h0, h1, h6⟩ | ⟨h9, h0, h1, h6⟩
      · have e9 : (t == 9) = true := by rw [beq_iff_eq]; exact h9
        have hst := HST.out (.inl (by omega))
        (try simp only at hst)
        have HSM := hid (fun (W : World) (h : Grew w6 W) => same35_same bm bq D'.M F6 Fq W (HP6.out.desk.mem.grew h) (by rw [hst]; exact HM6.out.grew h))
        clear hst h9
        go_wp2_with (go_at_call 35; (with_reducible refine (HSM.out _ (grew_refl _)).mono ?_); rintro e w7 ⟨rfl, hg7⟩; have HP7 := hid (HP6.out.grown hg7); clear hg7)
        go_roundg (n - (j + 1))
        case measure => have := HGK.out; omega
        case rel => exact ⟨j + 1, bv6, D', F6, G6, by omega, by go_num, hid rfl, HSZ', HOK', HP7⟩
      · have e9 : (t == 9) = false := by rw [beq_eq_false_iff_ne]; exact h9
        have e0 : (er != 0) = false := by rw [h0]; rfl
        clear h9 h0
        go_wp2
        go_roundg (n - (j + 1))
        case measure => have := HGK.out; omega
        case rel => exact ⟨j + 1, bv6, D', F6, G6, by omega, by go_num, hid rfl, HSZ', HOK', HP6⟩
      · have e9 : (t == 9) = false := by rw [beq_eq_false_iff_ne]; exact h9
        have e0 : (er != 0) = true := by rw [bne_iff_ne]; exact h0
        have e1 : (er != 101) = false := by rw [h1]; rfl
        clear h9 h0 h1
        go_wp2
        go_roundg (n - (j + 1))
        case measure => have := HGK.out; omega
        case rel => exact ⟨j + 1, bv6, D', F6, G6, by omega, by go_num, hid rfl, HSZ', HOK', HP6⟩
      · have e9 : (t == 9) = false := by rw [beq_eq_false_iff_ne]; exact h9
        have e0 : (er != 0) = true := by rw [bne_iff_ne]; exact h0
        have e1 : (er != 101) = true := by rw [bne_iff_ne]; exact h1
        have e6 : (t != 6) = false := by rw [h6]; rfl
        clear h9 h0 h1 h6
        go_wp2
        go_roundg (n - (j + 1))
        case measure => have := HGK.out; omega
        case rel => exact ⟨j + 1, bv6, D', F6, G6, by omega, by go_num, hid rfl, HSZ', HOK', HP6⟩
      · have e9 : (t == 9) = false := by rw [beq_eq_false_iff_ne]; exact h9
        have e0 : (er != 0) = true := by rw [bne_iff_ne]; exact h0
        have e1 : (er != 101) = true := by rw [bne_iff_ne]; exact h1
        have e6 : (t != 6) = true := by rw [bne_iff_ne]; exact h6
        have hb0 := HB0.out
        have ht0 : 0 ≤ t := by rw [← ht, Int.tmod_eq_emod_of_nonneg hb0.1]; omega
        have hst := HST.out (.inr ⟨h0, h1, by omega⟩)
        (try simp only at hst)
        have HSM := hid (fun (W : World) (h : Grew w6 W) => same35_same bm bq D'.M F6 Fq W (HP6.out.desk.mem.grew h) (by rw [hst]; exact HM6.out.grew h))
        clear hst h9 h0 h1 h6 hb0 ht0
        go_wp2_with (go_at_call 35; (with_reducible refine (HSM.out _ (grew_refl _)).mono ?_); rintro e w7 ⟨rfl, hg7⟩; have HP7 := hid (HP6.out.grown hg7); clear hg7)
        go_roundg (n - (j + 1))
        case measure => have := HGK.out; omega
        case rel => exact ⟨j + 1, bv6, D', F6, G6, by omega, by go_num, hid rfl, HSZ', HOK', HP7⟩
    · obtain rfl : j = n := by omega
      have HWW := hid (fun (W : World) (h : DkL w W bd bm bv D F G) => copy29_mem bm D.M F W h.desk.mem HOK.out.M)
      have d0 := cell_of_row wr bd 0 _ _ _ HP.out.desk.obj; simp only [List.getElem?_toArray, List.getElem?_cons_zero] at d0
      clear hlt
      go_wp2_with (first
        | (go_at_call 29; (with_reducible refine (HWW.out _ HP.out).mono ?_); rintro e w5 ⟨bq, Fq, rfl, hm5, hF5, hg5⟩; have HP5 := hid (HP.out.grown hg5); have HM5 := hid hm5; have d5 := cell_of_row w5 bd 0 _ _ _ HP5.out.desk.obj; simp only [List.getElem?_toArray, List.getElem?_cons_zero] at d5; clear hm5 hF5 hg5)
        | (go_at_call 29; (with_reducible refine (HWW.out _ HP5.out).mono ?_); rintro e w6 ⟨bc, Fc, rfl, hm6, hF6, hg6⟩; obtain ⟨W7, hW7, g7, o7, s7⟩ := block_new w6 #[ptr bc, .pointer none] 65; have HW7 := hid (And.intro g7 (And.intro o7 s7)); have HG6 := hid hg6; have HM6 := hid hm6; have HF6 := hid hF6; have HP7 := hid ((HP5.out.grown hg6).grown g7); have d7 := cell_of_row W7 bd 0 _ _ _ HP7.out.desk.obj; simp only [List.getElem?_toArray, List.getElem?_cons_zero] at d7; clear hm6 hF6 hg6 g7 o7 s7)
        | (go_at_call 29; (with_reducible refine (HWW.out _ HP7.out).mono ?_); rintro e w8 ⟨bk, Fk, rfl, hm8, hF8, hg8⟩; obtain ⟨W9, hW9, g9, o9, s9⟩ := block_new w8 #[ptr bk, .pointer none] 65; have HW9 := hid (And.intro g9 (And.intro o9 s9)); have HG8 := hid hg8; have HM8 := hid hm8; have HF8 := hid hF8; clear hm8 hF8 hg8 g9 o9 s9))
      have hT : Two w5 W9 w6.heap.size bc (.pointer none) ⟨D.M, none⟩ Fc (fun _ => False) w8.heap.size bk (.pointer none) ⟨D.M, none⟩ Fk (fun _ => False) := by
        obtain ⟨g7, o7, s7⟩ := HW7.out
        obtain ⟨g9, o9, s9⟩ := HW9.out
        have z6 := HG6.out.size
        have z8 := HG8.out.size
        have g79 := grew_trans HG8.out g9
        have l6 := HM6.out.ltF
        have l8 := HM8.out.ltF
        have f6 := HF6.out
        have f8 := HF8.out
        refine ⟨⟨grew_trans (grew_trans HG6.out g7) g79, ⟨(g79.block _ (by omega)).trans o7, HM6.out.grew (grew_trans g7 g79), rfl, fun _ _ h => h, fun e => by have := l6 _ e; omega, fun h => h, fun _ h => h.elim⟩, ?_⟩, ⟨grew_trans (grew_trans HG6.out g7) g79, ⟨o9, HM8.out.grew g9, rfl, fun _ _ h => h, fun e => by have := l8 _ e; omega, fun h => h, fun _ h => h.elim⟩, ?_⟩, ?_⟩
        · rintro k (e | e | e)
          · exact f6 k e
          · exact e.elim
          · omega
        · rintro k (e | e | e)
          · have := f8 k e; omega
          · exact e.elim
          · omega
        · rintro k (e | e | e) (e' | e' | e')
          · have := l6 k e; have := f8 k e'; omega
          · exact e'
          · have := l6 k e; omega
          · exact e
          · exact e
          · exact e
          · have := f8 k e'; omega
          · exact e'
          · omega
      have HT := hid hT
      obtain ⟨Gc, hGc⟩ : ∃ F : Nat → Prop, (fun _ : Nat => False) = F := ⟨_, rfl⟩
      obtain ⟨bdc, hbdc⟩ : ∃ x, w6.heap.size = x := ⟨_, rfl⟩
      obtain ⟨bdk, hbdk⟩ : ∃ x, w8.heap.size = x := ⟨_, rfl⟩
      rw [hGc, hbdc, hbdk] at HT
      (try rw [hbdc]); (try rw [hbdk])
      have HWG := hid (HP5.out.grew)
      have HSM := hid (fun (W : World) (h : Grew w5 W) => same35_same bm bq D.M F Fq W (HP5.out.desk.mem.grew h) (HM5.out.grew h))
      have HS1 := hid (fun (W : World) (h : Grew w5 W) => steps27_mem bm D.M F W (HP5.out.desk.mem.grew h))
      have HS2 := hid (fun (W : World) (h : Grew w5 W) => steps27_mem bq D.M Fq W (HM5.out.grew h))
      have HSN := hid (show (⟨D.M, none⟩ : Ds).M.size ≤ 1 + 14 * (0 + 40) by have := HSZ.out; show D.M.size ≤ _; omega)
      have HON := hid (⟨HOK.out.M, fun _ h => by cases h⟩ : DsOk ⟨D.M, none⟩)
      obtain ⟨D0, hD0⟩ : ∃ D0 : Ds, (⟨D.M, none⟩ : Ds) = D0 := ⟨_, rfl⟩
      rw [hD0] at HT HSN HON
      obtain ⟨sn, hsn⟩ : ∃ s : Int, (D.M.steps : Int) = s := ⟨_, rfl⟩
      rw [hsn] at HS1 HS2
      clear hT hGc hbdc hbdk hD0 hsn HM5 HM6 HF6 HG6 HW7 HM8 HF8 HG8 HW9 HP HP7 HWW hW7 hW9 HSZ HOK
      go_loopg [13, 14, 15, 16, 17, 120, 129] m (fun gk iv _ _ _ _ _ _ wr => ∃ (j : Nat) (bv : Value) (D : Ds) (F G : Nat → Prop) (bv' : Value) (F' G' : Nat → Prop), j ≤ m ∧ iv = .int .i64 (j : Int) ∧ Hid (gk = m - j) ∧ Hid (D.M.size ≤ 1 + 14 * (j + 40)) ∧ Hid (DsOk D) ∧ Hid (Two w5 wr bdc bc bv D F G bdk bk bv' D F' G'))
      case atStart => exact ⟨0, .pointer none, D0, Fc, Gc, .pointer none, Fk, Gc, Nat.zero_le _, rfl, hid rfl, HSN, HON, HT⟩
      case round =>
        clear HT HSN HON
        obtain ⟨j, bvc, D, Fc, Gc, bvk, Fk, Gk, hj, rfl, HGK, HSZ, HOK, HT⟩ := hrel
        rename World => wr
        by_cases hlt : j < m
        · have HGW := hid (grew_trans HWG.out HT.out.a.grew)
          have hjl : j < ms.length := by rw [HM.out]; exact hlt
          obtain ⟨x, hx⟩ : ∃ x, ms[j]? = some x := ⟨_, List.getElem?_eq_getElem hjl⟩
          obtain ⟨b1, off, rfl, hbl, hst⟩ := HMC.out j x hx
          obtain ⟨wh, a, b, cl, tx⟩ := x
          obtain ⟨c, hc3, hcc⟩ := hst.cells
          obtain ⟨ca, cc, rfl, -⟩ := id hcc
          have hc0 := hst.c0; have hc1 := hst.c1; have hc2 := hst.c2; have hc4 := hst.c4
          simp only at hc0 hc1 hc2 hc3 hc4
          have HCC := hid hcc; have HB0 := hid hst.b0
          have HY := hid (fun (W : World) (h : Grew w W) => (⟨(h.cell (p := ⟨b1, off + j * 5, none⟩) hbl).trans hc0, (h.cell (p := ⟨b1, off + j * 5 + 1, none⟩) hbl).trans hc1, (h.cell (p := ⟨b1, off + j * 5 + 2, none⟩) hbl).trans hc2, (h.cell (p := ⟨b1, off + j * 5 + 3, none⟩) hbl).trans hc3, (h.cell (p := ⟨b1, off + j * 5 + 4, none⟩) hbl).trans hc4⟩ : W.cell? ⟨b1, off + j * 5, none⟩ = some (.int .u8 wh) ∧ W.cell? ⟨b1, off + j * 5 + 1, none⟩ = some (.int .i64 a) ∧ W.cell? ⟨b1, off + j * 5 + 2, none⟩ = some (.int .i64 b) ∧ W.cell? ⟨b1, off + j * 5 + 3, none⟩ = some (.slice ca cl.length cc) ∧ W.cell? ⟨b1, off + j * 5 + 4, none⟩ = some (.string tx)))
          obtain ⟨t, ht⟩ : ∃ t, wh.tmod 10 = t := ⟨_, rfl⟩
          obtain ⟨rr, hrr⟩ : ∃ r, stepM askA D t.toNat a b cl tx.data.toList = r := ⟨_, rfl⟩
          have hsz' := stepM_size hrr
          have hok' := stepM_ok HOK.out hrr
          have HST := hid (fun hc => stepM_still HOK.out hrr hc)
          have HDO := hid (fun (V W : World) (bd bm : Nat) (bv : Value) (F G : Nat → Prop) (hV : Grew w V) (h : DkL V W bd bm bv D F G) (hts : tx.size ≤ 300) => (by
            have := step34_any askA askOk bd bm bv (.agg #[.int .u8 wh, .int .i64 a, .int .i64 b, .slice ca cl.length cc, .string tx]) D F G ⟨wh, a, b, cl, tx⟩ W h.desk (stepS HCC.out HB0.out (grew_trans hV h.grew) (Nat.le_trans hV.size (h.new bm (.inl (by obtain ⟨_, _, hm⟩ := h.desk.mem; exact hm.inM))))) HOK.out (by have := HSZ.out; omega) (HLAY.out W (grew_trans hV h.grew)) (by show tx.size ≤ 10000; omega)
            rw [show (StepV.what ⟨wh, a, b, cl, tx⟩).tmod 10 = t from ht] at this
            rw [show stepM askA D t.toNat (StepV.a ⟨wh, a, b, cl, tx⟩) (StepV.b ⟨wh, a, b, cl, tx⟩) (StepV.cells ⟨wh, a, b, cl, tx⟩) (StepV.text ⟨wh, a, b, cl, tx⟩).data.toList = rr from hrr] at this
            exact this : Calls Tryz.prog 34 #[ptr bd, .agg #[.int .u8 wh, .int .i64 a, .int .i64 b, .slice ca cl.length cc, .string tx]] W (StepLeft W bd bm F G rr)))
          have HLONG := hid (fun (W : World) (h : Grew w W) => long33_any (.agg #[.int .u8 wh, .int .i64 a, .int .i64 b, .slice ca cl.length cc, .string tx]) ⟨wh, a, b, cl, tx⟩ W ⟨.slice ca cl.length cc, rfl, (Reads.grew HCC.out h).any, HB0.out⟩)
          obtain ⟨⟨sx, er⟩, D'⟩ := rr
          simp only at hsz' hok'
          have HSZ' := hid (show D'.M.size ≤ 1 + 14 * (j + 1 + 40) by have := HSZ.out; omega)
          have HOK' := hid hok'
          clear hx hbl hst hc0 hc1 hc2 hc3 hc4 hcc hrr hsz' hok' hjl
          obtain ⟨y0, y1, y2, y3, y4⟩ := HY.out wr HGW.out
          go_wp2_with (go_at_call 33; (with_reducible refine (HLONG.out _ HGW.out).mono ?_); rintro e w6 ⟨r6, rfl, hr6, hg6⟩; have HT6 := hid (HT.out.grown hg6); have HR6 := hid hr6; obtain ⟨v0, v1, v2, v3, v4⟩ := HY.out w6 (grew_trans HWG.out HT6.out.a.grew); clear hr6 hg6; cases r6)
          rotate_left
          · go_wp2_with (go_at_call 12; (with_reducible refine (HSANE.out _ (grew_trans HWG.out HT6.out.a.grew)).mono ?_); rintro e w7 ⟨rfl, hg⟩; have HG7 := hid (grew_trans (grew_trans HWG.out HT6.out.a.grew) hg); clear hg)
            go_ret
            exact ⟨rfl, HG7.out⟩
          have hnl := HR6.out.out (by first | rfl | trivial)
          have HTX := hid hnl.2
          clear y0 y1 y2 y3 y4 hnl
          go_upto_region 23 with (first
            | (go_at_call 34; (with_reducible refine (HDO.out w5 _ bdc bc bvc Fc Gc HWG.out HT6.out.a HTX.out).mono ?_); rintro e w7 ⟨rfl, hd7, hk7⟩; obtain ⟨bvc7, Fc7, Gc7, ht7⟩ := HT6.out.step hd7 hk7; have HT7 := hid ht7; obtain ⟨z0, z1, z2, z3, z4⟩ := HY.out w7 (grew_trans HWG.out ht7.a.grew); clear hd7 hk7 ht7)
            | (go_at_call 34; (with_reducible refine (HDO.out w5 _ bdk bk bvk Fk Gk HWG.out HT7.out.b HTX.out).mono ?_); rintro e w8 ⟨rfl, hd8, hk8⟩; obtain ⟨bvk8, Fk8, Gk8, ht8⟩ := HT7.out.swap.step hd8 hk8; have HT8 := hid ht8.swap; clear hd8 hk8 ht8))
          have d8 := cell_of_row w8 bdc 0 _ _ _ HT8.out.a.desk.obj; simp only [List.getElem?_toArray, List.getElem?_cons_zero] at d8
          have d9 := cell_of_row w8 bdk 0 _ _ _ HT8.out.b.desk.obj; simp only [List.getElem?_toArray, List.getElem?_cons_zero] at d9
          have HSM2 := hid (fun (W : World) (h : Grew w8 W) => same35_same bc bk D'.M Fc7 Fk8 W (HT8.out.a.desk.mem.grew h) (HT8.out.b.desk.mem.grew h))
          have hlc := lt_of_obj HT8.out.a.desk.obj
          have hlk := lt_of_obj HT8.out.b.desk.obj
          obtain ⟨sb, hsb⟩ : ∃ s : ByteArray, (⟨sx.toArray⟩ : ByteArray) = s := ⟨_, rfl⟩
          (try rw [hsb])
          refine wp_region_later (by kernel_rfl) (by kernel_rfl) (fun hL => ?_)
          (try simp only [List.append_eq, List.cons_append, List.nil_append])
          repeat (go_big_quiet_step ((go_at_call 35; exact calls_later (HSM2.out _ (Subtype.property _)))))
          refine wpQuiet_nil ?_
          rintro wy ⟨y, hy⟩
          have HT9 := hid (HT8.out.grown (show Grew w8 wy by rw [hy]; exact y.2))
          clear hL hy y
          go_wp2
          go_roundg (m - (j + 1))
          case measure => have := HGK.out; omega
          case rel => exact ⟨j + 1, bvc7, D', Fc7, Gc7, bvk8, Fk8, Gk8, by omega, by go_num, hid rfl, HSZ', HOK', HT9⟩
        · obtain rfl : j = m := by omega
          have HGE := hid HT.out.a.grew
          have HPE := hid (HP5.out.grown HGE.out)
          have d8 := cell_of_row wr bd 0 _ _ _ HPE.out.desk.obj; simp only [List.getElem?_toArray, List.getElem?_cons_zero] at d8
          clear hlt
          go_wp2_with (first
            | (go_at_call 35; (with_reducible refine (HSM.out _ HGE.out).mono ?_); rintro e w7 ⟨rfl, hg7⟩; have HG7 := hid (grew_trans HGE.out hg7); have HP7 := hid (HP5.out.grown HG7.out); have d17 := cell_of_row w7 bd 0 _ _ _ HP7.out.desk.obj; simp only [List.getElem?_toArray, List.getElem?_cons_zero] at d17; clear hg7)
            | (go_at_call 27; (with_reducible refine (HS1.out _ HG7.out).mono ?_); rintro e w8 ⟨rfl, rfl⟩)
            | (go_at_call 27; (with_reducible refine (HS2.out _ HG7.out).mono ?_); rintro e w8 ⟨rfl, rfl⟩)
            | (go_at_call 12; (with_reducible refine (HSANE.out _ (grew_trans HWG.out HG7.out)).mono ?_); rintro e w9 ⟨rfl, hg9⟩; have HG9 := hid (grew_trans (grew_trans HWG.out HG7.out) hg9); clear hg9))
          go_ret
          exact ⟨rfl, HG9.out⟩

end Go.Proofs.YtmohnddglmolgaaGreatDoor
