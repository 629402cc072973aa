/- Law: KeepSteps (8). -/
import Derived.Test.YtmohnddglmolgaaGreatDoorKrDesk
import Derived.Test.YtmohnddglmolgaaGreatDoorKrIs
import Derived.Test.YtmohnddglmolgaaGreatDoorKpSameM
import Derived.Deep.RegionLaw
namespace Go.Proofs.YtmohnddglmolgaaGreatDoor
open Go Go.RowKit Go.Lin Go.Lin.Kp

theorem rstepM_size {A : Bk → List UInt8 → List UInt8 × Int} {D : Ds} {what : Nat} {a n : Int} {cells : List Int} {text : List UInt8} {r : (List UInt8 × Int) × Ds} (h : stepM A D what a n cells text = r) : r.2.M.size ≤ D.M.size + 14 := by
  subst h; exact size_stepM D what a n cells text
theorem rstepM_ok {A : Bk → List UInt8 → List UInt8 × Int} {D : Ds} (hd : DsOk D) {what : Nat} {a n : Int} {cells : List Int} {text : List UInt8} {r : (List UInt8 × Int) × Ds} (h : stepM A D what a n cells text = r) : DsOk r.2 := by
  subst h; exact dsOk_step hd what a n cells text
theorem rstepM_le {A : Bk → List UInt8 → List UInt8 × Int} {D : Ds} (hd : DsLe D) {what : Nat} {a n : Int} {cells : List Int} {text : List UInt8} {r : (List UInt8 × Int) × Ds} (h : stepM A D what a n cells text = r) : DsLe r.2 := by
  subst h; exact dsLe_step hd what a n cells text
theorem rdsOk_new : DsOk ⟨Mem.new, none⟩ := ⟨Ok.new, fun _ h => by cases h⟩
theorem rdsLe_new : DsLe ⟨Mem.new, none⟩ := fun _ h => by cases h

set_option maxHeartbeats 40000000 in
set_option maxRecDepth 20000 in
theorem steps8_any (sv : Value) (ss : List StepV) (w : World) (hs : IsSteps w sv ss) (hL : Lay w) :
    Calls Tryz.prog 8 #[sv] w fun e w' => e = .returned (.bool true) ∧ Grew w w' := by
  have HSANE := hid (fun (W : World) (h : Grew w W) => sane12_any W (hL.grew h))
  have HLAY := hid (fun (W : World) (h : Grew w W) => hL.grew h)
  obtain ⟨sa, sc, rfl, hsm, hsc⟩ := hs
  have HSC := hid hsc
  obtain ⟨n, hnn⟩ : ∃ n, ss.length = n := ⟨_, rfl⟩
  have HN := hid hnn
  rw [hnn] at hsm ⊢
  clear hsc hL hnn
  have HNEW := hid (fun W => new17_any W)
  have HRNEW := hid (fun W => rnew36_any W)
  by_cases hn40 : 40 < n
  · have d1 : decide ((40 : Int) < (n : Int)) = true := by simp; omega
    clear hn40
    go_enter Tryz.func8, Tryz.ntmps8
    go_wp2_with (go_at_call 12; (with_reducible refine (HSANE.out _ (grew_refl _)).mono ?_); rintro e w2 ⟨rfl, hg⟩; have HG2 := hid hg; clear hg)
    go_ret
    exact ⟨rfl, HG2.out⟩
  have d1 : decide ((40 : Int) < (n : Int)) = false := by simp; omega
  replace hn40 : n ≤ 40 := by omega
  go_enter Tryz.func8, Tryz.ntmps8
  go_wp2_with (first
    | (go_at_call 17; (with_reducible refine (HNEW.out _).mono ?_); rintro e w2 ⟨rfl, hm1, hg1⟩; obtain ⟨WD, hWD, gD, oD, sD⟩ := block_new w2 #[ptr (w.heap.size + 1), .pointer none] 65; have HM1 := hid hm1; have HG2 := hid hg1; have HWD := hid (And.intro gD (And.intro oD sD)); clear hm1 hg1 gD oD sD)
    | (go_at_call 36; (with_reducible refine (HRNEW.out _).mono ?_); rintro e w3 ⟨rfl, hm3, hg3⟩; obtain ⟨WE, hWE, gE, oE, sE⟩ := block_new w3 #[ptr WD.heap.size, .pointer none] 78; have HM3 := hid hm3; have HG3 := hid hg3; have HWE := hid (And.intro gE (And.intro oE sE)); clear hm3 hg3 gE oE sE))
  have hP0 : Side 78 w WE w2.heap.size (w.heap.size + 1) (.pointer none) ⟨Mem.new, none⟩ (fun k => k = w.heap.size ∨ k = w.heap.size + 1) (fun _ => False) w3.heap.size WD.heap.size (.pointer none) ⟨Mem.new, none⟩ (fun k => k = WD.heap.size) (fun _ => False) := by
    have h1s := HG2.out.size
    have hm1 := HM1.out.lt
    have hm3 := HM3.out.lt
    obtain ⟨gD, oD, sD⟩ := HWD.out
    obtain ⟨gE, oE, sE⟩ := HWE.out
    have gDE := grew_trans HG3.out gE
    have g2 := grew_trans HG2.out gD
    have hzD := lt_of_obj oD
    have hz3 := HG3.out.size
    refine ⟨⟨grew_trans g2 gDE, ⟨(gDE.block _ hzD).trans oD, HM1.out.grew (grew_trans gD gDE), rfl, fun _ _ h => h, ?_, fun h => h, fun _ h => h.elim⟩, ?_⟩, ⟨grew_trans g2 gDE, ⟨oE, HM3.out.grew gE, rfl, fun _ _ h => h, fun e => by omega, fun h => h, fun _ h => h.elim⟩, ?_⟩, ?_⟩
    · rintro (e | e) <;> omega
    · rintro k ((e | e) | e | e) <;> first | omega | exact e.elim
    · have := g2.size
      rintro k (e | e | e) <;> first | omega | exact e.elim
    · rintro k ((e | e) | e | e) (e' | e' | e') <;> first | omega | exact e.elim | exact e'.elim
  have HP0 := hid hP0
  obtain ⟨F0, hF⟩ : ∃ F : Nat → Prop, (fun k => k = w.heap.size ∨ k = w.heap.size + 1) = F := ⟨_, rfl⟩
  obtain ⟨G0, hG⟩ : ∃ F : Nat → Prop, (fun _ : Nat => False) = F := ⟨_, rfl⟩
  obtain ⟨F0', hF'⟩ : ∃ F : Nat → Prop, (fun k => k = WD.heap.size) = F := ⟨_, rfl⟩
  obtain ⟨bm, hbm⟩ : ∃ x, w.heap.size + 1 = x := ⟨_, rfl⟩
  obtain ⟨bd, hbd⟩ : ∃ x, w2.heap.size = x := ⟨_, rfl⟩
  obtain ⟨rm, hrm⟩ : ∃ x, WD.heap.size = x := ⟨_, rfl⟩
  obtain ⟨rd, hrd⟩ : ∃ x, w3.heap.size = x := ⟨_, rfl⟩
  rw [hF, hG, hF', hbm, hbd, hrm, hrd] at HP0
  (try rw [hbd])
  (try rw [hrd])
  clear hP0 hF hG hF' hbm hbd hrm hrd HM1 HG2 HWD HNEW hWD HM3 HG3 HWE HRNEW hWE
  have d0 := cell_of_row WE bd 0 _ _ _ HP0.out.a.desk.obj; simp only [List.getElem?_toArray, List.getElem?_cons_zero] at d0
  have e0 := cell_of_row WE rd 0 _ _ _ HP0.out.b.desk.obj; simp only [List.getElem?_toArray, List.getElem?_cons_zero] at e0
  have hld := lt_of_obj HP0.out.a.desk.obj
  have hle := lt_of_obj HP0.out.b.desk.obj
  have HIS := hid (fun (W : World) (h : Grew WE W) => is37_same bm rm Mem.new F0 F0' W (HP0.out.a.desk.mem.grew h) (HP0.out.b.desk.mem.grew h))
  refine wp_region_later (by kernel_rfl) (by kernel_rfl) (fun hL => ?_)
  (try simp only [List.append_eq, List.cons_append, List.nil_append])
  repeat (go_big_quiet_step ((go_at_call 37; exact calls_later (HIS.out _ (Subtype.property _)))))
  refine wpQuiet_nil ?_
  rintro wy ⟨y, hy⟩
  have HP1 := hid (HP0.out.grown (show Grew WE wy by rw [hy]; exact y.2))
  clear hL hy y HP0 HIS d0 e0 hld hle
  go_wp2
  go_loopg [5, 6, 7, 8, 9, 10, 72, 81] n (fun gk iv _ _ _ _ _ _ _ wr => ∃ (j : Nat) (bv : Value) (D : Ds) (F G : Nat → Prop) (rv : Value) (F' G' : Nat → Prop), j ≤ n ∧ iv = .int .i64 (j : Int) ∧ Hid (gk = n - j) ∧ Hid (D.M.size ≤ 1 + 14 * j) ∧ Hid (DsOk D) ∧ Hid (DsLe D) ∧ Hid (Side 78 w wr bd bm bv D F G rd rm rv D F' G'))
  case atStart => exact ⟨0, .pointer none, ⟨Mem.new, none⟩, F0, G0, .pointer none, F0', G0, Nat.zero_le _, rfl, hid rfl, hid (by decide), hid rdsOk_new, hid rdsLe_new, HP1⟩
  case round =>
    clear HP1
    obtain ⟨j, bv, D, F, G, rv, F', G', hj, rfl, HGK, HSZ, HOK, HLE, HP⟩ := hrel
    rename World => wr
    by_cases hlt : j < n
    · have HWW := hid (fun (W : World) (h : Side 78 w W bd bm bv D F G rd rm rv D F' G') => copy29_mem bm D.M F W h.a.desk.mem HOK.out.M)
      have hjl : j < ss.length := by rw [HN.out]; exact hlt
      obtain ⟨x, hx⟩ : ∃ x, ss[j]? = some x := ⟨_, List.getElem?_eq_getElem hjl⟩
      obtain ⟨b1, off, rfl, hbl, hst⟩ := HSC.out j x hx
      obtain ⟨wh, a, b, cl, tx⟩ := x
      obtain ⟨c, hc3, hcc⟩ := hst.cells
      obtain ⟨ca, cc, rfl, -⟩ := id hcc
      have hc0 := hst.c0; have hc1 := hst.c1; have hc2 := hst.c2; have hc4 := hst.c4
      simp only at hc0 hc1 hc2 hc3 hc4
      have HCC := hid hcc; have HB0 := hid hst.b0
      have HY := hid (fun (W : World) (h : Grew w W) => (⟨(h.cell (p := ⟨b1, off + j * 5, none⟩) hbl).trans hc0, (h.cell (p := ⟨b1, off + j * 5 + 1, none⟩) hbl).trans hc1, (h.cell (p := ⟨b1, off + j * 5 + 2, none⟩) hbl).trans hc2, (h.cell (p := ⟨b1, off + j * 5 + 3, none⟩) hbl).trans hc3, (h.cell (p := ⟨b1, off + j * 5 + 4, none⟩) hbl).trans hc4⟩ : W.cell? ⟨b1, off + j * 5, none⟩ = some (.int .u8 wh) ∧ W.cell? ⟨b1, off + j * 5 + 1, none⟩ = some (.int .i64 a) ∧ W.cell? ⟨b1, off + j * 5 + 2, none⟩ = some (.int .i64 b) ∧ W.cell? ⟨b1, off + j * 5 + 3, none⟩ = some (.slice ca cl.length cc) ∧ W.cell? ⟨b1, off + j * 5 + 4, none⟩ = some (.string tx)))
      obtain ⟨t, ht⟩ : ∃ t, wh.tmod 10 = t := ⟨_, rfl⟩
      obtain ⟨rr, hrr⟩ : ∃ r, stepM askA D t.toNat a b cl tx.data.toList = r := ⟨_, rfl⟩
      have hsz' := rstepM_size hrr
      have hok' := rstepM_ok HOK.out hrr
      have hle' := rstepM_le HLE.out hrr
      have HDO := hid (fun (W : World) (h : DkL w W bd bm bv D F G) (hts : tx.size ≤ 300) => (by
        have := step34_any askA askOk bd bm bv (.agg #[.int .u8 wh, .int .i64 a, .int .i64 b, .slice ca cl.length cc, .string tx]) D F G ⟨wh, a, b, cl, tx⟩ W h.desk (stepS HCC.out HB0.out h.grew (h.new bm (.inl (by obtain ⟨_, _, hm⟩ := h.desk.mem; exact hm.inM)))) HOK.out (by have := HSZ.out; omega) (HLAY.out W h.grew) (by show tx.size ≤ 10000; omega)
        rw [show (StepV.what ⟨wh, a, b, cl, tx⟩).tmod 10 = t from ht] at this
        rw [show stepM askA D t.toNat (StepV.a ⟨wh, a, b, cl, tx⟩) (StepV.b ⟨wh, a, b, cl, tx⟩) (StepV.cells ⟨wh, a, b, cl, tx⟩) (StepV.text ⟨wh, a, b, cl, tx⟩).data.toList = rr from hrr] at this
        exact this : Calls Tryz.prog 34 #[ptr bd, .agg #[.int .u8 wh, .int .i64 a, .int .i64 b, .slice ca cl.length cc, .string tx]] W (StepLeft W bd bm F G rr)))
      have HRDO := hid (fun (W : World) (h : RDkL 78 w W rd rm rv D F' G') => (by
        have := rstep38_any rd rm rv (.agg #[.int .u8 wh, .int .i64 a, .int .i64 b, .slice ca cl.length cc, .string tx]) D F' G' ⟨wh, a, b, cl, tx⟩ W h.desk (stepS HCC.out HB0.out h.grew (h.new rm (.inl h.desk.mem.inM))) HOK.out HLE.out (by have := HSZ.out; omega)
        rw [show (StepV.what ⟨wh, a, b, cl, tx⟩).tmod 10 = t from ht] at this
        rw [show stepM askA D t.toNat (StepV.a ⟨wh, a, b, cl, tx⟩) (StepV.b ⟨wh, a, b, cl, tx⟩) (StepV.cells ⟨wh, a, b, cl, tx⟩) (StepV.text ⟨wh, a, b, cl, tx⟩).data.toList = rr from hrr] at this
        exact this : Calls Tryz.prog 38 #[ptr rd, .agg #[.int .u8 wh, .int .i64 a, .int .i64 b, .slice ca cl.length cc, .string tx]] W (RStepLeft 78 W rd rm F' G' rr)))
      have HLONG := hid (fun (W : World) (h : Grew w W) => long33_any (.agg #[.int .u8 wh, .int .i64 a, .int .i64 b, .slice ca cl.length cc, .string tx]) ⟨wh, a, b, cl, tx⟩ W ⟨.slice ca cl.length cc, rfl, (Reads.grew HCC.out h).any, HB0.out⟩)
      obtain ⟨⟨sx, er⟩, D'⟩ := rr
      simp only at hsz' hok' hle'
      have HSZ' := hid (show D'.M.size ≤ 1 + 14 * (j + 1) by have := HSZ.out; omega)
      have HOK' := hid hok'; have HLE' := hid hle'
      clear hx hbl hst hc0 hc1 hc2 hc3 hc4 hcc hrr hsz' hok' hle' hjl
      obtain ⟨y0, y1, y2, y3, y4⟩ := HY.out wr HP.out.a.grew
      go_wp2_with (go_at_call 33; (with_reducible refine (HLONG.out _ HP.out.a.grew).mono ?_); rintro e w4 ⟨r4, rfl, hr4, hg4⟩; have HP4 := hid (HP.out.grown hg4); have HR4 := hid hr4; have d4 := cell_of_row w4 bd 0 _ _ _ HP4.out.a.desk.obj; simp only [List.getElem?_toArray, List.getElem?_cons_zero] at d4; clear hr4 hg4; cases r4)
      rotate_left
      · go_wp2_with (go_at_call 12; (with_reducible refine (HSANE.out _ HP4.out.a.grew).mono ?_); rintro e w5 ⟨rfl, hg⟩; have HG5 := hid (grew_trans HP4.out.a.grew hg); clear hg)
        go_ret
        exact ⟨rfl, HG5.out⟩
      have hnl := HR4.out.out (by first | rfl | trivial)
      have HTX := hid hnl.2
      clear y0 y1 y2 y3 y4 hnl
      go_wp2_with (go_at_call 29; (with_reducible refine (HWW.out _ HP4.out).mono ?_); rintro e w5 ⟨bq, Fq, rfl, hm5, hF5, hg5⟩; have HP5 := hid (HP4.out.grown hg5); have HM5 := hid hm5; clear hm5 hF5 hg5)
      have d5 := cell_of_row w5 bd 0 _ _ _ HP5.out.a.desk.obj; simp only [List.getElem?_toArray, List.getElem?_cons_zero] at d5
      obtain ⟨sn, hsn⟩ : ∃ s : Int, (D.M.steps : Int) = s := ⟨_, rfl⟩
      have HSM := hid (fun (W : World) (h : Grew w5 W) => same35_same bm bq D.M F Fq W (HP5.out.a.desk.mem.grew h) (HM5.out.grew h))
      have HS1 := hid (fun (W : World) (h : Grew w5 W) => (steps27_mem bm D.M F W (HP5.out.a.desk.mem.grew h)).mono fun e w' hx => (⟨hsn ▸ hx.1, hx.2 ▸ grew_refl _⟩ : e = .returned (.int .i64 sn) ∧ Grew W w'))
      have HS2 := hid (fun (W : World) (h : Grew w5 W) => (steps27_mem bq D.M Fq W (HM5.out.grew h)).mono fun e w' hx => (⟨hsn ▸ hx.1, hx.2 ▸ grew_refl _⟩ : e = .returned (.int .i64 sn) ∧ Grew W w'))
      have hld := lt_of_obj HP5.out.a.desk.obj
      have hlq := HM5.out.lt
      clear hsn d4
      refine wp_region_later (by kernel_rfl) (by kernel_rfl) (fun hL => ?_)
      (try simp only [List.append_eq, List.cons_append, List.nil_append])
      repeat (go_big_quiet_step (first
        | (go_at_call 35; exact calls_later (HSM.out _ (Subtype.property _)))
        | (go_at_call 27; exact calls_later (HS2.out _ (Subtype.property _)))
        | (go_at_call 27; exact calls_later (HS1.out _ (Subtype.property _)))))
      refine wpQuiet_nil ?_
      rintro wz ⟨y, hy⟩
      have HP6 := hid (HP5.out.grown (show Grew w5 wz by rw [hy]; exact y.2))
      clear hL hy y HSM HS1 HS2 hld hlq d5 HM5 HP5 HP4 HWW
      obtain ⟨y0, y1, y2, y3, y4⟩ := HY.out wz HP6.out.a.grew
      go_wp2_with (first
        | (go_at_call 34; (with_reducible refine (HDO.out _ HP6.out.a HTX.out).mono ?_); rintro e w7 ⟨rfl, hd7, hk7⟩; obtain ⟨bv7, F7, G7, hp7⟩ := HP6.out.stepA hd7 hk7; have HP7 := hid hp7; obtain ⟨z0, z1, z2, z3, z4⟩ := HY.out w7 HP7.out.a.grew; clear hd7 hk7 hp7)
        | (go_at_call 38; (with_reducible refine (HRDO.out _ HP7.out.b).mono ?_); rintro e w8 ⟨rfl, hd8, hk8⟩; obtain ⟨rv8, F8, G8, hp8⟩ := HP7.out.stepB hd8 hk8; have HP8 := hid hp8; clear hd8 hk8 hp8))
      obtain ⟨sb, hsb⟩ : ∃ s : ByteArray, (⟨sx.toArray⟩ : ByteArray) = s := ⟨_, rfl⟩
      (try rw [hsb])
      have d8 := cell_of_row w8 bd 0 _ _ _ HP8.out.a.desk.obj; simp only [List.getElem?_toArray, List.getElem?_cons_zero] at d8
      have e8 := cell_of_row w8 rd 0 _ _ _ HP8.out.b.desk.obj; simp only [List.getElem?_toArray, List.getElem?_cons_zero] at e8
      have hld := lt_of_obj HP8.out.a.desk.obj
      have hle := lt_of_obj HP8.out.b.desk.obj
      have HIS := hid (fun (W : World) (h : Grew w8 W) => is37_same bm rm D'.M F7 F8 W (HP8.out.a.desk.mem.grew h) (HP8.out.b.desk.mem.grew h))
      clear y0 y1 y2 y3 y4 z0 z1 z2 z3 z4 hsb
      refine wp_region_later (by kernel_rfl) (by kernel_rfl) (fun hL => ?_)
      (try simp only [List.append_eq, List.cons_append, List.nil_append])
      repeat (go_big_quiet_step ((go_at_call 37; exact calls_later (HIS.out _ (Subtype.property _)))))
      refine wpQuiet_nil ?_
      rintro wu ⟨y, hy⟩
      have HP9 := hid (HP8.out.grown (show Grew w8 wu by rw [hy]; exact y.2))
      clear hL hy y d8 e8 hld hle HIS HP8 HP7 HP6
      have HPD := hid (HP9.out.grown (grew_drew (grew_refl wu)))
      have e1 := cell_of_row wu.drew rd 1 _ _ _ HPD.out.b.desk.obj; simp only [List.getElem?_toArray, List.getElem?_cons_zero, List.getElem?_cons_succ] at e1
      have hle := lt_of_obj HPD.out.b.desk.obj
      have hrb := HPD.out.b.desk.book
      have hab := HPD.out.a.desk.book
      cases hDb : D'.b with
      | none =>
        rw [hDb] at hrb
        obtain rfl : rv8 = .pointer none := hrb
        clear hab hle HPD e1
        have e1 := cell_of_row wu rd 1 _ _ _ HP9.out.b.desk.obj; simp only [List.getElem?_toArray, List.getElem?_cons_zero, List.getElem?_cons_succ] at e1
        have hle := lt_of_obj HP9.out.b.desk.obj
        go_wp2
        refine wp_region_later (by kernel_rfl) (by kernel_rfl) (fun hL => ?_)
        (try simp only [List.append_eq, List.cons_append, List.nil_append])
        repeat (go_big_quiet_step (fail))
        refine wpQuiet_nil ?_
        rintro wv ⟨y, hy⟩
        have HP10 := hid (HP9.out.grown (show Grew wu wv by rw [hy]; exact y.2))
        clear hL hy y e1 hle
        go_wp2
        go_roundg (n - (j + 1))
        case measure => have := HGK.out; omega
        case rel => exact ⟨j + 1, bv7, D', F7, G7, _, F8, G8, by omega, by go_num, hid rfl, HSZ', HOK', HLE', HP10⟩
      | some bk =>
        rw [hDb] at hrb hab
        obtain ⟨rb, rfl, ru, hru⟩ := hrb
        obtain ⟨bb, rfl, hbk⟩ := hab
        have hbo := HOK'.out.b bk hDb
        obtain ⟨la, lc, rfl, hlm, -⟩ := id hru.list
        have d1 := cell_of_row wu.drew bd 1 _ _ _ HPD.out.a.desk.obj; simp only [List.getElem?_toArray, List.getElem?_cons_zero, List.getElem?_cons_succ] at d1
        have hld := lt_of_obj HPD.out.a.desk.obj
        have l1 := hru.c1
        have hlr := lt_of_obj hru.obj
        have HRU := hid hru
        have HEN := hid (fun (W : World) (h : Grew wu.drew W) => entries19_any bb bm bk G7 W (hbk.grew h) (by have := hbo.1; omega))
        obtain ⟨bl, hbl⟩ : ∃ l, bk.list = l := ⟨_, rfl⟩
        have hbl20 := hbo.1
        rw [hbl] at HEN l1 hlm hbl20
        have HBL := hid hbl
        have HSI := hid (fun (W : World) (u v : Value) (hu : IsInts Any W u bl) (hv : IsInts Any W v bl) => (by have := same24_any u v bl bl W hu hv; rw [beq_self_eq_true] at this; exact this : Calls Tryz.prog 24 #[u, v] W fun e w' => e = .returned (.bool true) ∧ Grew W w'))
        have HLI := hid (fun (W : World) (h : Grew wu.drew W) => (by have := (hru.grew h).list.any; rw [hbl] at this; exact this : IsInts Any W (.slice la bl.length lc) bl))
        have HE1 := hid (fun (W : World) (h : Grew wu.drew W) => (⟨(h.cell (p := ⟨rd, 1, none⟩) hle).trans e1, (h.cell (p := ⟨rb, 1, none⟩) hlr).trans l1⟩ : W.cell? ⟨rd, 1, none⟩ = some (ptr rb) ∧ W.cell? ⟨rb, 1, none⟩ = some (.slice la bl.length lc)))
        obtain ⟨m, hm⟩ : ∃ m, bl.length = m := ⟨_, rfl⟩
        rw [hm] at HEN l1 hlm hbl20 HLI HE1
        have e1u := cell_of_row wu rd 1 _ _ _ HP9.out.b.desk.obj; simp only [List.getElem?_toArray, List.getElem?_cons_zero, List.getElem?_cons_succ] at e1u
        have d1u := cell_of_row wu bd 1 _ _ _ HP9.out.a.desk.obj; simp only [List.getElem?_toArray, List.getElem?_cons_zero, List.getElem?_cons_succ] at d1u
        have l1u : wu.cell? ⟨rb, 1, none⟩ = some (.slice la m lc) := l1
        have hleu : rd < wu.heap.size := hle
        have hldu : bd < wu.heap.size := hld
        have hlru : rb < wu.heap.size := hlr
        clear hru hbk hbo hDb hbl hm e1 d1 l1 hle hld hlr HE1
        go_wp2
        go_region_held3 (fun w' => Grew wu w' ∧ ∀ b o, b < wu.heap.size → w'.cell? ⟨b, o, none⟩ = wu.cell? ⟨b, o, none⟩) (exact later_both (by repeat' (first | assumption | exact grew_refl _ | refine grew_drew ?_ | refine grew_alloc ?_ _)))
          (first
            | (go_at_call 19; (with_reducible refine (HEN.out _ (grew_refl _)).mono ?_); rintro e w9 ⟨u9, rfl, hs9, hg9⟩; have HI9 := hid hs9.isInts.any; have HG9 := hid hg9; have G9 : Grew wu w9 := grew_trans (grew_drew (grew_refl _)) hg9; clear hs9 hg9)
            | (go_at_call 24; (with_reducible refine (HSI.out _ _ _ HI9.out (HLI.out _ HG9.out)).mono ?_); rintro e w10 ⟨rfl, hg10⟩; have HP10 := hid (HPD.out.grown (grew_trans HG9.out hg10)); have G10 : Grew wu w10 := grew_trans G9 hg10; clear hg10))
        all_goals (
          go_wp2
          go_roundg (n - (j + 1))
          case measure => have := HGK.out; omega
          case rel => exact ⟨j + 1, _, D', F7, G7, _, F8, G8, by omega, by go_num, hid rfl, HSZ', HOK', HLE', HP10⟩)
    · obtain rfl : j = n := by omega
      have HGE := hid HP.out.a.grew
      clear hlt
      go_wp2_with (go_at_call 12; (with_reducible refine (HSANE.out _ HGE.out).mono ?_); rintro e w9 ⟨rfl, hg9⟩; have HG9 := hid (grew_trans HGE.out hg9); clear hg9)
      go_ret
      exact ⟨rfl, HG9.out⟩

end Go.Proofs.YtmohnddglmolgaaGreatDoor
