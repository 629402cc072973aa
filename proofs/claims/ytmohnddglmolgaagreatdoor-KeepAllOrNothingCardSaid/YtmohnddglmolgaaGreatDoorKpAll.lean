/- Law: KeepAllOrNothing (4). Printed by gen_kpall.py. -/
import Derived.Test.YtmohnddglmolgaaGreatDoorKpLawN
import Derived.Deep.RegionLaw
namespace Go.Proofs.YtmohnddglmolgaaGreatDoor
open Go Go.RowKit Go.Lin Go.Lin.Kp

theorem same_bool (v v' : Value) (l m : List Int) (r : Bool) (hr : (l == m) = r) (w : World) (hv : IsInts Any w v l) (hv' : IsInts Any w v' m) : Calls Tryz.prog 24 #[v, v'] w fun e w' => e = .returned (.bool r) ∧ Grew w w' := by
  subst hr; exact same24_any v v' l m w hv hv'

theorem new_entries (bb bm : Nat) (b : Bk) (G : Nat → Prop) (l : List Int) (w : World) (h : IsBook w bb bm b G) (hl : b.list = l) (hs : l.length ≤ 1000000) :
    Calls Tryz.prog 19 #[ptr bb] w fun e w' => ∃ u, e = .returned u ∧ Seg w' w.heap.size 3 1 u l.length (l.map (.int .i64)) ∧ Grew w w' := by
  subst hl; exact entries19_any bb bm b G w h hs

/-- What lies in the loss of a round. -/
def lossObj (x : Loss) (vc vo : Value) : Obj := .cells #[.int .u8 x.before, .int .u8 x.steps, vc, .int .u8 x.opens, vo] 43 (0, 0)

set_option maxHeartbeats 40000000 in
set_option maxRecDepth 20000 in
theorem all4_any (dv lv : Value) (ds : List (Int × Int)) (ls : List Loss) (w : World) (hd : IsDeeds w dv ds) (hl : IsLosses w lv ls) (hL : Lay w) :
    Calls Tryz.prog 4 #[.agg #[dv, lv]] w fun e w' => e = .returned (.bool true) ∧ Grew w w' := by
  obtain ⟨w0, hw0, g0, k0, k1, hz0⟩ := box2 w dv lv 33
  have HSANE := hid (fun (W : World) (h : Grew w W) => sane12_any W (hL.grew h))
  have HWD := hid (wide16_any dv lv ds ls w0 (hd.grew g0) (hl.grew g0))
  obtain ⟨da, dc, rfl, hdm, hdc⟩ := hd
  obtain ⟨la, lc, rfl, hlm, hlc⟩ := hl
  have HDC := hid hdc; have HLC := hid hlc
  obtain ⟨n, hnn⟩ : ∃ n, ds.length = n := ⟨_, rfl⟩
  obtain ⟨nl, hnl⟩ : ∃ n, ls.length = n := ⟨_, rfl⟩
  have HN := hid hnn; have HNL := hid hnl
  rw [hnn] at hdm k0 hw0 HWD ⊢
  rw [hnl] at hlm k1 hw0 HWD ⊢
  have HG0 := hid g0
  clear hdc hlc hL hnn hnl g0
  have HNEW := hid (fun W => new17_any W)
  have HOPN := hid (fun (W : World) (bm : Nat) (F : Nat → Prop) (h : IsMem W bm Mem.new F) => (by have := opened18_any bm Mem.new F W h Ok.new (by decide); rw [live_new.1] at this; exact this : Calls Tryz.prog 18 #[ptr bm] W (TryLeft W bm F (some ⟨0, 1, []⟩, { Mem.new with opened := 1 }))))
  have HE0 := hid (fun (W : World) (bb bm : Nat) (G : Nat → Prop) (h : IsBook W bb bm ⟨0, 1, []⟩ G) => new_entries bb bm ⟨0, 1, []⟩ G [] W h rfl (by decide))
  go_enter Tryz.func4, Tryz.ntmps4
  go_wp2_with (go_at_call 16; (with_reducible refine HWD.out.mono ?_); rintro e w1 ⟨r, rfl, hr, hg⟩; have HR := hid hr; have HG1 := hid hg; have e0 := (hg.cell (p := ⟨w.heap.size, 0, none⟩) hz0).trans k0; have e1 := (hg.cell (p := ⟨w.heap.size, 1, none⟩) hz0).trans k1; clear hg hr; cases r)
  rotate_left
  · go_wp2_with (go_at_call 12; (with_reducible refine (HSANE.out _ (grew_trans HG0.out HG1.out)).mono ?_); rintro e w2 ⟨rfl, hg⟩; have HG2 := hid (grew_trans (grew_trans HG0.out HG1.out) hg); clear hg)
    go_ret
    exact ⟨rfl, HG2.out⟩
  obtain ⟨hn30, hl10, hsl⟩ := HR.out (by first | rfl | trivial)
  replace hn30 : n ≤ 30 := by have := HN.out; omega
  replace hl10 : nl ≤ 10 := by have := HNL.out; omega
  have HSL := hid hsl
  clear hsl
  go_wp2_with (first
    | (go_at_call 17; (with_reducible refine (HNEW.out _).mono ?_); rintro e w2 ⟨rfl, hm1, hg1⟩; have HM1 := hid hm1; have HG2 := hid hg1; clear hm1 hg1)
    | (go_at_call 18; (with_reducible refine (HOPN.out _ _ _ HM1.out).mono ?_); rintro e w3 ⟨hm2, hk2, bb, G, rfl, hb2, hG2⟩; have HM2 := hid hm2; have HK2 := hid hk2; have HB2 := hid hb2; have HGL := hid hG2; clear hm2 hk2 hb2 hG2)
    | (go_at_call 19; (with_reducible refine (HE0.out _ _ _ _ HB2.out).mono ?_); rintro e w4 ⟨u4, rfl, hs4, hg4⟩; obtain ⟨ua4, uc4, rfl, _⟩ := hs4.shape; have HG4 := hid hg4; clear hs4 hg4; simp only [List.length_nil]))
  have hP0 : LawS w1 w4 (w1.heap.size + 1) bb { Mem.new with opened := 1 } ⟨0, 1, []⟩ (fun k => k = w1.heap.size ∨ k = w1.heap.size + 1) G [] := by
    have h1s := HG2.out.size
    have hm1 := HM1.out.lt
    have hk := HK2.out
    refine LawS.grown ⟨grew_b HG2.out (hk.below HG2.out.size (fun k _ e => by rcases e with rfl | rfl <;> omega)), ⟨HM2.out, HB2.out, ?_⟩, ?_, ?_, fine_new⟩ HG4.out
    · rintro k (e | e) hG <;> (have := HGL.out k hG; omega)
    · rintro k (e | e) <;> omega
    · intro k e; have := HGL.out k e; omega
  have HP0 := hid hP0
  obtain ⟨F, hF⟩ : ∃ F : Nat → Prop, (fun k => k = w1.heap.size ∨ k = w1.heap.size + 1) = F := ⟨_, rfl⟩
  obtain ⟨bm, hbm⟩ : ∃ x, w1.heap.size + 1 = x := ⟨_, rfl⟩
  rw [hF, hbm] at HP0
  rw [hbm]
  clear hP0 hbm hF HM1 HM2 HK2 HB2 HGL HG2 HG4 HNEW HOPN HE0 HR
  have HGW := hid (grew_trans HG0.out HG1.out)
  have hxb : w.heap.size < w1.heap.size := Nat.lt_of_lt_of_le hz0 HG1.out.size
  have HCB := hid (fun (v : Value) (l : List Int) (W : World) (hv : IsBytes W v l) (hl : l.length ≤ 10) => cells21_any v l W hv (by omega))
  have HSB := hid same_bool
  go_loopg [4, 5, 6, 7, 8, 9, 10, 11, 12, 13] n (fun gk bv nv qv sv iv _ _ _ _ _ wr => ∃ (j : Nat) (M : Mem) (b : Bk) (bb q s : Nat) (F G : Nat → Prop) (l : List Int), j ≤ n ∧ iv = .int .i64 (j : Int) ∧ bv = ptr bb ∧ qv = .int .i64 (q : Int) ∧ sv = .int .i64 (s : Int) ∧ q ≤ nl ∧ s ≤ j ∧ Hid (gk = n - j) ∧ Hid (M.size ≤ 1 + 40 * j) ∧ Hid (LawS w1 wr bm bb M b F G l) ∧ Hid (Off F G wr nv l))
  case atStart => exact ⟨0, _, _, bb, 0, 0, F, G, [], Nat.zero_le _, rfl, rfl, rfl, rfl, Nat.zero_le _, Nat.le_refl _, hid rfl, hid (by decide), HP0, hid (Reads.nil _ _ _ _ _)⟩
  case round =>
    clear HP0
    obtain ⟨j, M, b, bb, q, s, F, G, l, hj, rfl, rfl, rfl, rfl, hq, hs, HGK, HSZ, HP, HO⟩ := hrel
    rename World => wr
    have f0 := (HP.out.grew.cell (p := ⟨w.heap.size, 0, none⟩) hxb).trans e0
    have f1 := (HP.out.grew.cell (p := ⟨w.heap.size, 1, none⟩) hxb).trans e1
    obtain ⟨na, nc, rfl, -⟩ := id HO.out
    have hll : l.length ≤ 20 := by rw [← HP.out.fine.list]; exact HP.out.fine.bk.1
    by_cases hlt : j < n
    · have hjl : j < ds.length := by rw [HN.out]; exact hlt
      obtain ⟨⟨k, m⟩, hx⟩ : ∃ x, ds[j] = x := ⟨_, rfl⟩
      obtain ⟨b1, off, rfl, hbl, hc0, hc1⟩ := HDC.out j (k, m) (by rw [List.getElem?_eq_getElem hjl, hx])
      have HDB := hid hbl; have HD0 := hid hc0; have HD1 := hid hc1
      have HXB := hid hxb
      have HE0 := hid e0; have HE1 := hid e1
      clear hx hbl hc0 hc1 hjl
      obtain ⟨WB, hWB, gB, oB, sB⟩ := block_new wr #[.int .u8 0, .int .u8 0, .slice none 0 0, .int .u8 0, .slice none 0 0] 43
      have HPB := HP.out.grown gB
      have HBB : Aside F G WB wr.heap.size (lossObj ⟨0, 0, [], 0, []⟩ (.slice none 0 0) (.slice none 0 0)) := ⟨oB, fun e => by have := HP.out.q.ltF _ e; omega, fun e => by have := HP.out.q.ltG _ e; omega⟩
      have hob := off_grew HO.out gB
      have z0 := (gB.cell (p := ⟨w.heap.size, 0, none⟩) (World.block_lt_of_cell? _ _ f0)).trans f0
      have z1 := (gB.cell (p := ⟨w.heap.size, 1, none⟩) (World.block_lt_of_cell? _ _ f1)).trans f1
      have HP1 := hid HPB; have HO1 := hid hob
      obtain ⟨b9, hb9⟩ : ∃ b, wr.heap.size = b := ⟨_, rfl⟩
      rw [hb9] at HBB
      have HB9 := hid HBB
      have HLA := hid (fun (x : Loss) (hx : ls[q]? = some x) => HLC.out q x hx)
      have hgwb := hid (grew_trans HGW.out HPB.grew)
      clear HPB HBB hob gB oB sB
      go_upto_region 13 with fail
      go_cut [10] from 28 to 174 (fun av wx => ∃ a : Bool, av = .bool a ∧ Hid (a = true → ∃ x, ls[q]? = some x) ∧ wx = WB)
      case first =>
        rcases (show nl ≤ q ∨ q < nl by omega) with hqn | hqn
        · have dq : decide ((q : Int) < (nl : Int)) = false := by simp; omega
          go_wp2_with fail
          go_meet
          exact ⟨false, rfl, hid (fun h => by cases h), rfl⟩
        · have dq : decide ((q : Int) < (nl : Int)) = true := by simp; omega
          obtain ⟨x, hx⟩ : ∃ x, ls[q]? = some x := ⟨_, List.getElem?_eq_getElem (by rw [HNL.out]; exact hqn)⟩
          have HX := hid hx
          obtain ⟨lb, lo, rfl, hlb, hla⟩ := HLA.out x hx
          have y0 := (hgwb.out.cell (p := ⟨lb, lo + q * 5, none⟩) hlb).trans hla.c0
          have hyb := hla.b0
          obtain ⟨y, hy⟩ : ∃ y, x.before = y := ⟨_, rfl⟩
          rw [hy] at y0 hyb
          obtain ⟨p, hp⟩ : ∃ p, y.tmod 8 = p := ⟨_, rfl⟩
          clear hla hy hx
          by_cases hsp : (s : Int) = p
          · have e9 : ((s : Int) == p) = true := by rw [beq_iff_eq]; exact hsp
            clear hsp
            go_wp2_with fail
            go_meet
            exact ⟨true, rfl, hid (fun _ => ⟨x, HX.out⟩), rfl⟩
          · have e9 : ((s : Int) == p) = false := by rw [beq_eq_false_iff_ne]; exact hsp
            clear hsp
            go_wp2_with fail
            go_meet
            exact ⟨false, rfl, hid (fun h => by cases h), rfl⟩
      case rest =>
        obtain ⟨a, rfl, HA, rfl⟩ := hcut
        rename World => WB
        go_upto_if 52 with fail
        go_cut [6, 7] from 28 to 174 (fun qv sv wx => ∃ (q2 s2 : Nat) (t : Int) (MA : Mem) (FA : Nat → Prop) (x : Loss) (voa : Option Addr) (voc : Nat) (vc : Value), qv = .int .i64 (q2 : Int) ∧ sv = .int .i64 t ∧ Hid (t + 1 = (s2 : Int)) ∧ Hid (q2 ≤ nl) ∧ Hid (s2 ≤ j + 1) ∧ Hid (MA.size ≤ 1 + 40 * j) ∧ Hid (LawS w1 wx bm bb MA b FA G l) ∧ Hid (Off FA G wx (.slice na l.length nc) l) ∧ Hid (Aside FA G wx b9 (lossObj x vc (.slice voa x.opened.length voc))) ∧ Hid (IsBytes w (.slice voa x.opened.length voc) x.opened) ∧ Hid (x.opened.length ≤ 10) ∧ Hid (0 ≤ x.opens ∧ x.opens ≤ 255))
        case first =>
          cases a
          · go_wp2_with fail
            go_meet
            exact ⟨q, s + 1, s, M, F, ⟨0, 0, [], 0, []⟩, none, 0, .slice none 0 0, rfl, rfl, hid (by omega), hid hq, hid (by omega), HSZ, HP1, HO1, HB9, hid ⟨none, 0, rfl, by simp, fun i hi => by simp at hi⟩, hid (by simp), hid (by decide)⟩
          · obtain ⟨x, hx⟩ := HA.out (by first | rfl | trivial)
            have hxm : x ∈ ls := List.mem_of_getElem? hx
            have hql : q < nl := by rw [← HNL.out]; exact (List.getElem?_eq_some_iff.1 hx).1
            obtain ⟨hs1, hs2⟩ := HSL.out x hxm
            obtain ⟨lb, lo, rfl, hlb, hla⟩ := HLA.out x hx
            obtain ⟨vc, e2, hvc⟩ := hla.c2
            obtain ⟨vo, e4, hvo⟩ := hla.c4
            obtain ⟨ca, cc, rfl, _⟩ := hvc.shape
            obtain ⟨oa, oc, rfl, _⟩ := hvo.shape
            have y0 := (hgwb.out.cell (p := ⟨lb, lo + q * 5, none⟩) hlb).trans hla.c0
            have y1 := (hgwb.out.cell (p := ⟨lb, lo + q * 5 + 1, none⟩) hlb).trans hla.c1
            have y2 := (hgwb.out.cell (p := ⟨lb, lo + q * 5 + 2, none⟩) hlb).trans e2
            have y3 := (hgwb.out.cell (p := ⟨lb, lo + q * 5 + 3, none⟩) hlb).trans hla.c3
            have y4 := (hgwb.out.cell (p := ⟨lb, lo + q * 5 + 4, none⟩) hlb).trans e4
            have hb1 := hla.b1
            have hb3 := hla.b3
            have HVC := hid hvc; have HVO := hid hvo; have HB3 := hid hb3
            obtain ⟨WC, hWC, hoC, hkC⟩ := store5 HB9.out.obj (.int .u8 x.before) (.int .u8 x.steps) (.slice ca x.cells.length cc) (.int .u8 x.opens) (.slice oa x.opened.length oc)
            have fz := fun i => frozen_of_row WB b9 i _ _ HB9.out.obj
            have fz0 := fz 0; have fz1 := fz 1; have fz2 := fz 2; have fz3 := fz 3; have fz4 := fz 4
            have t0 := cell_of_row WB b9 0 _ _ _ HB9.out.obj; have t1 := cell_of_row WB b9 1 _ _ _ HB9.out.obj; have t2 := cell_of_row WB b9 2 _ _ _ HB9.out.obj; have t3 := cell_of_row WB b9 3 _ _ _ HB9.out.obj; have t4 := cell_of_row WB b9 4 _ _ _ HB9.out.obj
            simp only [List.getElem?_toArray, List.getElem?_cons_zero, List.getElem?_cons_succ] at t0 t1 t2 t3 t4
            have v1 := cell_of_row WC b9 1 _ _ _ hoC
            have v2 := cell_of_row WC b9 2 _ _ _ hoC
            simp only [List.getElem?_toArray, List.getElem?_cons_zero, List.getElem?_cons_succ] at v1 v2
            have hb9l : w1.heap.size ≤ b9 := by rw [← hb9]; exact HP.out.grew.size
            have hPC := HP1.out.aside hkC HB9.out.F HB9.out.G hb9l
            have hOC : Off F G WC (.slice na l.length nc) l := Reads.mono (S := fun k _ => (¬ F k ∧ ¬ G k) ∧ k < wr.heap.size) (Reads.keeps (Reads.grew (Reads.re' HO.out (fun k o ho hs => ⟨hs, lt_of_obj ho⟩)) (by rw [← hWB]; exact grew_alloc (grew_refl _) _)) hkC (fun k o hs e => by have := hs.2; omega)) (fun k o hs => hs.1)
            have HPC := hid (hPC.q.grown (grew_drew (grew_refl _))); have HOC := hid (off_grew hOC (grew_drew (grew_refl _)))
            have HXC := hid ((⟨hoC, HB9.out.F, HB9.out.G⟩ : Aside F G WC b9 (lossObj x (.slice ca x.cells.length cc) (.slice oa x.opened.length oc))).grew (grew_drew (grew_refl _)))
            obtain ⟨st, hst⟩ : ∃ p, x.steps.tmod 16 = p := ⟨_, rfl⟩
            have hstb : 0 ≤ st ∧ st ≤ 15 := by rw [← hst, Int.tmod_eq_emod_of_nonneg hb1.1]; omega
            have hwy : IntKind.i64.wrap x.steps = x.steps := IntWalk.i64_in _ (by omega)
            have hws : IntKind.i64.wrap (1 + st) = 1 + st := IntWalk.i64_in _ (by omega)
            have hwq : IntKind.i64.wrap ((q : Int) + 1) = (q : Int) + 1 := IntWalk.i64_in _ (by omega)
            obtain ⟨hp0, hpf⟩ := planned_fine HP.out.fine (k := 1 + st) (c := cellsOf x.cells) ⟨by omega, by omega⟩ (cellsOf_early hs1)
            have hpz := size_planned M (1 + st) (cellsOf x.cells)
            have HPF := hid hpf; have HPZ := hid hpz
            have HPL := hid (fun (W : World) (u : Value) (h : IsMem W bm M F) (hu : IsInts Any W u (cellsOf x.cells)) => (by have := fail20_any bm M F (1 + st) u (cellsOf x.cells) W h hu; rw [hp0] at this; exact this : Calls Tryz.prog 20 #[ptr bm, .int .i64 (1 + st), u] W fun e w' => e = .returned (.int .i64 0) ∧ Keeps (InF F) W w' ∧ ∃ F', IsMem w' bm (M.planned (1 + st) (cellsOf x.cells)).2 F' ∧ Wider W F F'))
            have HS1 := hid hs1; have HS2 := hid hs2; have HQL := hid hql
            clear hla hx hxm hs1 hs2 hvc hvo e2 e4 hoC hkC fz hPC hOC hp0 hpf hpz hb3
            go_wp2_with fail
            go_region_law (first
              | (go_simp; go_at_call 21; (with_reducible refine (HCB.out _ _ _ (HVC.out.grew (grew_trans HGW.out HPC.out.grew)) HS1.out).mono ?_); rintro e w11 ⟨u11, rfl, hs11, hg11⟩; have HQ11 := hid (HPC.out.grown hg11); have HOF11 := hid (off_grew HOC.out hg11); have hx11 := HXC.out.grew hg11; have v11 := cell_of_row _ b9 1 _ _ _ hx11.obj; simp only [List.getElem?_toArray, List.getElem?_cons_zero, List.getElem?_cons_succ] at v11; have HX11 := hid hx11; have HS11 := hid hs11.isInts.any; clear hs11 hg11 hx11)
              | (go_simp; go_at_call 20; (with_reducible refine (HPL.out _ _ HQ11.out.mb.mem HS11.out).mono ?_); rintro e w12 ⟨rfl, hk12, FB, hm12, hF12⟩; have HQ12 := hid (HQ11.out.planned hm12 hF12 hk12); have HOF12 := hid (off_keeps HOF11.out (keeps_inF hk12) hF12 wider_refl); have HX12 := hid (HX11.out.keeps (keeps_inF hk12) hF12 wider_refl); clear hk12 hm12 hF12))
            all_goals (
              go_wp2_with fail
              go_meet
              exact ⟨q + 1, 0, -1, _, FB, x, oa, oc, .slice ca x.cells.length cc, by go_num, rfl, hid (by decide), hid HQL.out, hid (Nat.zero_le _), hid (by rw [HPZ.out]; exact HSZ.out), hid (HQ12.out.s HPF.out), HOF12, HX12, HVO, HS2, HB3⟩)
        case rest =>
          obtain ⟨q2, s2, t, MA, FA, x, voa, voc, vc, rfl, rfl, HTS, HQ2, HS2, HSA, HPA, HOA, HBA, HVO, HXL, HXO⟩ := hcut
          rename World => wx
          have hsw : IntKind.i64.wrap (t + 1) = t + 1 := IntWalk.i64_in _ (by have := HTS.out; have := HS2.out; omega)
          clear HP HO HP1 HO1 HB9 HSZ HA
          obtain ⟨mz, hmz⟩ : ∃ z, doD MA b k m = z := ⟨_, rfl⟩
          have HGA := hid (grew_trans HGW.out HPA.out.grew)
          have g0 := (HPA.out.grew.cell (p := ⟨w.heap.size, 0, none⟩) HXB.out).trans HE0.out
          have d0 := (HGA.out.cell (p := ⟨b1, off + j * 2, none⟩) HDB.out).trans HD0.out
          have d1 := (HGA.out.cell (p := ⟨b1, off + j * 2 + 1, none⟩) HDB.out).trans HD1.out
          simp only at d0 d1
          have hsz := size_doD MA b k m
          have hdok := ok_doD HPA.out.fine.ok b k m
          have hllA : l.length ≤ 20 := hll
          have HBH := hid (behind22_any (.slice na l.length nc) l k m wx HOA.out.any (by omega))
          have HDO := hid (fun (W : World) (h : MBk W bm bb MA b FA G) => do23_any bm bb MA b FA G k m W h HPA.out.fine.ok HPA.out.fine.bk (by have := HSA.out; omega))
          rw [hmz] at hsz hdok HDO
          obtain ⟨er, b', M'⟩ := mz
          simp only at hsz hdok
          have hmsz : M'.size ≤ 15 + 40 * j := by have := HSA.out; omega
          have HMS := hid hmsz
          unfold BehindLeft at HBH
          obtain ⟨mb, hmb⟩ : ∃ z, mayD l k m = z := ⟨_, rfl⟩
          rw [hmb] at HBH
          cases mb with
          | false =>
              obtain ⟨er2, her, hdn⟩ := doD_not HPA.out.fine hmb
              rw [hmz] at hdn
              simp only [Prod.mk.injEq] at hdn
              obtain ⟨rfl, rfl, rfl⟩ := hdn
              have q0 : (er == 0) = false := by rcases her with rfl | rfl | rfl <;> rfl
              have q1 : (er != 101) = true := by rcases her with rfl | rfl | rfl <;> rfl
              have HEN := hid (fun (W : World) (G' : Nat → Prop) (h : IsBook W bb bm b' G') => new_entries bb bm b' G' l W h HPA.out.fine.list (by omega))
              have HFN := hid HPA.out.fine
              clear her hmb hmz hsz hdok hmsz hllA HMS
              go_wp2_with (first
                | (go_at_call 22; (with_reducible refine HBH.out.mono ?_); rintro e w5 ⟨hg5, u5, L5, rfl, hs5, hL5⟩; have HG5 := hid hg5; have HQ5 := hid (HPA.out.q.grown hg5); have HOF5 := hid (off_grew HOA.out hg5); have g05 := (hg5.cell (p := ⟨w.heap.size, 0, none⟩) (World.block_lt_of_cell? _ _ g0)).trans g0; have d05 := (hg5.cell (p := ⟨b1, off + j * 2, none⟩) (World.block_lt_of_cell? _ _ d0)).trans d0; have d15 := (hg5.cell (p := ⟨b1, off + j * 2 + 1, none⟩) (World.block_lt_of_cell? _ _ d1)).trans d1; obtain ⟨ua5, uc5, rfl, _⟩ := hs5.shape; clear hg5 hs5 hL5)
                | (go_at_call 23; (with_reducible refine (HDO.out _ HQ5.out.mb).mono ?_); rintro e w6 ⟨rfl, ⟨G6, hm6, hG6⟩, hk6⟩; have HQ6 := hid (HQ5.out.did hm6 hG6 hk6); have HOF6 := hid (off_keeps HOF5.out hk6 wider_refl hG6); clear hm6 hG6 hk6)
                | (go_at_call 19; (with_reducible refine (HEN.out _ _ HQ6.out.mb.book).mono ?_); rintro e w7 ⟨u7, rfl, hs7, hg7⟩; obtain ⟨ua7, uc7, rfl, _⟩ := hs7.shape; have HS7 := hid hs7.isInts.any; have HQ7 := hid (HQ6.out.grown hg7); have HOF7 := hid (off_grew HOF6.out hg7); clear hs7 hg7)
                | (go_at_call 24; (with_reducible refine (HSB.out _ _ l l true (by simp) _ HS7.out HOF7.out.any).mono ?_); rintro e w8 ⟨rfl, hg8⟩; have HQ8 := hid (HQ7.out.grown hg8); have HOF8 := hid (off_grew HOF7.out hg8); clear hg8))
              go_roundg (n - (j + 1))
              case measure => have := HGK.out; omega
              case rel => exact ⟨j + 1, M', b', bb, q2, s2, FA, G6, l, by omega, by go_num, rfl, rfl, congrArg (Value.int .i64) HTS.out, HQ2.out, HS2.out, hid rfl, hid (by have := HSA.out; omega), hid (HQ8.out.s HFN.out), HOF8⟩
          | true =>
            rcases doD_may HPA.out.fine hmb with hdw | hdw
            · rw [hmz] at hdw
              obtain ⟨h0, hf', -⟩ := hdw
              simp only at h0 hf'
              subst h0
              have hl' := hf'.list
              have hlen' : (nextD l k m).length ≤ 20 := by rw [← hl']; exact hf'.bk.1
              obtain ⟨l', hl2⟩ : ∃ l', nextD l k m = l' := ⟨_, rfl⟩
              rw [hl2] at HBH hf' hl' hlen'
              have HFN := hid hf'
              have HEN := hid (fun (W : World) (G' : Nat → Prop) (h : IsBook W bb bm b' G') => new_entries bb bm b' G' l' W h hl' (by omega))
              clear hmb hmz hsz hdok hmsz hllA hl2 hf' hl' hlen'
              go_wp2_with (first
                | (go_at_call 22; (with_reducible refine HBH.out.mono ?_); rintro e w5 ⟨hg5, u5, L5, rfl, hs5, hL5⟩; have hL5' := hL5 (by first | rfl | trivial); subst hL5'; have HG5 := hid hg5; have HQ5 := hid (HPA.out.q.grown hg5); have HOF5 := hid (off_new hs5 HPA.out.q.ltF HPA.out.q.ltG); have g05 := (hg5.cell (p := ⟨w.heap.size, 0, none⟩) (World.block_lt_of_cell? _ _ g0)).trans g0; have d05 := (hg5.cell (p := ⟨b1, off + j * 2, none⟩) (World.block_lt_of_cell? _ _ d0)).trans d0; have d15 := (hg5.cell (p := ⟨b1, off + j * 2 + 1, none⟩) (World.block_lt_of_cell? _ _ d1)).trans d1; obtain ⟨ua5, uc5, rfl, _⟩ := hs5.shape; clear hg5 hs5 hL5)
                | (go_at_call 23; (with_reducible refine (HDO.out _ HQ5.out.mb).mono ?_); rintro e w6 ⟨rfl, ⟨G6, hm6, hG6⟩, hk6⟩; have HQ6 := hid (HQ5.out.did hm6 hG6 hk6); have HOF6 := hid (off_keeps HOF5.out hk6 wider_refl hG6); clear hm6 hG6 hk6)
                | (go_at_call 19; (with_reducible refine (HEN.out _ _ HQ6.out.mb.book).mono ?_); rintro e w7 ⟨u7, rfl, hs7, hg7⟩; obtain ⟨ua7, uc7, rfl, _⟩ := hs7.shape; have HS7 := hid hs7.isInts.any; have HQ7 := hid (HQ6.out.grown hg7); have HOF7 := hid (off_grew HOF6.out hg7); clear hs7 hg7)
                | (go_at_call 24; (with_reducible refine (HSB.out _ _ _ _ true (by simp) _ HS7.out HOF7.out.any).mono ?_); rintro e w8 ⟨rfl, hg8⟩; have HQ8 := hid (HQ7.out.grown hg8); have HOF8 := hid (off_grew HOF7.out hg8); clear hg8))
              go_roundg (n - (j + 1))
              case measure => have := HGK.out; omega
              case rel => exact ⟨j + 1, M', b', bb, q2, s2, FA, G6, _, by omega, by go_num, rfl, rfl, congrArg (Value.int .i64) HTS.out, HQ2.out, HS2.out, hid rfl, hid (by have := HMS.out; omega), hid (HQ8.out.s HFN.out), HOF8⟩
            · rw [hmz] at hdw
              obtain ⟨hr3, KD, hdn, hrec⟩ := hdw
              simp only [Prod.mk.injEq] at hr3
              obtain ⟨rfl, rfl, -⟩ := hr3
              simp only at hdn
              have hoff := hdn.off
              have hagain := doD_off b' k m (.inl hoff)
              have hbk := HPA.out.fine.bk
              have hlst := HPA.out.fine.list
              have HEN := hid (fun (W : World) (G' : Nat → Prop) (h : IsBook W bb bm b' G') => new_entries bb bm b' G' l W h hlst (by omega))
              have HPW := hid (fun (W : World) (h : IsMem W bm M' FA) => (by have := power25_mem bm M' FA W h; rw [hoff] at this; exact this : Calls Tryz.prog 25 #[ptr bm] W fun e w' => e = .returned (.bool false) ∧ W = w'))
              have HAG := hid (fun (W : World) (G' : Nat → Prop) (h : MBk W bm bb M' b' FA G') => ((do23_any bm bb M' b' FA G' k m W h hdok hbk (by omega)).mono fun e w' hd => did_same hd hagain))
              have HSTM := hid (fun (W : World) (h : IsMem W bm M' FA) => start26_mem bm M' FA W h)
              obtain ⟨l', hl2⟩ : ∃ l', nextD l k m = l' := ⟨_, rfl⟩
              rw [hl2] at HBH hrec
              -- the opening behind it
              have hX : ∀ l2, Rec KD l2 → ∃ b2 M2, tryOpen 3 M' = (some b2, M2) ∧ Fine M2 b2 l2 := fun l2 h => down_open hdn h
              obtain ⟨opn, hopn⟩ : ∃ z, x.opens = z := ⟨_, rfl⟩
              have hob := HXO.out
              rw [hopn] at hob
              have hY : 0 < opn → ∀ l2, Rec KD l2 → Ok M'.start ∧ (M'.start.planned opn (cellsOf x.opened)).1 = 0 ∧ Ok (M'.start.planned opn (cellsOf x.opened)).2 ∧ ∃ b2 M2, tryOpen 3 (M'.start.planned opn (cellsOf x.opened)).2 = (some b2, M2) ∧ Fine M2 b2 l2 := fun h0 l2 h => down_plan hdn h ⟨by omega, by omega⟩ (cellsOf_early HXL.out)
              have HL2 := hid hl2
              obtain ⟨l2, r1, hl2c, hrc, hss⟩ : ∃ (l2 : List Int) (r1 : Bool), Rec KD l2 ∧ (l2 == l) = r1 ∧ (r1 = false → (l2 == l') = true) := by
                rcases hrec with h | h
                · exact ⟨l, true, h, by simp, fun e => by cases e⟩
                · exact ⟨l', (l' == l), h, rfl, fun _ => by simp⟩
              have HSS := hid hss; have HRC := hid hrc
              have hl2s : l2.length ≤ 20 := hl2c.small
              have HX9 := hid (by have h := HBA.out; unfold lossObj at h; rw [hopn] at h; exact h : Aside FA G wx b9 (.cells #[.int .u8 x.before, .int .u8 x.steps, vc, .int .u8 opn, .slice voa x.opened.length voc] 43 (0, 0)))
              have HHX := hid hX; have HHY := hid hY; have HHR := hid hl2c; have HHO := hid hdok; have HHB := hid hob
              clear hmb hmz hsz hllA hl2 hrec hdn hoff hagain hbk hlst hss hrc hl2c hX hY hopn hob HBA hdok
              go_upto_region 31 with (first
                | (go_at_call 22; (with_reducible refine HBH.out.mono ?_); rintro e w5 ⟨hg5, u5, L5, rfl, hs5, hL5⟩; have hL5' := (hL5 (by first | rfl | trivial)).symm; subst hL5'; have HG5 := hid hg5; have HQ5 := hid (HPA.out.q.grown hg5); have HOF5 := hid (off_grew HOA.out hg5); have HON5 := hid (off_new hs5 HPA.out.q.ltF HPA.out.q.ltG); have HX5 := hid (HX9.out.grew hg5); have g05 := (hg5.cell (p := ⟨w.heap.size, 0, none⟩) (World.block_lt_of_cell? _ _ g0)).trans g0; have d05 := (hg5.cell (p := ⟨b1, off + j * 2, none⟩) (World.block_lt_of_cell? _ _ d0)).trans d0; have d15 := (hg5.cell (p := ⟨b1, off + j * 2 + 1, none⟩) (World.block_lt_of_cell? _ _ d1)).trans d1; obtain ⟨ua5, uc5, rfl, _⟩ := hs5.shape; clear hg5 hs5 hL5)
                | (go_at_call 23; (with_reducible refine (HDO.out _ HQ5.out.mb).mono ?_); rintro e w6 ⟨rfl, ⟨G6, hm6, hG6⟩, hk6⟩; have HQ6 := hid (HQ5.out.did hm6 hG6 hk6); have HOF6 := hid (off_keeps HOF5.out hk6 wider_refl hG6); have HON6 := hid (off_keeps HON5.out hk6 wider_refl hG6); have HX6 := hid (HX5.out.keeps hk6 wider_refl hG6); have hgr6 := HQ6.out.grew; have g06 := (hgr6.cell (p := ⟨w.heap.size, 0, none⟩) HXB.out).trans HE0.out; have d06 := ((grew_trans HGW.out hgr6).cell (p := ⟨b1, off + j * 2, none⟩) HDB.out).trans HD0.out; have d16 := ((grew_trans HGW.out hgr6).cell (p := ⟨b1, off + j * 2 + 1, none⟩) HDB.out).trans HD1.out; (try simp only at d06); (try simp only at d16); clear hm6 hG6 hk6 hgr6)
                | (go_at_call 25; (with_reducible refine (HPW.out _ HQ6.out.mb.mem).mono ?_); rintro e w7 ⟨rfl, rfl⟩)
                | (go_at_call 19; (with_reducible refine (HEN.out _ _ HQ6.out.mb.book).mono ?_); rintro e w7 ⟨u7, rfl, hs7, hg7⟩; obtain ⟨ua7, uc7, rfl, _⟩ := hs7.shape; have HS7 := hid hs7.isInts.any; have HG7 := hid hg7; clear hs7 hg7)
                | (go_at_call 24; (with_reducible refine (HSB.out _ _ l l true (by simp) _ HS7.out (off_grew HOF6.out HG7.out).any).mono ?_); rintro e w8 ⟨rfl, hg8⟩; have hg68 := grew_trans HG7.out hg8; have HQ8 := hid (HQ6.out.grown hg68); have HOF8 := hid (off_grew HOF6.out hg68); have HON8 := hid (off_grew HON6.out hg68); have HX8 := hid (HX6.out.grew hg68); have g08 := (hg68.cell (p := ⟨w.heap.size, 0, none⟩) (World.block_lt_of_cell? _ _ g06)).trans g06; have d08 := (hg68.cell (p := ⟨b1, off + j * 2, none⟩) (World.block_lt_of_cell? _ _ d06)).trans d06; have d18 := (hg68.cell (p := ⟨b1, off + j * 2 + 1, none⟩) (World.block_lt_of_cell? _ _ d16)).trans d16; (try simp only at d08); (try simp only at d18); clear hg8 hg68)
                | (go_at_call 23; (with_reducible refine (HAG.out _ _ HQ8.out.mb).mono ?_); rintro e w9 ⟨rfl, ⟨G9, hm9, hG9⟩, hk9⟩; have HQ9 := hid (HQ8.out.did hm9 hG9 hk9); have HOF9 := hid (off_keeps HOF8.out hk9 wider_refl hG9); have HON9 := hid (off_keeps HON8.out hk9 wider_refl hG9); have hx9 := HX8.out.keeps hk9 wider_refl hG9; have y3 := cell_of_row _ b9 3 _ _ _ hx9.obj; have y4 := cell_of_row _ b9 4 _ _ _ hx9.obj; simp only [List.getElem?_toArray, List.getElem?_cons_zero, List.getElem?_cons_succ] at y3 y4; have HX10 := hid hx9; clear hm9 hG9 hk9 hx9))
              go_cut [153] from 28 to 174 (fun tv wx => ∃ (MO : Mem) (FB : Nat → Prop), tv = .bool false ∧ Hid (LawQ w1 wx bm bb MO b' FB G9) ∧ Hid (Off FB G9 wx (.slice na l.length nc) l) ∧ Hid (Off FB G9 wx (.slice ua5 l'.length uc5) l') ∧ Hid (∃ b2 M2, tryOpen 3 MO = (some b2, M2) ∧ Fine M2 b2 l2) ∧ Hid (Ok MO) ∧ Hid (MO.size = M'.size))
              case first =>
                rcases Int.lt_or_le 0 opn with hop | hop
                · obtain ⟨hokS, hp0, hokP, hex⟩ := HHY.out hop l2 HHR.out
                  have hob := HHB.out
                  have HPL := hid (fun (W : World) (u : Value) (h : IsMem W bm M'.start FA) (hu : IsInts Any W u (cellsOf x.opened)) => (by have := fail20_any bm M'.start FA opn u (cellsOf x.opened) W h hu; rw [hp0] at this; exact this : Calls Tryz.prog 20 #[ptr bm, .int .i64 opn, u] W fun e w' => e = .returned (.int .i64 0) ∧ Keeps (InF FA) W w' ∧ ∃ F', IsMem w' bm (M'.start.planned opn (cellsOf x.opened)).2 F' ∧ Wider W FA F'))
                  have hwo : IntKind.i64.wrap opn = opn := IntWalk.i64_in _ (by omega)
                  have hsz : (M'.start.planned opn (cellsOf x.opened)).2.size = M'.size := by rw [size_planned, size_start']
                  have HEX := hid hex; have HOKP := hid hokP; have HSZP := hid hsz
                  have HQD := hid (HQ9.out.grown (grew_drew (grew_refl _))); have HOFD := hid (off_grew HOF9.out (grew_drew (grew_refl _))); have HOND := hid (off_grew HON9.out (grew_drew (grew_refl _))); have HXD := hid (HX10.out.grew (grew_drew (grew_refl _)))
                  clear hokS hp0 hokP hex hob hsz
                  go_region_law (first
                    | (go_simp; go_at_call 26; (with_reducible refine (HSTM.out _ HQD.out.mb.mem).mono ?_); rintro e w10 ⟨rfl, hm10, hk10⟩; have HQ10 := hid (HQD.out.opened hm10 hk10); have HOF10 := hid (off_keeps HOFD.out (keeps_inF hk10) wider_refl wider_refl); have HON10 := hid (off_keeps HOND.out (keeps_inF hk10) wider_refl wider_refl); have hx10 := HXD.out.keeps (keeps_inF hk10) wider_refl wider_refl; have x3 := cell_of_row _ b9 3 _ _ _ hx10.obj; have x4 := cell_of_row _ b9 4 _ _ _ hx10.obj; simp only [List.getElem?_toArray, List.getElem?_cons_zero, List.getElem?_cons_succ] at x3 x4; have HX11 := hid hx10; have HVO10 := hid (HVO.out.grew (grew_trans HGW.out HQ10.out.grew)); clear hm10 hk10 hx10)
                    | (go_simp; go_at_call 21; (with_reducible refine (HCB.out _ _ _ HVO10.out HXL.out).mono ?_); rintro e w11 ⟨u11, rfl, hs11, hg11⟩; have HQ11 := hid (HQ10.out.grown hg11); have HOF11 := hid (off_grew HOF10.out hg11); have HON11 := hid (off_grew HON10.out hg11); have hx11 := HX11.out.grew hg11; have v3 := cell_of_row _ b9 3 _ _ _ hx11.obj; have v4 := cell_of_row _ b9 4 _ _ _ hx11.obj; simp only [List.getElem?_toArray, List.getElem?_cons_zero, List.getElem?_cons_succ] at v3 v4; have HS11 := hid hs11.isInts.any; clear hs11 hg11 hx11)
                    | (go_simp; go_at_call 20; (with_reducible refine (HPL.out _ _ HQ11.out.mb.mem HS11.out).mono ?_); rintro e w12 ⟨rfl, hk12, FB, hm12, hF12⟩; have HQ12 := hid (HQ11.out.planned hm12 hF12 hk12); have HOF12 := hid (off_keeps HOF11.out (keeps_inF hk12) hF12 wider_refl); have HON12 := hid (off_keeps HON11.out (keeps_inF hk12) hF12 wider_refl); clear hk12 hm12 hF12))
                  all_goals (
                    go_wp2_with fail
                    go_meet
                    exact ⟨_, FB, rfl, HQ12, HOF12, HON12, HEX, HOKP, HSZP⟩)
                · obtain rfl : opn = 0 := by have := HHB.out; omega
                  have HEX := hid (HHX.out l2 HHR.out)
                  go_quiet (fail)
                  all_goals (
                    rename Nat => dn; have hgd := grew_drewN (grew_refl w9) dn; have HQ12 := hid (HQ9.out.grown hgd); have HOF12 := hid (off_grew HOF9.out hgd); have HON12 := hid (off_grew HON9.out hgd); clear hgd
                    go_wp2_with fail
                    go_meet
                    exact ⟨M', FA, rfl, HQ12, HOF12, HON12, HEX, HHO, hid rfl⟩)
              case rest =>
                obtain ⟨MO, FB, rfl, HQ12, HOF12, HON12, HTRY, HOKO, HSZO⟩ := hcut
                rename World => w12
                obtain ⟨b2, M2, htry, hf2⟩ := HTRY.out
                have hM2s := tryOpen_size MO
                rw [htry] at hM2s
                simp only at hM2s
                have hso := HSZO.out
                have hM2b : M2.size ≤ 1 + 40 * (j + 1) := by omega
                have HM2B := hid hM2b
                have HTR := hid (fun (W : World) (FB : Nat → Prop) (h : IsMem W bm MO FB) => (by have := opened18_any bm _ FB W h HOKO.out (by omega); rw [htry] at this; exact this : Calls Tryz.prog 18 #[ptr bm] W (TryLeft W bm FB (some b2, M2))))
                have hl22 := hf2.list
                have HE2 := hid (fun (W : World) (q2 : Nat) (G' : Nat → Prop) (h : IsBook W q2 bm b2 G') => new_entries q2 bm b2 G' l2 W h hl22 (by omega))
                have HP2 := hid (fun (W : World) (FB : Nat → Prop) (h : IsMem W bm M2 FB) => (by have := power25_mem bm M2 FB W h; rw [hf2.on] at this; exact this : Calls Tryz.prog 25 #[ptr bm] W fun e w' => e = .returned (.bool true) ∧ W = w'))
                have HF2 := hid hf2
                clear htry hf2 hM2s hso hM2b hl22
                have HL2L := hid hl2s
                cases r1
                · go_wp2_with (first
                    | (go_at_call 18; (with_reducible refine (HTR.out _ FB HQ12.out.mb.mem).mono ?_); rintro e w13 ⟨hm13, hk13, p2, G2, rfl, hb13, hG13⟩; have HQ13 := hid (HQ12.out.newBook hm13 hk13 hb13 hG13); have HOF13 := hid (off_keeps HOF12.out (keeps_inF hk13) wider_refl (fun k e => .inr (hG13 k e)) : Off FB G2 w13 _ l); have HON13 := hid (off_keeps HON12.out (keeps_inF hk13) wider_refl (fun k e => .inr (hG13 k e)) : Off FB G2 w13 _ _); clear hm13 hk13 hb13 hG13)
                    | (go_at_call 19; (with_reducible refine (HE2.out _ _ _ HQ13.out.mb.book).mono ?_); rintro e w14 ⟨u14, rfl, hs14, hg14⟩; obtain ⟨ua14, uc14, rfl, _⟩ := hs14.shape; have HS14 := hid hs14.isInts.any; have HQ14 := hid (HQ13.out.grown hg14); have HOF14 := hid (off_grew HOF13.out hg14); have HON14 := hid (off_grew HON13.out hg14); clear hs14 hg14)
                    | (go_at_call 24; (with_reducible refine (HSB.out _ _ l2 l false HRC.out _ HS14.out HOF14.out.any).mono ?_); rintro e w15 ⟨rfl, hg15⟩; have HQ15 := hid (HQ14.out.grown hg15); have HON15 := hid (off_grew HON14.out hg15); clear hg15)
                    | (go_at_call 19; (with_reducible refine (HE2.out _ _ _ HQ15.out.mb.book).mono ?_); rintro e w16 ⟨u16, rfl, hs16, hg16⟩; obtain ⟨ua16, uc16, rfl, _⟩ := hs16.shape; have HS16 := hid hs16.isInts.any; have HQ16 := hid (HQ15.out.grown hg16); have HON16 := hid (off_grew HON15.out hg16); clear hs16 hg16)
                    | (go_at_call 24; (with_reducible refine (HSB.out _ _ l2 _ true (HSS.out (by first | rfl | trivial)) _ HS16.out HON16.out.any).mono ?_); rintro e w17 ⟨rfl, hg17⟩; have HQ17 := hid (HQ16.out.grown hg17); clear hg17)
                    | (go_at_call 19; (with_reducible refine (HE2.out _ _ _ HQ17.out.mb.book).mono ?_); rintro e w18 ⟨u18, rfl, hs18, hg18⟩; obtain ⟨ua18, uc18, rfl, _⟩ := hs18.shape; have HOF18 := hid (off_new hs18 HQ17.out.ltF HQ17.out.ltG); have HQ18 := hid (HQ17.out.grown hg18); clear hs18 hg18)
                    | (go_at_call 25; (with_reducible refine (HP2.out _ FB HQ18.out.mb.mem).mono ?_); rintro e w19 ⟨rfl, rfl⟩))
                  go_roundg (n - (j + 1))
                  case measure => have := HGK.out; omega
                  case rel => exact ⟨j + 1, M2, b2, p2, q2, s2, FB, G2, l2, by omega, by go_num, rfl, rfl, congrArg (Value.int .i64) HTS.out, HQ2.out, HS2.out, hid rfl, HM2B, hid (HQ18.out.s HF2.out), HOF18⟩
                · go_wp2_with (first
                    | (go_at_call 18; (with_reducible refine (HTR.out _ FB HQ12.out.mb.mem).mono ?_); rintro e w13 ⟨hm13, hk13, p2, G2, rfl, hb13, hG13⟩; have HQ13 := hid (HQ12.out.newBook hm13 hk13 hb13 hG13); have HOF13 := hid (off_keeps HOF12.out (keeps_inF hk13) wider_refl (fun k e => .inr (hG13 k e)) : Off FB G2 w13 _ l); clear hm13 hk13 hb13 hG13)
                    | (go_at_call 19; (with_reducible refine (HE2.out _ _ _ HQ13.out.mb.book).mono ?_); rintro e w14 ⟨u14, rfl, hs14, hg14⟩; obtain ⟨ua14, uc14, rfl, _⟩ := hs14.shape; have HS14 := hid hs14.isInts.any; have HQ14 := hid (HQ13.out.grown hg14); have HOF14 := hid (off_grew HOF13.out hg14); clear hs14 hg14)
                    | (go_at_call 24; (with_reducible refine (HSB.out _ _ l2 l true HRC.out _ HS14.out HOF14.out.any).mono ?_); rintro e w15 ⟨rfl, hg15⟩; have HQ15 := hid (HQ14.out.grown hg15); clear hg15)
                    | (go_at_call 19; (with_reducible refine (HE2.out _ _ _ HQ15.out.mb.book).mono ?_); rintro e w18 ⟨u18, rfl, hs18, hg18⟩; obtain ⟨ua18, uc18, rfl, _⟩ := hs18.shape; have HOF18 := hid (off_new hs18 HQ15.out.ltF HQ15.out.ltG); have HQ18 := hid (HQ15.out.grown hg18); clear hs18 hg18)
                    | (go_at_call 25; (with_reducible refine (HP2.out _ FB HQ18.out.mb.mem).mono ?_); rintro e w19 ⟨rfl, rfl⟩))
                  go_roundg (n - (j + 1))
                  case measure => have := HGK.out; omega
                  case rel => exact ⟨j + 1, M2, b2, p2, q2, s2, FB, G2, l2, by omega, by go_num, rfl, rfl, congrArg (Value.int .i64) HTS.out, HQ2.out, HS2.out, hid rfl, HM2B, hid (HQ18.out.s HF2.out), HOF18⟩
    · obtain rfl : j = n := by omega
      have HGF := hid (grew_trans HGW.out HP.out.grew)
      go_wp2_with (go_at_call 12; (with_reducible refine (HSANE.out _ HGF.out).mono ?_); rintro e w11 ⟨rfl, hg⟩; have HGE := hid (grew_trans HGF.out hg); clear hg)
      go_ret
      exact ⟨rfl, HGE.out⟩

end Go.Proofs.YtmohnddglmolgaaGreatDoor
