/- Walks: Least of the reference. -/
import Derived.Test.YtnebpcpihldllaaRLeast
import Derived.Test.YtnebpcpihldllaaRWays
namespace Go.Proofs.Ytnebpcpihldllaa
open Go.RowKit Go.Lin

theorem memCells_reads {M : Mach} {w : World} {base : Nat} {u : Value} {es : List E} (h : Seg w base 3 1 u es.length (memCells M es)) : IsNats Any w u (memsOf M es) := by
  unfold IsNats
  rw [show (memsOf M es).length = es.length by simp [memsOf]]
  refine (h.reads _ (fun i hi => ?_)).any
  unfold memCells memsOf
  rw [List.getElem?_map, List.getElem?_eq_getElem hi]
  simp [nthN, List.getD, hi]

set_option maxHeartbeats 8000000 in
set_option maxRecDepth 100000 in
theorem refLeast_ok (s : RSpec) (sB : Nat → Nat → Bool) (cl : Nat → Nat) (hS : Sames (machOf s) sB cl) (sv : Value) (w : World) (hs : IsSpec w sv s) (hv : validM s = true) :
    Calls Try.prog 54 #[sv] w fun e w' => ∃ L u, e = .returned (.tuple #[u, .int .i64 0]) ∧ LeastW (machOf s) L ∧ IsSpec w' u (leastS s cl L) ∧ Grew w w' := by
  have HRV := hid (fun (y : World) (hy : Grew w y) => refValid_any s _ y (hs.grew hy))
  rw [hv] at HRV
  have hM := wf_machOf hv
  have hmach := hs.isMach hv
  have HST := hid (ops_k hv)
  have HCNT := hid (fun (L : List (List Nat)) (h : LeastW (machOf s) L) => And.intro (least_count hv h) (fun (i : Nat) (hi : i < L.length) => rep_lt hv h hi))
  have HLS := hid (fun (L : List (List Nat)) => leastS_rows s cl L)
  clear hs
  obtain ⟨M, hMe⟩ : ∃ M, machOf s = M := ⟨_, rfl⟩
  rw [hMe] at hM hmach hS HST HCNT HLS ⊢
  have HM := hmach
  have HCL := hid (fun (y : World) (hy : Grew w y) => refClasses72_any M hM sB cl hS _ y (HM.grew hy))
  obtain ⟨b1, off1, c1, b2, off2, c2, rfl, t1, t2⟩ := hmach
  have n1 := hM.n1; have n8 := hM.n8; have m1 := hM.k1; have m4 := hM.k4
  have T1 := hid t1; have T2 := hid t2
  have hQ := quot_wf hM hS
  clear t1 t2 hMe
  obtain ⟨W0, hW0, g0, k0, k1, k2, k3, hz⟩ := box4 w (.int .i64 (M.n : Int)) (.int .i64 (M.k : Int)) (.slice (some ⟨b1, off1, none⟩) M.n c1) (.slice (some ⟨b2, off2, none⟩) M.n c2) 24
  have hobj2 := heap_alloc_new W0 (.cells #[.int .i64 0, .int .i64 0, .slice none 0 0, .slice none 0 0] 24)
  obtain ⟨W2, hW2, g2, q0, q1, q2, q3, hz2, qf⟩ := boxf4 W0 (.int .i64 0) (.int .i64 0) (.slice none 0 0) (.slice none 0 0) 24
  rw [hW2] at hobj2
  have HOBJ := hid hobj2; clear hobj2
  have g02 := grew_trans g0 g2
  have r0 := (g2.cell (p := ⟨w.heap.size, 0, none⟩) hz).trans k0
  have r1 := (g2.cell (p := ⟨w.heap.size, 1, none⟩) hz).trans k1
  have r2 := (g2.cell (p := ⟨w.heap.size, 2, none⟩) hz).trans k2
  have r3 := (g2.cell (p := ⟨w.heap.size, 3, none⟩) hz).trans k3
  have hz0 : w.heap.size < W2.heap.size := Nat.lt_of_lt_of_le hz g2.size
  have hg := grew_refl W2
  clear k0 k1 k2 k3 q0 q1 q2 q3 qf
  go_enter Try.func54, Try.ntmps54
  go_wp2_with (first
    | (go_at_call 33; (with_reducible refine (HRV.out _ (grew_trans g02 hg)).mono ?_); rintro e w1 ⟨rfl, hx⟩; replace hg := grew_trans hg hx; have hc := (bcell hg).1; clear hx)
    | (go_at_call 72; (with_reducible refine (HCL.out _ (grew_trans g02 hg)).mono ?_); rintro e w4 ⟨ucl, rfl, hu4, hx⟩; have hfun := funAt_of n1 hu4; have HFUN := hid hfun; obtain ⟨cb, coff, ccap, rfl, -, -⟩ := hfun; clear hu4; replace hg := grew_trans hg hx; have hc := (bcell hg).1; clear hx))
  obtain ⟨W5, hW5, g5, d5, hz5⟩ := box1 w4 (.int .i64 0) 3
  have hseg5 : Seg W5 w4.heap.size 3 1 (.slice (some ⟨w4.heap.size, 0, none⟩) 1 1) 1 (memCells M [(0, 0, [])]) := by
    have h := Seg.lit w4 w4.heap.size 3 1 #[.int .i64 0] (Nat.le_refl _) rfl
    rw [hW5] at h
    exact h
  rw [hW5]
  have hinv0 : WInv (quotM M cl) (([] : List E) ++ [(0, 0, [])]) (fun e _ => e ∈ ([] : List E)) :=
    (BInv.start (mute (quotM M cl)) (oneM (quotM M cl)) 0 0).congr (fun e _ o _ => by simp) (fun e o h => h.elim)
  have HS0 := hid hseg5; have HI0 := hid hinv0
  clear hseg5 hinv0 hW5 hc hW0 hW2 d5
  go_loopg [5, 6] 65 (fun g mv iv wr => ∃ (done tail : List E), iv = .int .i64 (done.length : Int) ∧ Hid (g = 65 - done.length) ∧ Grew w4 wr ∧ Hid (WInv (quotM M cl) (done ++ tail) (fun e _ => e ∈ done)) ∧ Hid (Seg wr w4.heap.size 3 1 mv (done ++ tail).length (memCells M (done ++ tail))))
  case atStart => exact ⟨[], [(0, 0, [])], rfl, hid rfl, g5, HI0, HS0⟩
  case round =>
    clear HS0 HI0
    obtain ⟨done, tail, rfl, HG, hgr, HI, HSG⟩ := hrel
    have hgg := grew_trans hg hgr
    have hc := (bcell hgg).1
    have hcnt := WInv.count hQ HI.out
    rw [show (quotM M cl).n = M.n from rfl] at hcnt
    have hzz := Nat.lt_of_lt_of_le hz0 hgg.size
    rcases tail with _ | ⟨h, tl⟩
    · rw [List.append_nil] at HI HSG
      have hL := least_members hS HI.out
      have hln : (wordsOf done).length = done.length := by simp [wordsOf]
      have hrepc : ∀ i, i < done.length → (memCells M done)[i]? = some (.int .i64 ((repW M (wordsOf done) i : Nat) : Int)) := fun i hi => by
        unfold memCells repW wordsOf
        rw [List.getElem?_map, List.getElem?_eq_getElem hi, nthW_lt (by simpa using hi)]
        simp
      have hmcl : (memsOf M done).map cl = (wordsOf done).map fun w => cl (stM M 0 w) := by
        unfold memsOf wordsOf; rw [List.map_map, List.map_map]; rfl
      have hnums : ∀ i o, i < done.length → o < M.k → numI ((memsOf M done).map cl) (cl (M.nx (repW M (wordsOf done) i) o)) = ((posW M cl (wordsOf done) (M.nx (repW M (wordsOf done) i) o) : Nat) : Int) := fun i o hi ho => by
        obtain ⟨e, hok⟩ := rep_step hL (by rw [hln]; exact hi) ho
        obtain ⟨w, hw, he⟩ := hL.all _ hok
        rw [hmcl]
        unfold numI
        rw [if_pos]
        · rfl
        · rw [e]
          exact List.mem_map.2 ⟨w, hw, ((hS.iff _ _).2 he).symm⟩
      have hmlt : ∀ i, i < (memsOf M done).length → nthN (memsOf M done) i < M.n := fun i hi => by
        have hi' : i < done.length := by simpa [memsOf] using hi
        obtain ⟨_, _, _, p5⟩ := HI.out.path _ (List.getElem_mem hi')
        rw [nthN_lt hi]
        simp only [memsOf, List.getElem_map]
        exact stM_lt hM hM.n1 p5
      have hnats := memCells_reads HSG.out
      have hml : (memsOf M done).length = done.length := by simp [memsOf]
      obtain ⟨⟨l1, l8⟩, hrl⟩ := HCNT.out _ hL
      obtain ⟨L, hLe⟩ : ∃ L, wordsOf done = L := ⟨_, rfl⟩
      rw [hLe] at hL hln hrepc hnums l1 l8 hrl
      obtain ⟨mems, hmems⟩ : ∃ mems, memsOf M done = mems := ⟨_, rfl⟩
      rw [hmems] at hnums hmlt hnats hml
      rw [← hln] at HSG hrepc hnums hml
      obtain ⟨la, lc, rfl, _⟩ := HSG.out.shape
      obtain ⟨mg, moff, mcap, mcur, hlv, hmb, hmo, hmcap, hmcapm, hmc⟩ := HSG.out.at (by omega)
      simp only [Value.slice.injEq] at hlv
      obtain ⟨rfl, _, rfl⟩ := hlv
      have hmcell : ∀ i, i < L.length → wr.cell? ⟨mg, moff + i, none⟩ = some (.int .i64 ((repW M L i : Nat) : Int)) := fun i hi => (hmc i (by omega)).trans (hrepc i hi)
      have hmg := lt_of_obj hmo
      have HMC := hid hmcell; have HNUM := hid hnums; have HRL := hid hrl; have HL := hid hL
      have HNU := hid (fun (a : Nat) (ha : a < M.n) (y : World) (hy : Grew wr y) => number_any cl M.n _ _ mems a y ((HFUN.out.grew hgr).grew hy) (hnats.grew hy) (by omega) hmlt ha)
      have hres := (hgg.block _ hz2).trans HOBJ.out
      have HRES := hid hres
      have T1W := hid (T1.out.grew (grew_trans g02 hgg)); have T2W := hid (T2.out.grew (grew_trans g02 hgg))
      have m1' := (hc w.heap.size 1 hz0).trans r1
      have m2 := (hc w.heap.size 2 hz0).trans r2
      have m3 := (hc w.heap.size 3 hz0).trans r3
      have M1 := hid m1'; have M2 := hid m2; have M3 := hid m3
      have gwW := grew_trans g02 hgg
      have hidx : ((done.length : Int)) = (L.length : Int) := by omega
      obtain ⟨dl, hdl⟩ : ∃ dl, done.length = dl := ⟨_, rfl⟩
      have hdl2 : dl = L.length := by omega
      rw [hdl]
      subst hdl2
      obtain ⟨W, rfl⟩ : ∃ W : World, W = wr := ⟨_, rfl⟩
      have hbl0 := Built.start (W := W) (st := (L.length : Int)) (ops := (M.k : Int))
      clear hLe hmems hnums hrepc hmlt hnats hrl hL hmcell hmc hmo hmcap hmcapm hmcl hln hml hidx hres m2 m3 HI HSG HG hcnt hdl hQ r0 r1 r2 r3 hc
      go_wp2
      obtain ⟨W10, hW10⟩ : ∃ W10, W.alloc (.cells #[.int .i64 (L.length : Int), .int .i64 (M.k : Int), .slice none 0 0, .slice none 0 0] 24) = W10 := ⟨_, rfl⟩
      rw [hW10] at hbl0 ⊢
      have HB0 := hid hbl0
      clear hW10 hbl0
      have hk64 : (M.k : Int) ≤ 4 := by omega
      go_loopg [60] L.length (fun g i wr => ∃ (k : Nat) (nv sw : Value), k ≤ L.length ∧ i = .int .i64 k ∧ Hid (g = L.length - k) ∧ Hid (Built W wr L.length M.k nv sw ((List.range k).map (leastN M cl L)) ((List.range k).map (leastY M L))))
      case atStart => exact ⟨0, _, _, Nat.zero_le _, rfl, hid rfl, HB0⟩
      case round =>
        clear m1' hzz
        obtain ⟨k, tv, uv, hk, rfl, HG, HB⟩ := hrel
        have hzW : w.heap.size < W.heap.size := Nat.lt_of_lt_of_le hz0 hgg.size
        by_cases hlt : k < L.length
        · have hB := HB.out
          obtain ⟨ta, tc, htv⟩ := hB.next.shape
          obtain ⟨ua, uc', huv⟩ := hB.says.shape
          rw [List.length_map, List.length_range] at htv huv
          subst htv; subst huv
          have gB := hB.grew
          have hxn := HRL.out k hlt
          have hcf := (gB.cell (p := ⟨mg, moff + k, none⟩) hmg).trans (HMC.out k hlt)
          obtain ⟨x, hx⟩ : ∃ x, repW M L k = x := ⟨_, rfl⟩
          rw [hx] at hcf hxn
          have HX := hid hx
          have d1 := (gB.cell (p := ⟨w.heap.size, 1, none⟩) hzW).trans M1.out
          have z1 : w.heap.size < wr.heap.size := Nat.lt_of_lt_of_le hzW gB.size
          have hmg' : mg < wr.heap.size := Nat.lt_of_lt_of_le hmg gB.size
          obtain ⟨wo, rfl⟩ : ∃ wo : World, wo = wr := ⟨_, rfl⟩
          clear hB hx
          go_wp2
          clear hcf d1 z1 hmg'
          go_loopg [12, 66] M.k (fun g u i wi => ∃ j : Nat, j ≤ M.k ∧ i = .int .i64 j ∧ Hid (g = M.k - j) ∧ Grew wo wi ∧ Hid (Seg wi wo.heap.size 3 1 u j (((leastN M cl L k).take j).map (.int .i64))))
          case atStart => exact ⟨0, Nat.zero_le _, rfl, hid rfl, grew_refl _, hid (by simpa using Seg.nil _ _ _ _)⟩
          case round =>
            obtain ⟨j, hj, rfl, HGI, hgi, HSEG⟩ := hrel
            obtain ⟨sa, sc, rfl, _⟩ := HSEG.out.shape
            have gI := grew_trans gB hgi
            by_cases hjm : j < M.k
            · have hto := hM.nx x hxn j hjm
              have hnm := HNUM.out k j hlt hjm
              rw [HX.out] at hnm
              have T1B := T1W.out.grew gI
              obtain ⟨br, offr, cr, hr, hrb, hrc⟩ := T1B.2 x hxn
              replace hrc := hrc j hjm
              have hzb1 := T1B.1
              have d2 := (gI.cell (p := ⟨w.heap.size, 2, none⟩) hzW).trans M2.out
              have zw := Nat.lt_of_lt_of_le hzW gI.size
              have HN1 := fun (y : World) (hy : Grew W y) => HNU.out (M.nx x j) hto y hy
              rw [hnm] at HN1
              have hrow : (leastN M cl L k).take (j + 1) = (leastN M cl L k).take j ++ [((posW M cl L (M.nx x j) : Nat) : Int)] := by
                rw [take_succ_nth (by simpa [leastN] using hjm)]
                congr 2
                unfold leastN
                rw [nth_range_map hjm, HX.out]
              obtain ⟨ps, hps⟩ : ∃ ps, posW M cl L (M.nx x j) = ps := ⟨_, rfl⟩
              rw [hps] at HN1 hrow
              have HROW := hid hrow
              replace HN1 := hid HN1
              obtain ⟨wj, rfl⟩ : ∃ wj : World, wj = wr := ⟨_, rfl⟩
              have hsz := hgi.size
              clear hnm hps hrow T1B
              go_wp2_with (first
                | (go_at_call 101; (with_reducible refine (HN1.out _ gI).mono ?_); rintro e w7 ⟨rfl, hx7⟩; have HSEG7 := hid (HSEG.out.grew hx7); have hz7 : wo.heap.size ≤ w7.heap.size := (grew_trans hgi hx7).size)
                | (at_builtin; refine wpList_append_one rfl _ _ 34 rfl wo.heap.size 3 Try.underlying34 Try.info3 rfl (by decide) _ j _ rfl (HSEG7.out.alloc _) _ _ _ rfl (one_new _ _ _) rfl (by omega) ?_ ?_
                   (simp only [World.size_alloc]; omega)
                   intro v8 w8 hown8 hgrow8 hblk8
                   have hg8 : Grew wo w8 := ((grew_trans hgi hx7).alloc hz7 _).grown hgrow8 (by simp; omega) (fun k e => (HSEG7.out.own k e).1)
                   have HOWN8 := hid hown8; clear hown8 hgrow8 hblk8))
              go_roundg (M.k - (j + 1))
              case measure => have := HGI.out; omega
              case rel =>
                refine ⟨j + 1, by omega, by go_num, hid rfl, hg8, hid ?_⟩
                rw [HROW.out, List.map_append]; exact HOWN8.out
            · obtain rfl : M.k = j := by omega
              have hN : ((List.range k).map (leastN M cl L)).length = k := by rw [List.length_map, List.length_range]
              have hY : ((List.range k).map (leastY M L)).length = k := by rw [List.length_map, List.length_range]
              have HN := hid hN; have HY := hid hY; clear hN hY
              have hBi := HB.out.grown hgi
              obtain ⟨p0, p1, p2, p3, pf, hzb⟩ := hBi.cells
              obtain ⟨Vs, hVs, hV⟩ := hBi.next
              rw [List.length_map, List.length_range] at hVs hV
              have HV1 := hid hV; clear hV
              have HBI := hid hBi; clear hBi
              have hk9 : k < 1000000000 := by omega
              obtain ⟨wi, rfl⟩ : ∃ wi : World, wi = wr := ⟨_, rfl⟩
              go_wp2_with (at_builtin; refine wpList_append_one rfl _ _ 22 rfl (W.heap.size + 1) 34 Try.underlying22 Try.info34 rfl (by decide) _ k _ rfl (hVs.alloc _) _ _ _ rfl (one_new _ _ _) rfl hk9 ?_ ?_; (simp only [World.size_alloc]; omega); intro v1 w5 hown1 hgrow1 hblk1; obtain ⟨a1, c1', rfl, _⟩ := hown1.shape; obtain ⟨-, hobj1, -⟩ := HBI.out.after (T := (List.range k).map (leastN M cl L)) (v' := .slice a1 (k + 1) c1') 2 (grew_alloc (grew_refl wi) _) (by rw [HN.out]; exact hVs) hgrow1; obtain ⟨y0, y1, y2, y3, yf, hzy⟩ := cells4 hobj1; obtain ⟨w6, hw6⟩ : ∃ w6, w5.setCell ⟨W.heap.size, 2, none⟩ (.slice a1 (k + 1) c1') = w6 := ⟨_, rfl⟩)
              have hrowk : IsInts (IntObj 3) (wi.alloc (.cells #[Value.slice sa M.k sc] 34)) (.slice sa M.k sc) (leastN M cl L k) := by
                have h := (Reads.mono HSEG.out.isInts (S' := IntObj 3) (fun k o ⟨_, cur, ho⟩ => ⟨cur, _, ho⟩)).grew (grew_alloc (grew_refl wi) (.cells #[Value.slice sa M.k sc] 34))
                rwa [List.take_of_length_le (by simp [leastN])] at h
              have hB6 := HBI.out.next_snoc (v' := .slice a1 (k + 1) c1') (Vs := Vs) (row := leastN M cl L k) (grew_alloc (grew_refl wi) _) (by rw [HN.out]; exact hVs) (by rw [HN.out]; exact HV1.out) (by rw [HN.out]; exact hown1) hgrow1
                (hblk1.imp id (fun h => ⟨_, h, by simp⟩)) hrowk
              rw [hw6, ← range_snoc] at hB6
              obtain ⟨f0, f1, f2, f3, ff, hz6⟩ := hB6.cells
              have g36 := hB6.grew
              obtain ⟨Vs2, hVs2, hV2⟩ := hB6.says
              rw [HY.out] at hVs2 hV2
              have HV2 := hid hV2; have HB6 := hid hB6
              clear hw6 hV2 hB6 hrowk y0 y1 y2 y3 yf hzy hobj1 hgrow1 hblk1 hown1 hVs HV1 p0 p1 p2 p3 pf hzb HSEG hgi HBI gI w5
              obtain ⟨bs, offs, cs, hs2, hsb, hsc⟩ := T2W.out.2 x hxn
              have hread : Reads Any W (.slice (some ⟨bs, offs, none⟩) M.k cs) M.k (fun i => .int .i64 (M.sy x i)) := ⟨_, _, rfl, by omega, fun i hi => ⟨bs, offs, _, rfl, Array.getElem?_eq_getElem hsb, trivial, hsc i hi⟩⟩
              have HREAD := hid hread; clear hread hsc
              obtain ⟨i0, hi0, hi1, hi2, hi3⟩ := info_parts Try.info3
              have hsrc : Src Try.prog 1 34 (.slice (some ⟨bs, offs, none⟩) M.k cs) M.k ((List.range M.k).map (fun i => Value.int .i64 (M.sy x i))) (w6.drew.alloc (.cells #[] 3)) := src_reads (HREAD.out.grew (grew_alloc (grew_drew g36) _)) (fun i => rfl)
              have hseg0 : Seg (w6.drew.alloc (.cells #[] 3)) w6.heap.size 3 1 (.slice (some ⟨w6.heap.size, 0, none⟩) 0 0) 0 [] :=
                ⟨by simp, .inr ⟨w6.heap.size, 0, 0, #[], rfl, Nat.le_refl _, heap_alloc_new w6.drew _, Nat.le_refl _, by unfold maxLen; omega, by simp, by simp⟩⟩
              have HSRC := hid hsrc; clear hsrc
              have HSEG0 := hid hseg0; clear hseg0
              have hgd : Grew W w6.drew := grew_drew g36
              have x0 : (0 : Int) ≤ (x : Int) := by omega
              have x1 : (x : Int) < (M.n : Int) := by omega
              have fl3 := (g36.cell (p := ⟨w.heap.size, 3, none⟩) hzW).trans M3.out
              have fl4 := (g36.cell (p := ⟨b2, off2 + x, none⟩) T2W.out.1).trans hs2
              have fs1 := Nat.lt_of_lt_of_le hzW g36.size
              have fs2 := Nat.lt_of_lt_of_le T2W.out.1 g36.size
              go_region_law (first
                  | (refine step_append_one (by rfl) _ _ 22 (by rfl) (W.heap.size + 1) 34 Try.underlying22 Try.info34 rfl (by decide) _ k _ (by rfl) ((hVs2.grew hg67).alloc _) w7.heap.size _ _ (by rfl) (one_new _ _ _) rfl (by omega) (by simp; omega) ?_; intro v8 w8 hown8 hgrow8 hblk8; obtain ⟨a8, c8, rfl, _⟩ := hown8.shape; obtain ⟨-, hobj8, hG8⟩ := HB7.out.after (T := (List.range k).map (leastY M L)) (v' := .slice a8 (k + 1) c8) 3 (grew_alloc (grew_refl w7) _) (by rw [HY.out]; exact hVs2.grew hg67) hgrow8; obtain ⟨y0, y1, y2, y3, yf, hzy⟩ := cells4 hobj8)
                  | (refine step_append_seg (by rfl) _ _ 34 34 (by rfl) w6.heap.size 3 i0 (.int .i64 0) 1 8 Try.underlying34 hi0 hi1 hi2 hi3 rfl _ 0 [] (by rfl) HSEG0.out _ (by rfl) M.k _ HSRC.out (by unfold maxLen; omega) (by omega) (by simp) ?_; intro v7 w7 hown7 hgrow7 hblk7; rw [Nat.zero_add, List.nil_append] at hown7; have hseg7 := hown7; obtain ⟨a7, c7, rfl, _⟩ := hown7.shape; have hg67 : Grew w6 w7 := ((grew_drew (grew_refl w6)).alloc (Nat.le_refl _) _).grown hgrow7 (by simp) (fun k e => by simp [Value.ownBlock] at e; omega); have hG7 := grew_trans g36 hg67; have hB7 := HB6.out.grown hg67; obtain ⟨e0, e1, e2, e3, ef, ez7⟩ := hB7.cells; have HB7 := hid hB7; clear hB7))
              all_goals
                have hrow8 : IsInts (IntObj 3) (w7.alloc (.cells #[.slice a7 M.k c7] 34)) (.slice a7 M.k c7) (leastY M L k) := by
                  have he : (List.range M.k).map (fun i => Value.int .i64 (M.sy x i)) = (leastY M L k).map (.int .i64) := by
                    unfold leastY
                    rw [HX.out, List.map_map]
                    rfl
                  rw [he] at hseg7
                  exact (Reads.mono hseg7.isInts (S' := IntObj 3) (fun k o ⟨_, cur, ho⟩ => ⟨cur, _, ho⟩)).grew (grew_alloc (grew_refl w7) _)
                have hB9 := HB7.out.says_snoc (v' := .slice a8 (k + 1) c8) (Vs := Vs2) (row := leastY M L k) (grew_alloc (grew_refl w7) _) (by rw [HY.out]; exact hVs2.grew hg67) (by rw [HY.out]; exact fun i hi => let ⟨u, h1, h2⟩ := HV2.out i hi; ⟨u, h1, h2.grew hg67⟩)
                  (by rw [HY.out]; exact hown8) hgrow8 (hblk8.imp id (fun h => ⟨_, h, by simp⟩)) hrow8
                rw [← range_snoc] at hB9
                have HB9 := hid hB9
                clear hB9 hrow8 hgrow8 hblk8 hown8 hseg7
                go_wp2
                go_roundg (L.length - (k + 1))
                case measure => have := HG.out; omega
                case rel => exact ⟨k + 1, _, _, by omega, by go_num, hid rfl, HB9⟩
        · obtain rfl : L.length = k := by omega
          have hB := HB.out
          obtain ⟨ta, tc, htv⟩ := hB.next.shape
          obtain ⟨ua, uc', huv⟩ := hB.says.shape
          subst htv; subst huv
          obtain ⟨p0, p1, p2, p3, pf, hzb⟩ := hB.cells
          have gB := hB.grew
          have hobj := (gB.block _ (lt_of_obj HRES.out)).trans HRES.out
          obtain ⟨y0, y1, y2, y3, yf, hzy⟩ := cells4 hobj
          have HOB := hid hobj
          clear hobj hB
          go_wp2
          have hset := fun w' => set4 (w' := w') (c := #[.int .i64 0, .int .i64 0, .slice none 0 0, .slice none 0 0]) rfl (.int .i64 (L.length : Int)) (.int .i64 (M.k : Int)) (.slice ta ((List.range L.length).map (leastN M cl L)).length tc) (.slice ua ((List.range L.length).map (leastY M L)).length uc') HOB.out
          have hkp := fun w' => keeps_set4 (w' := w') (.int .i64 (L.length : Int)) (.int .i64 (M.k : Int)) (.slice ta ((List.range L.length).map (leastN M cl L)).length tc) (.slice ua ((List.range L.length).map (leastY M L)).length uc') HOB.out
          have hnx := HB.out.next
          have hsy := HB.out.says
          simp only [List.length_map, List.length_range] at hset hkp hnx hsy ⊢
          generalize hw8 : (((wr.setCell ⟨W0.heap.size, 0, none⟩ (.int .i64 (L.length : Int))).setCell ⟨W0.heap.size, 1, none⟩ (.int .i64 (M.k : Int))).setCell ⟨W0.heap.size, 2, none⟩ (.slice ta L.length tc)).setCell ⟨W0.heap.size, 3, none⟩ (.slice ua L.length uc') = w8
          obtain ⟨hobj8, hsz8⟩ := hset w8 hw8
          have hkp8 := hkp w8 hw8
          clear hset hkp hw8
          obtain ⟨d0, d1, d2, d3, -, hd⟩ := cells4 hobj8
          refine bodyPost_ret (results_least rfl rfl rfl d0 d1 d2 d3) rfl ⟨L, _, rfl, HL.out, ?_, ?_⟩
          · rw [HLS.out, HST.out]
            exact ⟨_, _, rfl, (hnx.keeps hkp8 (fun k cur _ ⟨_, c, ho⟩ => by cases ho) (fun k c fr ⟨_, c', ho⟩ => by cases ho)).isRows, (hsy.keeps hkp8 (fun k cur _ ⟨_, c, ho⟩ => by cases ho) (fun k c fr ⟨_, c', ho⟩ => by cases ho)).isRows⟩
          · have hgr := grew_trans gwW gB
            have hw0 := g0.size
            exact hgr.trans (hkp8.below hgr.size (fun k o h => by rw [h.1]; omega))
    · have hlt : done.length < (done ++ h :: tl).length := by simp
      have hd0 : done.length ≤ M.n := by omega
      obtain ⟨l0, hl0⟩ : ∃ l0, (done ++ h :: tl).length = l0 := ⟨_, rfl⟩
      rw [hl0] at HSG hlt
      have HL0 := hid hl0
      obtain ⟨la, lc, rfl, _⟩ := HSG.out.shape
      clear hl0 hcnt
      have hl1 : WInv (quotM M cl) (done ++ h :: tl) (Tried done h 0) := BInv.begin HI.out
      have HI1 := hid hl1
      clear hl1
      obtain ⟨wo, rfl⟩ : ∃ wo : World, wo = wr := ⟨_, rfl⟩
      go_wp2
      clear hc hzz
      go_loopg [5, 29] M.k (fun gk nv ov wi => ∃ (op : Nat) (tl : List E), ov = .int .i64 (op : Int) ∧ op ≤ M.k ∧ Hid (gk = M.k - op) ∧ Grew w4 wi ∧ Hid (WInv (quotM M cl) (done ++ h :: tl) (Tried done h op)) ∧ Hid (Seg wi w4.heap.size 3 1 nv (done ++ h :: tl).length (memCells M (done ++ h :: tl))))
      case atStart => exact ⟨0, tl, rfl, Nat.zero_le _, hid rfl, hgr, HI1, by rw [HL0.out]; exact HSG⟩
      case round =>
        clear HI HI1 HSG hgg hgr hlt
        obtain ⟨op, tl, rfl, hop, HGO, hgr, HI, HSG⟩ := hrel
        have hgg := grew_trans hg hgr
        have hc := (bcell hgg).1
        have hzz := Nat.lt_of_lt_of_le hz0 hgg.size
        by_cases hopk : op < M.k
        · have hdl : done.length < (done ++ h :: tl).length := by simp
          have hmv : (memCells M (done ++ h :: tl))[done.length]? = some (.int .i64 ((stM M 0 h.2.2 : Nat) : Int)) := by
            unfold memCells
            rw [List.getElem?_map, List.getElem?_append_right (Nat.le_refl _)]
            simp
          have HI0 := HI
          have hmem : h ∈ done ++ h :: tl := by simp
          obtain ⟨es, hes⟩ : ∃ es, done ++ h :: tl = es := ⟨_, rfl⟩
          rw [hes] at HSG hdl hmv hmem HI
          have HES := hid hes
          clear hes
          obtain ⟨la, lc, rfl, _⟩ := HSG.out.shape
          obtain ⟨mg, moff, mcap, mcur, hlv, hmb, hmo, hmcap, hmcapm, hmc⟩ := HSG.out.at (by omega)
          simp only [Value.slice.injEq] at hlv
          obtain ⟨rfl, _, rfl⟩ := hlv
          have hmx := hmc done.length (by omega)
          rw [hmv] at hmx
          obtain ⟨p1, _, _, p4⟩ := HI.out.path h hmem
          have hok : OkW M.k h.2.2 := p4
          have hh1 : h.1 = cl (stM M 0 h.2.2) := p1.trans (quot_st hS _ hok)
          have hxn : stM M 0 h.2.2 < M.n := stM_lt hM hM.n1 hok
          obtain ⟨x, hx⟩ : ∃ x, stM M 0 h.2.2 = x := ⟨_, rfl⟩
          rw [hx] at hmx hh1 hxn
          have hqn : (quotM M cl).nx h.1 op = cl (M.nx x op) := by
            show cl (M.nx h.1 op) = _
            exact hS.next (by rw [hh1]; exact hS.idem _) hopk
          have hbn := hM.nx x hxn op hopk
          have T1r := T1.out.grew (grew_trans g02 hgg)
          obtain ⟨e1, e2, e3, s1, s2, s3⟩ := T1r.2 x hxn
          replace s3 := s3 op hopk
          have hb1w := T1r.1
          have hmgw := lt_of_obj hmo
          have hcnt := WInv.count hQ HI.out
          rw [show (quotM M cl).n = M.n from rfl] at hcnt
          have hcls := mems_cls hS HI.out
          have hnats := memCells_reads HSG.out
          have HNU := hid (fun (y : World) (hy : Grew wr y) => number_any cl M.n _ _ (memsOf M es) (M.nx x op) y ((HFUN.out.grew hgr).grew hy) (hnats.grew hy) (by simp only [memsOf, List.length_map]; omega) (fun i hi => by
            have hi' : i < es.length := by simpa [memsOf] using hi
            have he := List.getElem_mem hi'
            obtain ⟨_, _, _, p5⟩ := HI.out.path _ he
            rw [nthN_lt hi]
            simp only [memsOf, List.getElem_map]
            exact stM_lt hM hM.n1 p5) hbn)
          rw [hcls] at HNU
          have HMO := hid hmo
          have HX := hid hx; have HQN := hid hqn
          have hlen9 : es.length < 1000000000 := by omega
          have hdi : ((done.length : Nat) : Int) < (es.length : Int) := by omega
          clear hmc hmcap hmcapm hmv p1 p4 hx hqn hcls hnats hmo T1r hok hh1
          by_cases hin : cl (M.nx x op) ∈ es.map fun e => e.1
          · have hnum : ∃ q : Nat, numI (es.map fun e => e.1) (cl (M.nx x op)) = (q : Int) := by
              unfold numI; rw [if_pos hin]; exact ⟨_, rfl⟩
            obtain ⟨q, hq⟩ := hnum
            rw [hq] at HNU
            have HIN := hid hin
            clear hq hin
            go_wp2
            go_region
            go_wp2_with (go_at_call 101; (with_reducible refine (HNU.out _ (grew_drew (grew_refl wr))).mono ?_); rintro e w7 ⟨rfl, hx7⟩)
            go_roundg (M.k - (op + 1))
            case measure => have := HGO.out; omega
            case rel =>
              have hg7 := grew_trans (grew_drew hgr) hx7
              have hgr7 : Grew wr w7 := grew_trans (grew_drew (grew_refl wr)) hx7
              refine ⟨op + 1, tl, by go_num, by omega, hid rfl, hg7, hid ?_, hid (by rw [HES.out]; exact HSG.out.grew hgr7)⟩
              obtain ⟨f, hf, hfe⟩ := List.mem_map.1 HIN.out
              exact BInv.seen HI0.out hopk rfl ⟨f, by rw [HES.out]; exact hf, by rw [hfe]; exact HQN.out.symm, HI.out.one hf⟩
          · have hnum : numI (es.map fun e => e.1) (cl (M.nx x op)) = -1 := by
              unfold numI; rw [if_neg hin]
            rw [hnum] at HNU
            have HIN := hid hin
            clear hnum hin
            obtain ⟨wp, rfl⟩ : ∃ wp : World, wp = wr := ⟨_, rfl⟩
            go_wp2
            go_region
            go_wp2_with (first
              | (go_at_call 101; (with_reducible refine (HNU.out _ (grew_drew (grew_refl wp))).mono ?_); rintro e w7 ⟨rfl, hx7⟩; have hgr7 : Grew wp w7 := grew_trans (grew_drew (grew_refl wp)) hx7; have HSG7 := hid (HSG.out.grew hgr7); have hz7 : w4.heap.size ≤ w7.heap.size := (grew_trans hgr hgr7).size)
              | (at_builtin; refine wpList_append_one rfl _ _ 34 rfl w4.heap.size 3 Try.underlying34 Try.info3 rfl (by decide) _ es.length _ rfl (HSG7.out.alloc _) _ _ _ rfl (one_new _ _ _) rfl hlen9 ?_ ?_
                 (simp only [World.size_alloc]; omega)
                 intro v8 w8 hown8 hgrow8 hblk8
                 have hg8 : Grew w4 w8 := ((grew_trans hgr hgr7).alloc hz7 _).grown hgrow8 (by simp; omega) (fun k e => (HSG7.out.own k e).1)
                 have HOWN8 := hid hown8; clear hown8 hgrow8 hblk8))
            go_roundg (M.k - (op + 1))
            case measure => have := HGO.out; omega
            case rel =>
              have hn := BInv.new HI0.out hopk rfl (fun ⟨f, hf, hf1, hf2⟩ => HIN.out (List.mem_map.2 ⟨f, by rw [← HES.out]; exact hf, by rw [hf1]; exact HQN.out⟩))
              refine ⟨op + 1, tl ++ [((quotM M cl).nx h.1 op, 0, h.2.2 ++ [op])], by go_num, by omega, hid rfl, hg8, hid hn, hid ?_⟩
              have hmc : memCells M (done ++ h :: (tl ++ [((quotM M cl).nx h.1 op, 0, h.2.2 ++ [op])])) = memCells M (done ++ h :: tl) ++ [.int .i64 ((M.nx x op : Nat) : Int)] := by
                unfold memCells
                simp only [List.map_append, List.map_cons, List.map_nil, List.append_assoc, List.cons_append, stM_snoc, HX.out]
              rw [HES.out] at hmc
              rw [hmc, show (done ++ h :: (tl ++ [((quotM M cl).nx h.1 op, 0, h.2.2 ++ [op])])).length = es.length + 1 by rw [← HES.out]; simp; omega]
              exact HOWN8.out
        · obtain rfl : op = M.k := by omega
          obtain ⟨la, lc, rfl, _⟩ := HSG.out.shape
          go_wp2
          go_roundg (65 - (done ++ [h]).length)
          case measure => have := HG.out; rw [List.length_append, List.length_singleton]; omega
          case rel =>
            refine ⟨done ++ [h], tl, by rw [List.length_append, List.length_singleton]; go_num, hid rfl, hgr, hid ?_, hid ?_⟩
            · have h3 := BInv.next HI.out
              simpa using h3
            · simpa using HSG.out
end Go.Proofs.Ytnebpcpihldllaa
