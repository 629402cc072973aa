/- Walk: legs$1 (99): what is ranged over, all places that a path leads to. -/
import Derived.Test.YtojkohpniokaaaaPgLegsP
import Derived.Test.YtojkohpniokaaaaPgVal
import Derived.RangeFuncNested
import Derived.Shelf.Abstract
import Derived.Shelf.RegionOpen
import Derived.TacticsInMore
import Derived.LoopNIn
import Derived.LoopIn
import Derived.Sort.LoopGhostIn
import Derived.Maps.OwnIn
namespace Go.Proofs.Ytojkohpniokaaaa
open Go Go.RowKit Go.Lin Go.Lin.Pg Go.Maps Go.Shelf
attribute [local go_sem] Oper.semAt_some

set_option maxHeartbeats 8000000 in
set_option maxRecDepth 100000 in
theorem legs_stops (ms : List Mv) (may : Mv → Bool) (a : Int) (N : Nat) (h8 : N ≤ 8) (hNm : InN N ms) (ha : 0 ≤ a ∧ a < (N : Int)) (h20 : ms.length ≤ 20) (c1 c2 c3 f : Nat) (caps : Array Value) (mv : Value) (w : World) (nf : Nat) (hnf : 3 ≤ nf)
    (yd : Nat → Obj → Prop) (h1 : w.cell? ⟨c1, 0, none⟩ = some (.int .i64 a)) (h2 : w.cell? ⟨c2, 1, none⟩ = some mv) (h3 : w.cell? ⟨c3, 0, none⟩ = some (.func (.func f) #[] caps))
    (hm1 : ∀ x, w.heap[c1]? = some x → ¬ yd c1 x) (hm2 : ∀ x, w.heap[c2]? = some x → ¬ yd c2 x) (hm3 : ∀ x, w.heap[c3]? = some x → ¬ yd c3 x) (hmv : MvsOff (fun k o => ¬ yd k o) w mv ms)
    (hcf : ∀ args w, (callFunc f args).run Try.prog w = .ok (.enter f args) w)
    (hf : ∀ W, Keeps yd w W → ∀ m ∈ ms, Calls Try.prog f (#[encM m] ++ caps) W fun e w' => e = .returned (.bool (may m)) ∧ Grew W w') :
    SeqT Fence.wide nf Try.prog 99 #[] #[.pointer (some ⟨c1, 0, none⟩), .pointer (some ⟨c2, 0, none⟩), .pointer (some ⟨c3, 0, none⟩)] encL yd (HasL w.heap.size ms may a) (AllL ms may a) w := by
  intro l J Jx W hgW hJ hY h0
  obtain ⟨n, hn⟩ : ∃ n, ms.length = n := ⟨_, rfl⟩
  obtain ⟨va, vc, rfl, hmv⟩ := hmv
  rw [hn] at h2
  have hN : ∀ (v : List Nat) (q : Int), goG ms may a v = some q → 0 ≤ q ∧ q < (N : Int) := fun v q h => goG_in hNm v ha h
  have hz1 := World.block_lt_of_cell? w _ h1
  have hz2 := World.block_lt_of_cell? w _ h2
  have hz3 := World.block_lt_of_cell? w _ h3
  simp only at hz1 hz2 hz3
  have k1 := (hgW.cell (p := ⟨c1, 0, none⟩) hz1).trans h1
  have hz1' := Nat.lt_of_lt_of_le hz1 hgW.size
  have hmm := @run_makeMap Try.prog
  have hkl : keyOf Try.prog 3 (encZ a) = some (.int .i64 a) := Maps.keyOf_int_mk Try.underlying3 (WalkArith.wf_i64 (by omega))
  have HKL := hid hkl; have HN := hid hN; have HMV := hid hmv; have HF := hid hf; have HNM := hid hNm; have HLN := hid hn
  have H1 := hid h1; have H2 := hid h2; have H3 := hid h3; have HM1 := hid hm1; have HM2 := hid hm2; have HM3 := hid hm3
  clear hkl hN hmv hf hNm h1 h2 h3 hm1 hm2 hm3
  refine callsIn_of_wp Try.func99 rfl trivial ?_ rfl
  simp only [Try.ntmps99, List.size_toArray, List.length_cons, List.length_nil, Nat.reduceAdd, Nat.reduceSub, Array.replicate_succ, Array.replicate_zero, List.push_toArray, List.append_toArray, List.nil_append, List.cons_append]
  gi_wp2_with (refine wpListIn_update_f rfl _ _ _ 112 (.inr rfl) keyed3 Try.underlying112 rfl (FMap.made W Try.prog 3 4 encZ Lit.bool false) (by unfold maxLen; omega) a rfl HKL.out (fun u h => by simpa [encZ] using h) (.bool true) rfl (e := true) (plainElem_bool Try.underlying4 true) (seenL [((a, []), .slice none 0 0)]) (by simp [seenL, lPl]) (fun u hu => by simp [seenL, lPl]; exact hu) ?_; intro w2 hmap hgr; have k1' := ((((grew_refl W).alloc (Nat.le_refl _) _).grown hgr (by simp) (fun k e => by cases e; exact Nat.le_refl _)).cell (p := ⟨c1, 0, none⟩) hz1').trans k1; have hz1'' := Nat.lt_of_lt_of_le hz1' (Nat.le_of_lt hmap.lt))
  have gw : Grew W w2 := ((grew_refl W).alloc (Nat.le_refl _) _).grown hgr (by simp) (fun k e => by cases e; exact Nat.le_refl _)
  obtain ⟨w3, hw3, g3, x0, x1, hz3'⟩ := box2 w2 (.int .i64 a) (.slice none 0 0) 104
  rw [hw3]
  have hseg3 : Seg w3 W.heap.size 104 2 (.slice (some ⟨w2.heap.size, 0, none⟩) 1 1) 1 (cellsL [((a, []), .slice none 0 0)]) := by
    rw [← hw3]
    exact Seg.lit w2 W.heap.size 104 2 #[.int .i64 a, .slice none 0 0] gw.size rfl
  have g3W := grew_trans gw g3
  have hinv0 : GInv ms may a (([] ++ [((a, []), Value.slice none 0 0)] : List LX).map (·.1)) (fun e _ => e ∈ ([] : List LX).map (·.1)) :=
    (GInv.start ms may a).congr (fun e _ o _ => by simp) (fun e o h => h.elim)
  have hline0 : LLine ms may a yd w W w3 (fun k => W.heap.size ≤ k ∧ k < w3.heap.size) (.slice (some ⟨w2.heap.size, 0, none⟩) 1 1) [] [((a, []), .slice none 0 0)] (fun e _ => e ∈ ([] : List LX).map (·.1)) := by
    refine ⟨(grew_trans hgW g3W).keeps, g3W.size, fun k h => h, hinv0, hseg3, ?_, ?_, ⟨Nat.le_refl _, by have := hmap.lt; have := g3.size; omega⟩, ⟨1, hmap.grew g3, by simp⟩⟩
    · intro k hk
      simp [Value.ownBlock] at hk
      subst hk
      exact ⟨gw.size, hz3'⟩
    · intro x hx
      simp only [List.mem_singleton] at hx; subst hx
      exact ⟨⟨none, 0, rfl, Nat.le_refl _⟩, Reads.nil _ _ _ _ _⟩
  have hJ0 : J [] (fun k => W.heap.size ≤ k ∧ k < w3.heap.size) w3 := hJ [] _ W w3 h0 g3W.keeps _ (fun k h => ⟨.inr h.1, h.2⟩)
  have HL0 := hid hline0; have HJ0 := hid hJ0; have HJ := hid hJ; have HY := hid hY
  have HWS := hid hgW.size
  clear hline0 hJ0 hJ hY hgr hmap hmm hinv0 hseg3 h0 hw3 x0 x1 k1 k1' g3W gw g3
  gi_loopg [6] 9 (fun g lv wr => ∃ (done L : List LX) (T : Nat → Prop), Hid (g = 9 - done.length) ∧ Hid (J done T wr) ∧ Hid (LLine ms may a yd w W wr T lv done L (fun e _ => e ∈ done.map (·.1))))
  case atStart => exact ⟨[], _, _, hid rfl, HJ0, HL0⟩
  case round =>
    clear HL0 HJ0
    obtain ⟨done, L, T, HG, HJd, HL⟩ := hrel
    rename World => wr
    obtain ⟨la, lc, rfl, _⟩ := HL.out.seg.shape
    have hn1 : 1 ≤ nf := by omega
    rcases L with _ | ⟨x, tail⟩
    · simp only [List.length_nil] at *
      gi_wp2
      go_end0
      have hall := HL.out.inv
      rw [List.append_nil] at hall
      refine ⟨⟨_, rfl⟩, .inl ⟨done, T, ⟨fun y hy => hall.isWay (List.mem_map_of_mem hy), ?_, fun v q hv => ?_⟩, HJd.out⟩⟩
      · have := hall.nodup
        rw [List.map_map] at this
        exact this
      · obtain ⟨e, he, hfe, _⟩ := hall.all v q hv
        obtain ⟨y, hy, rfl⟩ := List.mem_map.1 he
        rw [← hfe]
        exact List.mem_map_of_mem (f := fun x : LX => x.1.1) hy
    · obtain ⟨⟨xs, xw⟩, xv⟩ := x
      obtain ⟨g, off, cap, cur, hlv, hbg, hgo, hcap, hcapm, hcells⟩ := HL.out.seg.at (by simp)
      simp only [Value.slice.injEq] at hlv
      obtain ⟨rfl, _, rfl⟩ := hlv
      have hinv1 : GInv ms may a ((done ++ ((xs, xw), xv) :: tail).map (·.1)) (Tried (done.map (·.1)) (xs, xw) 0) := by
        have h := HL.out.inv
        rw [List.map_append, List.map_cons] at h ⊢
        exact h.begin
      have hhas := (HL.out.congr hinv1).has h8 HN.out
      have j0 := hcells 0 (by simp)
      have j1 := hcells 1 (by simp; omega)
      simp only [cellsL, List.flatMap_cons, List.cons_append, List.getElem?_cons_zero, List.getElem?_cons_succ, Nat.add_zero] at j0 j1
      obtain ⟨⟨wva, wvc, hwv, _⟩, _⟩ := id hhas.path
      simp only [pInts, List.length_map] at hwv
      subst hwv
      have hlen : (0 : Int) < ((((xs, xw), Value.slice wva xw.length wvc) :: tail).length : Int) := by simp
      obtain ⟨P0, hP0, gp, q0, q1, hzp⟩ := box2 wr (.int .i64 xs) (.slice wva xw.length wvc) 104
      have hgt : g < wr.heap.size := lt_of_obj hgo
      have HHAS := hid hhas; have HINV1 := hid hinv1
      clear hcells hgo hhas hinv1
      have hJ1 : J done (fun k => T k ∨ k = wr.heap.size) P0 := HJ.out done T wr P0 HJd.out gp.keeps _ (fun k h => by
        rcases h with h | h
        · have := HL.out.own k h; have := gp.size; exact ⟨.inl h, by omega⟩
        · subst h; exact ⟨.inr (Nat.le_refl _), hzp⟩)
      have hh1 : HasL w.heap.size ms may a done ((xs, xw), Value.slice wva xw.length wvc) P0 := ⟨(HHAS.out.path.grew gp).re (fun k o _ h => ⟨h.1, Nat.le_trans HWS.out h.2⟩), HHAS.out.way, HHAS.out.new, HHAS.out.few, HHAS.out.short⟩
      have hy := HY.out done _ _ P0 hJ1 hh1
      dsimp only [encL] at hy
      obtain ⟨fn, tmps, assign, body, hy, hR⟩ := hy
      have HL1 := hid (((HL.out.congr HINV1.out).grew gp (T' := fun k => T k ∨ k = wr.heap.size) (fun k h => .inl h) (fun k h => by
        rcases h with h | h
        · have := HL.out.own k h; have := gp.size; omega
        · subst h; exact ⟨HL.out.size, hzp⟩)))
      have hob : P0.heap[wr.heap.size]? = some (.cells #[.int .i64 xs, .slice wva xw.length wvc] 104 (0, 0)) := by rw [← hP0]; exact heap_alloc_new wr _
      have hbx := lt_of_obj hob
      have HOB := hid hob
      clear hob hJ1 hh1
      gi_wp2
      refine hR.mono ?_
      rintro e W3 (⟨rfl, hJ3, hk3⟩ | ⟨rfl, hJx3⟩)
      · clear q0 q1 j0 j1 hy hR hbx
        have hk3' := hk3.size
        have HL3 := hid (HL1.out.keeps hk3 (fun k h => h) (fun k h => by have := HL1.out.own k h; omega))
        have hob3 := hk3.obj _ _ HOB.out (fun hn => hn.1 (.inr rfl))
        have HOB3 := hid hob3
        have HJ3 := hid hJ3
        have hkw := HL3.out.keep
        have e0 : W3.cell? ⟨wr.heap.size, 0, none⟩ = some (.int .i64 xs) := cell_of_row _ _ _ _ _ _ hob3
        have m2 := cell_keeps hkw HM2.out H2.out
        have HW := hid hkw
        clear hob3 hJ3 hk3 HL1 HOB hP0 hkw
        have hown : (Value.slice (some ⟨g, off, none⟩) (tail.length + 1) lc).ownBlock ≠ some wr.heap.size := by
          simp [Value.ownBlock]; omega
        have HOWN := hid hown; clear hown
        obtain ⟨wo, rfl⟩ : ∃ wo : World, wo = wr := ⟨_, rfl⟩
        gi_wp2
        clear e0 m2
        gi_loopg [6, 8, 9, 31] n (fun gk lv _ _ oi wi => ∃ (op : Nat) (tl : List LX) (T' : Nat → Prop), oi = .int .i64 (op : Int) ∧ op ≤ n ∧ Hid (gk = n - op) ∧ Hid (J (done ++ [((xs, xw), Value.slice wva xw.length wvc)]) T' wi) ∧
          Hid (LLine ms may a yd w W wi T' lv done (((xs, xw), Value.slice wva xw.length wvc) :: tl) (Tried (done.map (·.1)) (xs, xw) op)) ∧
          Hid (lv.ownBlock ≠ some wo.heap.size) ∧ Hid (T' wo.heap.size) ∧ Hid (wi.heap[wo.heap.size]? = some (.cells #[.int .i64 xs, .slice wva xw.length wvc] 104 (0, 0))))
        case atStart => exact ⟨0, tail, _, rfl, Nat.zero_le _, hid rfl, HJ3, HL3, HOWN, hid (.inr rfl), HOB3⟩
        case round =>
          clear HL3 HOWN HOB3 HJ3 HJd HL HW
          obtain ⟨op, tl, T', rfl, hop, HGK, HJI, HLI, HOWN, HTB, HOBI⟩ := hrel
          rename World => wi
          obtain ⟨la', lc', rfl, _⟩ := HLI.out.seg.shape
          by_cases hopk : op < n
          · have hopi : (op : Int) < (n : Int) := by omega
            obtain ⟨x, hx⟩ : ∃ x, ms[op]? = some x := ⟨_, List.getElem?_eq_getElem (by rw [HLN.out]; exact hopk)⟩
            obtain ⟨bb, boff, bo, rfl, hbo, hbn, hpa⟩ := HMV.out op x hx
            have hpa2 := hpa.keeps HLI.out.keep hbo hbn
            have p0 := hpa2.c0
            have p1 := hpa2.c1
            have p2 := hpa2.c2
            have p3 := hpa2.c3
            have hplt := hpa2.lt
            have hxm := List.mem_of_getElem? hx
            have hxN := HNM.out x hxm
            obtain ⟨W1, hW1, g1, hb1⟩ := box4v wi x
            have HKW1 := hid (HLI.out.keep.trans (g1.keeps (may := yd)))
            have l0 := hb1.c0
            have l1 := hb1.c1
            have l2 := hb1.c2
            have l3 := hb1.c3
            have hz1' := hb1.lt
            have HFX := hid (HF.out W1 HKW1.out x hxm)
            obtain ⟨bm, hbm⟩ : ∃ b, may x = b := ⟨_, rfl⟩
            rw [hbm] at HFX
            have HX := hid hx; have HMAY := hid hbm
            have obj1 := (g1.block _ (lt_of_obj HOBI.out)).trans HOBI.out
            have e0 : W1.cell? ⟨wo.heap.size, 0, none⟩ = some (.int .i64 xs) := cell_of_row _ _ _ _ _ _ obj1
            have e1 : W1.cell? ⟨wo.heap.size, 1, none⟩ = some (.slice wva xw.length wvc) := cell_of_row _ _ _ _ _ _ obj1
            have ll1 := lt_of_obj obj1
            have m3 := cell_keeps HKW1.out HM3.out H3.out
            have lm3 := World.block_lt_of_cell? W1 _ m3
            simp only at lm3
            obtain ⟨x1, x2, x3, x4⟩ := x
            simp only [Nat.zero_add, encM] at p0 p1 p2 p3 l0 l1 l2 l3 hW1 HFX
            simp only [fr, tg] at hxN
            have HG1 := hid g1
            clear hx hbo hbn hpa hpa2 hb1 obj1 hxm hbm
            by_cases hfr : x1 = xs
            · subst hfr
              cases bm with
              | false =>
                gi_wp2
                refine ⟨trivial, (callsIn_wide.2 HFX.out).mono ?_⟩
                rintro e w5 ⟨rfl, hx5⟩
                have HX5 := hid (grew_trans HG1.out hx5)
                gi_wp2
                gi_roundg (n - (op + 1))
                case measure => have := HGK.out; omega
                case rel =>
                  refine ⟨op + 1, tl, fun k => T' k ∨ (wi.heap.size ≤ k ∧ k < w5.heap.size), by go_num, by omega, hid rfl, hid (HJ.out _ T' wi w5 HJI.out (HX5.out.keeps) _ (fun k h => ?_)), hid ((HLI.out.grew HX5.out (fun k h => .inl h) (fun k h => ?_)).congr ?_), HOWN, hid (.inl HTB.out), hid ((HX5.out.block _ (lt_of_obj HOBI.out)).trans HOBI.out)⟩
                  · have := HX5.out.size
                    rcases h with h | h
                    · have := HLI.out.own k h; exact ⟨.inl h, by omega⟩
                    · exact ⟨.inr h.1, h.2⟩
                  · have := HX5.out.size
                    have := HLI.out.size
                    rcases h with h | h
                    · have := HLI.out.own k h; omega
                    · omega
                  · have hi := HLI.out.inv
                    rw [List.map_append, List.map_cons] at hi ⊢
                    refine hi.skip (fun m' hm' hf' hy' => ?_)
                    rw [HX.out] at hm'; cases hm'
                    rw [HMAY.out] at hy'; cases hy'
              | true =>
                obtain ⟨nm, hmapI, hnm⟩ := HLI.out.map
                have HM := hid hmapI; have HNM2 := hid hnm; clear hmapI hnm
                have hkl : keyOf Try.prog 3 (encZ x3) = some (.int .i64 x3) := Maps.keyOf_int_mk Try.underlying3 (WalkArith.wf_i64 (by omega))
                have HKL := hid hkl; clear hkl
                gi_wp2
                refine ⟨trivial, (callsIn_wide.2 HFX.out).mono ?_⟩
                rintro e w5 ⟨rfl, hx5⟩
                have HX5 := hid (grew_trans HG1.out hx5)
                have hM5 := HM.out.grew HX5.out
                have hlk := hM5.lookup_bool keyed3 Try.underlying112 Try.underlying4 (zero4 w5) HKL.out
                have f2 := (hx5.cell (p := ⟨wi.heap.size, 2, none⟩) hz1').trans l2
                have hzm5 := Nat.lt_of_lt_of_le hz1' hx5.size
                have HM5 := hid hM5
                by_cases hseen : seenL (done ++ (((x1, xw), Value.slice wva xw.length wvc) :: tl)) x3 = true
                · have HSEEN := hid hseen
                  rw [hseen] at hlk
                  simp only [encZ] at hlk
                  clear hM5
                  gi_wp2
                  gi_roundg (n - (op + 1))
                  case measure => have := HGK.out; omega
                  case rel =>
                    refine ⟨op + 1, tl, fun k => T' k ∨ (wi.heap.size ≤ k ∧ k < w5.heap.size), by go_num, by omega, hid rfl, hid (HJ.out _ T' wi w5 HJI.out (HX5.out.keeps) _ (fun k h => ?_)), hid ((HLI.out.grew HX5.out (fun k h => .inl h) (fun k h => ?_)).congr ?_), HOWN, hid (.inl HTB.out), hid ((HX5.out.block _ (lt_of_obj HOBI.out)).trans HOBI.out)⟩
                    · have := HX5.out.size
                      rcases h with h | h
                      · have := HLI.out.own k h; exact ⟨.inl h, by omega⟩
                      · exact ⟨.inr h.1, h.2⟩
                    · have := HX5.out.size
                      have := HLI.out.size
                      rcases h with h | h
                      · have := HLI.out.own k h; omega
                      · omega
                    · have hi := HLI.out.inv
                      rw [List.map_append, List.map_cons] at hi ⊢
                      refine hi.skip (fun m' hm' hf' hy' => ?_)
                      rw [HX.out] at hm'; cases hm'
                      obtain ⟨y, hy1, hy2⟩ := List.mem_map.1 (seenL_iff.1 HSEEN.out)
                      exact ⟨y.1, by have := List.mem_map_of_mem (f := fun z : LX => z.1) hy1; simpa using this, hy2⟩
                · have HSEEN := hid hseen
                  replace hseen : seenL (done ++ (((x1, xw), Value.slice wva xw.length wvc) :: tl)) x3 = false := by simpa using hseen
                  rw [hseen] at hlk
                  simp only [encZ] at hlk
                  have hcnt := HLI.out.inv.count (N := N) (fun e he => HN.out _ _ (HLI.out.inv.path e he))
                  have hwl := HLI.out.inv.wordlen (f := (x1, xw)) (by simp)
                  simp only [List.map_append, List.map_cons, List.length_append, List.length_map, List.length_cons] at hcnt hwl
                  have hnm2 : nm < 1000 := by have := HNM2.out; simp only [List.length_append, List.length_cons] at this; omega
                  have hxw9 : xw.length < 1000000000 := by omega
                  have htl : tl.length + 1 < 1000000000 := by omega
                  have HWD := hid (HLI.out.words ((x1, xw), Value.slice wva xw.length wvc) (by simp))
                  clear hM5
                  gi_wp2_with (gi_at_mapUpdate; go_loud (refine wpListIn_update_f rfl _ _ _ 112 (.inl rfl) keyed3 Try.underlying112 rfl HM5.out (by unfold maxLen; omega) x3 rfl HKL.out (fun u h => encZ_inj _ _ h) (.bool true) rfl (e := true) (plainElem_bool Try.underlying4 true) (seenL ((done ++ (((x1, xw), Value.slice wva xw.length wvc) :: tl)) ++ [((x3, xw ++ [op]), .slice none 0 0)])) (seenL_iff.2 (by simp [lPl])) (fun u hu => by rw [Bool.eq_iff_iff, seenL_iff, seenL_iff]; simp [lPl, hu]) ?_); intro w7 hmap7 hgr7; have HK57 := hid (mapKeeps HM5.out hgr7); have HGR7 := hid hgr7; have HM7 := hid hmap7; clear hgr7 hmap7)
                  have HGI5 := HX5
                  have ob5 := (HX5.out.block _ (lt_of_obj HOBI.out)).trans HOBI.out
                  have ob7 := HK57.out.obj _ _ ob5 (fun ⟨_, es, c, ho⟩ => by cases ho)
                  have om5 : w5.heap[wi.heap.size]? = some (.cells #[.int .i64 x1, .int .i64 x2, .int .i64 x3, .bool x4] 50 (0, 0)) := (hx5.block _ hz1').trans (by rw [← hW1]; exact heap_alloc_new wi _)
                  have om7 := HK57.out.obj _ _ om5 (fun ⟨_, es, c, ho⟩ => by cases ho)
                  have d0 : w7.cell? ⟨wi.heap.size, 2, none⟩ = some (.int .i64 x3) := cell_of_row _ _ _ _ _ _ om7
                  have d1 : w7.cell? ⟨wo.heap.size, 1, none⟩ = some (.slice wva xw.length wvc) := cell_of_row _ _ _ _ _ _ ob7
                  have lm := lt_of_obj om7
                  have ll := lt_of_obj ob7
                  have HSG7 := hid (((HLI.out.seg.grew HX5.out).keeps HK57.out (fun k o _ ⟨cur, ho⟩ ⟨_, es, c, ho2⟩ => by rw [ho] at ho2; cases ho2)))
                  have HWS7 := hid (show W.heap.size ≤ w7.heap.size by have := HLI.out.size; have := HX5.out.size; have := HK57.out.size; omega)
                  have HWD7 := hid ((HWD.out.grew HX5.out).keeps HK57.out (fun k o ⟨_, c, fr, ho⟩ ⟨_, es, c', ho2⟩ => by rw [ho] at ho2; cases ho2))
                  have hmx : Try.prog.follows .mixedOrders = true := by kernel_rfl
                  clear ob5 ob7 om5 om7 hlk f2 l0 l1 l2 l3 e0 e1
                  try simp only [Act.put]
                  refine wpIn_region_gate (fun w' => w'.cell? ⟨wi.heap.size, 2, none⟩ = some (.int .i64 x3) ∧ w'.cell? ⟨wo.heap.size, 1, none⟩ = some (.slice wva xw.length wvc)) 11 hmx ?_
                  have hS0 : w7.drew.cell? ⟨wi.heap.size, 2, none⟩ = some (.int .i64 x3) ∧ w7.drew.cell? ⟨wo.heap.size, 1, none⟩ = some (.slice wva xw.length wvc) := ⟨d0, d1⟩
                  refine wpAnyG_take (i := 0) [] rfl (by kernel_rfl) (by kernel_rfl) (by kernel_rfl) (by kernel_rfl) (by kernel_rfl) (by kernel_rfl) (fun _ _ _ h => h) (fun _ => rfl) (v := .slice la' (tl.length + 1) lc') (fun w' h => ?_) (fun _ => rfl) (by assumption) ?_
                  · (go_simp)
                  simp only [Act.put, List.setIfInBounds_toArray, List.set_cons_zero, List.set_cons_succ]
                  refine wpAnyG_take (i := 1) [10, 9, 2] rfl (by kernel_rfl) (by kernel_rfl) (by kernel_rfl) (by kernel_rfl) (by kernel_rfl) (by kernel_rfl) (fun _ _ _ h => h) (fun _ => rfl) (v := .pointer (some ⟨wi.heap.size, 2, none⟩)) (fun w' h => ?_) (fun _ => rfl) (by assumption) ?_
                  · (go_simp)
                  simp only [Act.put, List.setIfInBounds_toArray, List.set_cons_zero, List.set_cons_succ]
                  refine wpAnyG_take (i := 2) [10, 9] rfl (by kernel_rfl) (by kernel_rfl) (by kernel_rfl) (by kernel_rfl) (by kernel_rfl) (by kernel_rfl) (fun _ _ _ h => h) (fun _ => rfl) (v := .int .i64 x3) (fun w' h => ?_) (fun _ => rfl) (by assumption) ?_
                  · (obtain ⟨h1, h2⟩ := h; go_simp)
                  simp only [Act.put, List.setIfInBounds_toArray, List.set_cons_zero, List.set_cons_succ]
                  refine wpAnyG_take (i := 3) [10, 9, 8, 5, 4] rfl (by kernel_rfl) (by kernel_rfl) (by kernel_rfl) (by kernel_rfl) (by kernel_rfl) (by kernel_rfl) (fun _ _ _ h => h) (fun _ => rfl) (v := .pointer (some ⟨wo.heap.size, 1, none⟩)) (fun w' h => ?_) (fun _ => rfl) (by assumption) ?_
                  · (go_simp)
                  simp only [Act.put, List.setIfInBounds_toArray, List.set_cons_zero, List.set_cons_succ]
                  refine wpAnyG_take (i := 4) [10, 9, 8, 5] rfl (by kernel_rfl) (by kernel_rfl) (by kernel_rfl) (by kernel_rfl) (by kernel_rfl) (by kernel_rfl) (fun _ _ _ h => h) (fun _ => rfl) (v := .slice wva xw.length wvc) (fun w' h => ?_) (fun _ => rfl) (by assumption) ?_
                  · (obtain ⟨h1, h2⟩ := h; go_simp)
                  simp only [Act.put, List.setIfInBounds_toArray, List.set_cons_zero, List.set_cons_succ]
                  refine wpAnyG_take (i := 6) [10, 9, 8, 7] rfl (by kernel_rfl) (by kernel_rfl) (by kernel_rfl) (by kernel_rfl) (by kernel_rfl) (by kernel_rfl) (fun _ _ _ h => h) (fun _ => rfl) (v := .int .i64 (op : Int)) (fun w' h => ?_) (fun _ => rfl) (by assumption) ?_
                  · (go_simp)
                  simp only [Act.put, List.setIfInBounds_toArray, List.set_cons_zero, List.set_cons_succ]
                  have HCL := hid (fun (W' : World) (hW' : Grew w7 W') => clone_ints (.slice wva xw.length wvc) xw.length (pInts xw) W' (by simp [pInts]) (by omega) (HWD7.out.wd.grew hW').ints)
                  refine wpAnyG_two (i := 5) (k := 7) rfl rfl (by kernel_rfl) ?_ ?_
                  · gi_wp2_with (refine ⟨trivial, ?_⟩; gi_at_call 100; refine (callsIn_wide.2 (HCL.out _ (grew_drew (grew_refl w7)))).mono ?_; rintro e w8 ⟨cv, rfl, hs8, hg8⟩; have HS4' := hid hs8; have HG45 := hid (grew_trans (grew_drew (grew_refl w7)) hg8); obtain ⟨ca, cc, rfl, _⟩ := hs8.shape; clear hs8 hg8)
                    refine ⟨fun _ => ⟨(HG45.out.cell (p := ⟨wi.heap.size, 2, none⟩) lm).trans d0, (HG45.out.cell (p := ⟨wo.heap.size, 1, none⟩) ll).trans d1⟩, ?_⟩
                    refine wpAnyG_one (i := 7) rfl (by kernel_rfl) ?_
                    gi_wp2
                    have HG8 := hid (grew_alloc HG45.out (.cells #[.int .i64 (op : Int)] 3))
                    have HS8 := hid ((HS4'.out.alloc (.cells #[.int .i64 (op : Int)] 3)).mono (base' := w7.heap.size) (Nat.le_refl _))
                    refine ⟨fun _ => ⟨(HG8.out.cell (p := ⟨wi.heap.size, 2, none⟩) lm).trans d0, (HG8.out.cell (p := ⟨wo.heap.size, 1, none⟩) ll).trans d1⟩, ?_⟩
                    refine wpAnyG_one (i := 8) rfl (by kernel_rfl) ?_
                    gi_wp2_with (gi_at_builtin; refine wpListIn_append_one rfl _ _ 25 rfl w7.heap.size 3 Try.underlying25 Try.info3 rfl (by decide) _ xw.length _ rfl HS8.out w8.heap.size 1 (.int .i64 (op : Int)) rfl (show _ = _ from one_new w8 _ _) rfl hxw9 ?_ ?_; (first | (have := HG8.out.size; omega) | (have := HG45.out.size; simp only [World.size_alloc]; omega)); intro v9 w9 hown9 hgrow9 hblk9; have hg9 : Grew w7 w9 := HG8.out.grown hgrow9 HG8.out.size (fun k e => (HS8.out.own k e).1); have HG9 := hid hg9; have HS9 := hid hown9; obtain ⟨a9, c9, rfl, _⟩ := hown9.shape; clear hown9 hgrow9 hblk9 hg9)
                    refine ⟨fun _ => ⟨(HG9.out.cell (p := ⟨wi.heap.size, 2, none⟩) lm).trans d0, (HG9.out.cell (p := ⟨wo.heap.size, 1, none⟩) ll).trans d1⟩, ?_⟩
                    refine wpAnyG_one (i := 9) rfl (by kernel_rfl) ?_
                    gi_wp2
                    refine ⟨fun _ => ⟨(HG9.out.cell (p := ⟨wi.heap.size, 2, none⟩) lm).trans d0, (HG9.out.cell (p := ⟨wo.heap.size, 1, none⟩) ll).trans d1⟩, ?_⟩
                    refine wpAnyG_one (i := 10) rfl (by kernel_rfl) ?_
                    gi_wp2
                    have HGA := hid (grew_alloc HG9.out (.cells #[.int .i64 x3, .slice a9 (xw.length + 1) c9] 104))
                    refine ⟨fun _ => ⟨(HGA.out.cell (p := ⟨wi.heap.size, 2, none⟩) lm).trans d0, (HGA.out.cell (p := ⟨wo.heap.size, 1, none⟩) ll).trans d1⟩, ?_⟩
                    refine wpAnyG_one (i := 11) rfl (by kernel_rfl) ?_
                    gi_wp2_with (gi_at_builtin; refine wpListIn_append_lit rfl _ _ 113 rfl W.heap.size 104 Try.underlying113 Try.info104 rfl (by decide) _ (tl.length + 1) _ rfl (HSG7.out.grew HG9.out) [.int .i64 x3, .slice a9 (xw.length + 1) c9] 104 _ rfl rfl ?_ htl (by have := HWS7.out; have := HG9.out.size; omega) ?_; (simp [Value.oneCell']); intro v10 w10 hown10 hgrow10 hblk10; have HOWN10 := hid hown10; have HGROW10 := hid hgrow10; have HBLK10 := hid hblk10; obtain ⟨a10, c10, rfl, _⟩ := hown10.shape; clear hown10 hgrow10 hblk10)
                    refine ⟨gate_done (by kernel_rfl), ?_⟩
                    refine wpAnyG_one (i := 12) rfl (by kernel_rfl) ?_
                    gi_wp2
                    refine ⟨gate_done (by kernel_rfl), ?_⟩
                    refine wpAnyG_done (by kernel_rfl) ?_ _
                    simp only [NoP]
                    have HS4 := hid (HSG7.out.grew HG9.out)
                    have hk910 : Keeps (fun k o => (Value.slice la' (tl.length + 1) lc').ownBlock = some k ∧ ∃ c fr, o = .cells c 104 fr) w9 w10 := ((Keeps.refl _ w9).alloc _).grown HGROW10.out (fun k o e ho => by obtain ⟨_, _, cur, hcur⟩ := HS4.out.own k e; have h2 : (w9.alloc (.cells #[.int .i64 x3, .slice a9 (xw.length + 1) c9] 104)).heap[k]? = some (.cells cur 104 (0, 0)) := (Below.heap_alloc _ _ k (lt_of_obj hcur)).trans hcur; rw [h2] at ho; cases ho; exact ⟨e, _, _, rfl⟩)
                    have hk57 : Keeps (fun k o => T' k ∧ ((∃ es c, o = .map es c) ∨ ((Value.slice la' (tl.length + 1) lc').ownBlock = some k ∧ ∃ c fr, o = .cells c 104 fr))) wi w7 := (HGI5.out.keeps).trans (HK57.out.mono (fun k o ⟨e, h⟩ => ⟨by rw [e]; exact HLI.out.mapT, .inl h⟩))
                    have hk := (hk57.trans (Grew.keeps HG9.out (may := fun k o => T' k ∧ ((∃ es c, o = .map es c) ∨ ((Value.slice la' (tl.length + 1) lc').ownBlock = some k ∧ ∃ c fr, o = .cells c 104 fr))))).trans (hk910.mono (fun k o h => ⟨HLI.out.segT k h.1, .inr h⟩))
                    have HK := hid hk
                    have hz57 := hk57.size; have hz79 := HG9.out.size; have hz910 := hk910.size
                    have hnw : wo.heap.size < wi.heap.size := lt_of_obj HOBI.out
                    have hwsz := HLI.out.size
                    have HK910 := hid hk910
                    have HZ := hid (And.intro hz57 (And.intro hz79 hz910))
                    gi_wp2
                    gi_roundg (n - (op + 1))
                    case measure => have := HGK.out; omega
                    case rel =>
                      refine ⟨op + 1, tl ++ [((x3, xw ++ [op]), .slice a9 (xw.length + 1) c9)], fun k => T' k ∨ (wi.heap.size ≤ k ∧ k < w10.heap.size), by go_num, by omega, hid rfl, hid (HJ.out _ T' wi w10 HJI.out (HK.out.mono (fun k o h => h.1)) _ (fun k h => ?_)), hid ?_, hid ?_, hid (.inl HTB.out), hid (HK.out.obj _ _ HOBI.out ?_)⟩
                      · rcases h with h | h
                        · have := HLI.out.own k h; exact ⟨.inl h, by omega⟩
                        · exact ⟨.inr h.1, h.2⟩
                      · refine ⟨?_, by omega, ?_, ?_, ?_, ?_, ?_, .inl HLI.out.mapT, ⟨nm + 1, ?_, ?_⟩⟩
                        · exact HLI.out.keep.trans' HK.out (fun k o ho hm => by have := HLI.out.own k hm.1; have := lt_of_obj ho; have := HWS.out; omega)
                        · intro k h
                          rcases h with h | h
                          · have := HLI.out.own k h; omega
                          · omega
                        · have hi := HLI.out.inv
                          rw [List.map_append, List.map_cons] at hi ⊢
                          have h := GInv.new hi HX.out rfl HMAY.out (fun ⟨f, hf, hf1⟩ => HSEEN.out (seenL_iff.2 (by
                            have hf' : f ∈ (done ++ (((x1, xw), Value.slice wva xw.length wvc) :: tl)).map (·.1) := by simpa using hf
                            obtain ⟨y, hy1, rfl⟩ := List.mem_map.1 hf'
                            exact (show y.1.1 = x3 from hf1) ▸ List.mem_map_of_mem (f := fun z : LX => z.1.1) hy1)))
                          rw [List.map_append]
                          exact h
                        · have h := HOWN10.out
                          simpa [cellsL] using h
                        · intro k h
                          rcases HBLK10.out with e | e
                          · rw [e] at h; exact .inl (HLI.out.segT k h)
                          · rw [e] at h; cases h; exact .inr ⟨by omega, by
                              obtain ⟨_, _, cur, hcur⟩ := HOWN10.out.own _ e
                              exact lt_of_obj hcur⟩
                        · intro x hx
                          rw [← List.cons_append] at hx
                          rcases List.mem_append.1 hx with hx | hx
                          · refine ((HLI.out.words x hx).keeps HK.out (fun k o ho hm => ?_)).re (fun k o _ ho => ⟨.inl ho.1, ho.2⟩)
                            obtain ⟨_, c, fr, rfl⟩ := ho
                            rcases hm.2 with ⟨_, _, h⟩ | ⟨_, _, _, h⟩ <;> cases h
                          · simp only [List.mem_singleton] at hx; subst hx
                            have h9 : Seg w9 w7.heap.size 3 1 (.slice a9 (xw.length + 1) c9) (xw.length + 1) ((pInts (xw ++ [op])).map (.int .i64)) := by
                              have h := HS9.out
                              simpa [pInts] using h
                            have h2 := (wdOff_of_seg h9).re (S' := fun k o => (w7.heap.size ≤ k ∧ k < w9.heap.size) ∧ IntCells k o) (fun k o ho h => ⟨⟨h.2, lt_of_obj ho⟩, h.1⟩)
                            refine (h2.keeps HK910.out (fun k o ho hm => ?_)).re (fun k o _ ho => ⟨.inr ⟨by omega, by omega⟩, ho.2⟩)
                            obtain ⟨_, c, fr, rfl⟩ := ho
                            obtain ⟨_, _, _, h⟩ := hm
                            cases h
                        · exact (HM7.out.keeps ((Grew.keeps HG9.out (may := fun k o => (Value.slice la' (tl.length + 1) lc').ownBlock = some k ∧ ∃ c fr, o = .cells c 104 fr)).trans HK910.out) (fun es c ⟨_, c', fr, ho⟩ => by cases ho)).congr (fun u => by simp [seenL, lPl])
                        · have := HNM2.out
                          simp only [List.length_append, List.length_cons, List.length_nil] at this ⊢
                          omega
                      · rcases HBLK10.out with e | e
                        · rw [e]; exact HOWN.out
                        · rw [e]; intro h; simp at h; omega
                      · rintro ⟨_, ⟨_, _, h⟩ | ⟨h, _⟩⟩
                        · cases h
                        · exact HOWN.out h
                  · gi_wp2
                    have HGA0 := hid (grew_alloc (grew_drew (grew_refl w7)) (.cells #[.int .i64 (op : Int)] 3))
                    have HZA := hid (show w7.heap.size < (w7.drew.alloc (.cells #[.int .i64 (op : Int)] 3)).heap.size by rw [World.size_alloc]; exact Nat.lt_succ_self _)
                    have HCA := hid (show (w7.drew.alloc (.cells #[.int .i64 (op : Int)] 3)).cell? ⟨w7.heap.size, 0, none⟩ = some (.int .i64 (op : Int)) from one_new w7.drew _ _)
                    refine ⟨fun _ => ⟨(HGA0.out.cell (p := ⟨wi.heap.size, 2, none⟩) lm).trans d0, (HGA0.out.cell (p := ⟨wo.heap.size, 1, none⟩) ll).trans d1⟩, ?_⟩
                    refine wpAnyG_one (i := 5) rfl (by kernel_rfl) ?_
                    gi_wp2_with (refine ⟨trivial, ?_⟩; gi_at_call 100; refine (callsIn_wide.2 (HCL.out _ HGA0.out)).mono ?_; rintro e w8 ⟨cv, rfl, hs8, hg8⟩; have HS4' := hid hs8; have HG8 := hid (grew_trans HGA0.out hg8); have HEC := hid ((hg8.cell (p := ⟨w7.heap.size, 0, none⟩) HZA.out).trans HCA.out); obtain ⟨ca, cc, rfl, _⟩ := hs8.shape; clear hs8 hg8)
                    have HS8 := hid (HS4'.out.mono (base' := w7.heap.size) (Nat.le_of_lt HZA.out))
                    have HG45 := HG8
                    refine ⟨fun _ => ⟨(HG8.out.cell (p := ⟨wi.heap.size, 2, none⟩) lm).trans d0, (HG8.out.cell (p := ⟨wo.heap.size, 1, none⟩) ll).trans d1⟩, ?_⟩
                    refine wpAnyG_one (i := 8) rfl (by kernel_rfl) ?_
                    gi_wp2_with (gi_at_builtin; refine wpListIn_append_one rfl _ _ 25 rfl w7.heap.size 3 Try.underlying25 Try.info3 rfl (by decide) _ xw.length _ rfl HS8.out w7.heap.size 1 (.int .i64 (op : Int)) rfl (show _ = _ from HEC.out) rfl hxw9 ?_ ?_; (first | (have := HG8.out.size; omega) | (have := HG45.out.size; simp only [World.size_alloc]; omega)); intro v9 w9 hown9 hgrow9 hblk9; have hg9 : Grew w7 w9 := HG8.out.grown hgrow9 HG8.out.size (fun k e => (HS8.out.own k e).1); have HG9 := hid hg9; have HS9 := hid hown9; obtain ⟨a9, c9, rfl, _⟩ := hown9.shape; clear hown9 hgrow9 hblk9 hg9)
                    refine ⟨fun _ => ⟨(HG9.out.cell (p := ⟨wi.heap.size, 2, none⟩) lm).trans d0, (HG9.out.cell (p := ⟨wo.heap.size, 1, none⟩) ll).trans d1⟩, ?_⟩
                    refine wpAnyG_one (i := 9) rfl (by kernel_rfl) ?_
                    gi_wp2
                    refine ⟨fun _ => ⟨(HG9.out.cell (p := ⟨wi.heap.size, 2, none⟩) lm).trans d0, (HG9.out.cell (p := ⟨wo.heap.size, 1, none⟩) ll).trans d1⟩, ?_⟩
                    refine wpAnyG_one (i := 10) rfl (by kernel_rfl) ?_
                    gi_wp2
                    have HGA := hid (grew_alloc HG9.out (.cells #[.int .i64 x3, .slice a9 (xw.length + 1) c9] 104))
                    refine ⟨fun _ => ⟨(HGA.out.cell (p := ⟨wi.heap.size, 2, none⟩) lm).trans d0, (HGA.out.cell (p := ⟨wo.heap.size, 1, none⟩) ll).trans d1⟩, ?_⟩
                    refine wpAnyG_one (i := 11) rfl (by kernel_rfl) ?_
                    gi_wp2_with (gi_at_builtin; refine wpListIn_append_lit rfl _ _ 113 rfl W.heap.size 104 Try.underlying113 Try.info104 rfl (by decide) _ (tl.length + 1) _ rfl (HSG7.out.grew HG9.out) [.int .i64 x3, .slice a9 (xw.length + 1) c9] 104 _ rfl rfl ?_ htl (by have := HWS7.out; have := HG9.out.size; omega) ?_; (simp [Value.oneCell']); intro v10 w10 hown10 hgrow10 hblk10; have HOWN10 := hid hown10; have HGROW10 := hid hgrow10; have HBLK10 := hid hblk10; obtain ⟨a10, c10, rfl, _⟩ := hown10.shape; clear hown10 hgrow10 hblk10)
                    refine ⟨gate_done (by kernel_rfl), ?_⟩
                    refine wpAnyG_one (i := 12) rfl (by kernel_rfl) ?_
                    gi_wp2
                    refine ⟨gate_done (by kernel_rfl), ?_⟩
                    refine wpAnyG_done (by kernel_rfl) ?_ _
                    simp only [NoP]
                    have HS4 := hid (HSG7.out.grew HG9.out)
                    have hk910 : Keeps (fun k o => (Value.slice la' (tl.length + 1) lc').ownBlock = some k ∧ ∃ c fr, o = .cells c 104 fr) w9 w10 := ((Keeps.refl _ w9).alloc _).grown HGROW10.out (fun k o e ho => by obtain ⟨_, _, cur, hcur⟩ := HS4.out.own k e; have h2 : (w9.alloc (.cells #[.int .i64 x3, .slice a9 (xw.length + 1) c9] 104)).heap[k]? = some (.cells cur 104 (0, 0)) := (Below.heap_alloc _ _ k (lt_of_obj hcur)).trans hcur; rw [h2] at ho; cases ho; exact ⟨e, _, _, rfl⟩)
                    have hk57 : Keeps (fun k o => T' k ∧ ((∃ es c, o = .map es c) ∨ ((Value.slice la' (tl.length + 1) lc').ownBlock = some k ∧ ∃ c fr, o = .cells c 104 fr))) wi w7 := (HGI5.out.keeps).trans (HK57.out.mono (fun k o ⟨e, h⟩ => ⟨by rw [e]; exact HLI.out.mapT, .inl h⟩))
                    have hk := (hk57.trans (Grew.keeps HG9.out (may := fun k o => T' k ∧ ((∃ es c, o = .map es c) ∨ ((Value.slice la' (tl.length + 1) lc').ownBlock = some k ∧ ∃ c fr, o = .cells c 104 fr))))).trans (hk910.mono (fun k o h => ⟨HLI.out.segT k h.1, .inr h⟩))
                    have HK := hid hk
                    have hz57 := hk57.size; have hz79 := HG9.out.size; have hz910 := hk910.size
                    have hnw : wo.heap.size < wi.heap.size := lt_of_obj HOBI.out
                    have hwsz := HLI.out.size
                    have HK910 := hid hk910
                    have HZ := hid (And.intro hz57 (And.intro hz79 hz910))
                    gi_wp2
                    gi_roundg (n - (op + 1))
                    case measure => have := HGK.out; omega
                    case rel =>
                      refine ⟨op + 1, tl ++ [((x3, xw ++ [op]), .slice a9 (xw.length + 1) c9)], fun k => T' k ∨ (wi.heap.size ≤ k ∧ k < w10.heap.size), by go_num, by omega, hid rfl, hid (HJ.out _ T' wi w10 HJI.out (HK.out.mono (fun k o h => h.1)) _ (fun k h => ?_)), hid ?_, hid ?_, hid (.inl HTB.out), hid (HK.out.obj _ _ HOBI.out ?_)⟩
                      · rcases h with h | h
                        · have := HLI.out.own k h; exact ⟨.inl h, by omega⟩
                        · exact ⟨.inr h.1, h.2⟩
                      · refine ⟨?_, by omega, ?_, ?_, ?_, ?_, ?_, .inl HLI.out.mapT, ⟨nm + 1, ?_, ?_⟩⟩
                        · exact HLI.out.keep.trans' HK.out (fun k o ho hm => by have := HLI.out.own k hm.1; have := lt_of_obj ho; have := HWS.out; omega)
                        · intro k h
                          rcases h with h | h
                          · have := HLI.out.own k h; omega
                          · omega
                        · have hi := HLI.out.inv
                          rw [List.map_append, List.map_cons] at hi ⊢
                          have h := GInv.new hi HX.out rfl HMAY.out (fun ⟨f, hf, hf1⟩ => HSEEN.out (seenL_iff.2 (by
                            have hf' : f ∈ (done ++ (((x1, xw), Value.slice wva xw.length wvc) :: tl)).map (·.1) := by simpa using hf
                            obtain ⟨y, hy1, rfl⟩ := List.mem_map.1 hf'
                            exact (show y.1.1 = x3 from hf1) ▸ List.mem_map_of_mem (f := fun z : LX => z.1.1) hy1)))
                          rw [List.map_append]
                          exact h
                        · have h := HOWN10.out
                          simpa [cellsL] using h
                        · intro k h
                          rcases HBLK10.out with e | e
                          · rw [e] at h; exact .inl (HLI.out.segT k h)
                          · rw [e] at h; cases h; exact .inr ⟨by omega, by
                              obtain ⟨_, _, cur, hcur⟩ := HOWN10.out.own _ e
                              exact lt_of_obj hcur⟩
                        · intro x hx
                          rw [← List.cons_append] at hx
                          rcases List.mem_append.1 hx with hx | hx
                          · refine ((HLI.out.words x hx).keeps HK.out (fun k o ho hm => ?_)).re (fun k o _ ho => ⟨.inl ho.1, ho.2⟩)
                            obtain ⟨_, c, fr, rfl⟩ := ho
                            rcases hm.2 with ⟨_, _, h⟩ | ⟨_, _, _, h⟩ <;> cases h
                          · simp only [List.mem_singleton] at hx; subst hx
                            have h9 : Seg w9 w7.heap.size 3 1 (.slice a9 (xw.length + 1) c9) (xw.length + 1) ((pInts (xw ++ [op])).map (.int .i64)) := by
                              have h := HS9.out
                              simpa [pInts] using h
                            have h2 := (wdOff_of_seg h9).re (S' := fun k o => (w7.heap.size ≤ k ∧ k < w9.heap.size) ∧ IntCells k o) (fun k o ho h => ⟨⟨h.2, lt_of_obj ho⟩, h.1⟩)
                            refine (h2.keeps HK910.out (fun k o ho hm => ?_)).re (fun k o _ ho => ⟨.inr ⟨by omega, by omega⟩, ho.2⟩)
                            obtain ⟨_, c, fr, rfl⟩ := ho
                            obtain ⟨_, _, _, h⟩ := hm
                            cases h
                        · exact (HM7.out.keeps ((Grew.keeps HG9.out (may := fun k o => (Value.slice la' (tl.length + 1) lc').ownBlock = some k ∧ ∃ c fr, o = .cells c 104 fr)).trans HK910.out) (fun es c ⟨_, c', fr, ho⟩ => by cases ho)).congr (fun u => by simp [seenL, lPl])
                        · have := HNM2.out
                          simp only [List.length_append, List.length_cons, List.length_nil] at this ⊢
                          omega
                      · rcases HBLK10.out with e | e
                        · rw [e]; exact HOWN.out
                        · rw [e]; intro h; simp at h; omega
                      · rintro ⟨_, ⟨_, _, h⟩ | ⟨h, _⟩⟩
                        · cases h
                        · exact HOWN.out h
            · have HFR := hid hfr
              have hfr1 : (x1 == xs) = false := by simpa using hfr
              clear hfr
              gi_wp2
              refine ⟨(fun _ h => by cases h), ?_⟩
              gi_wp2
              gi_roundg (n - (op + 1))
              case measure => have := HGK.out; omega
              case rel =>
                refine ⟨op + 1, tl, fun k => T' k ∨ (wi.heap.size ≤ k ∧ k < W1.heap.size), by go_num, by omega, hid rfl, hid (HJ.out _ T' wi W1 HJI.out (HG1.out.keeps) _ (fun k h => ?_)), hid ((HLI.out.grew HG1.out (fun k h => .inl h) (fun k h => ?_)).congr ?_), HOWN, hid (.inl HTB.out), hid ((HG1.out.block _ (lt_of_obj HOBI.out)).trans HOBI.out)⟩
                · have := HG1.out.size
                  rcases h with h | h
                  · have := HLI.out.own k h; exact ⟨.inl h, by omega⟩
                  · exact ⟨.inr h.1, h.2⟩
                · have := HG1.out.size
                  have := HLI.out.size
                  rcases h with h | h
                  · have := HLI.out.own k h; omega
                  · omega
                · have hi := HLI.out.inv
                  rw [List.map_append, List.map_cons] at hi ⊢
                  refine hi.skip (fun m' hm' hf' hy' => ?_)
                  rw [HX.out] at hm'; cases hm'
                  exact absurd hf' HFR.out
          · obtain rfl : op = n := by omega
            obtain ⟨g2, off2', cap2, hsv, hcap2, htail⟩ := HLI.out.seg.tail
            simp only [Value.slice.injEq] at hsv
            obtain ⟨rfl, _, rfl⟩ := hsv
            have HT := hid htail; clear htail
            have hlen1 : (1 : Int) ≤ (tl.length : Int) + 1 := by omega
            have hcnt := HLI.out.inv.count (N := N) (fun e he => HN.out _ _ (HLI.out.inv.path e he))
            simp only [List.map_append, List.map_cons, List.length_append, List.length_map, List.length_cons] at hcnt
            have hnext : LLine ms may a yd w W wi T' (.slice (some (if lc' = 1 then ⟨g2, off2', none⟩ else ⟨g2, off2' + 2, none⟩)) tl.length (lc' - 1)) (done ++ [((xs, xw), Value.slice wva xw.length wvc)]) tl (fun e _ => e ∈ (done ++ [((xs, xw), Value.slice wva xw.length wvc)]).map (·.1)) := by
              refine ⟨HLI.out.keep, HLI.out.size, HLI.out.own, ?_, ?_, ?_, fun x hx => HLI.out.words x (by simp [hx]), HLI.out.mapT, ?_⟩
              · have hi := HLI.out.inv
                rw [List.map_append, List.map_cons, ← HLN.out] at hi
                have h := GInv.next hi
                simpa using h
              · have h := HT.out
                simpa [cellsL] using h
              · intro k hk
                refine HLI.out.segT k ?_
                split at hk <;> simpa [Value.ownBlock] using hk
              · have he : (done ++ [((xs, xw), Value.slice wva xw.length wvc)]) ++ tl = done ++ ((xs, xw), Value.slice wva xw.length wvc) :: tl := by simp
                rw [he]
                exact HLI.out.map
            have HNX := hid hnext; clear hnext
            by_cases hc1 : lc' = 1
            · subst hc1
              obtain rfl : tl = [] := List.eq_nil_of_length_eq_zero (by omega)
              gi_wp2
              gi_roundg (9 - (done ++ [((xs, xw), Value.slice wva xw.length wvc)]).length)
              case measure => have := HG.out; simp only [List.length_append, List.length_cons, List.length_nil]; omega
              case rel => exact ⟨_, [], T', hid rfl, HJI, by simpa using HNX⟩
            · have HC1 := hid hc1
              gi_wp2
              gi_roundg (9 - (done ++ [((xs, xw), Value.slice wva xw.length wvc)]).length)
              case measure => have := HG.out; simp only [List.length_append, List.length_cons, List.length_nil]; omega
              case rel => exact ⟨_, tl, T', hid rfl, HJI, by have h := HNX.out; rw [if_neg HC1.out] at h; exact hid h⟩
      · gi_wp2
        refine bodyPost_ret (results_none rfl _ _ _) rfl ?_
        exact ⟨⟨_, rfl⟩, .inr ⟨_, _, hJx3⟩⟩
end Go.Proofs.Ytojkohpniokaaaa
