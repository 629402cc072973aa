/- The reference's book; walk: Change (81). Printed by gen_krchange.py. -/
import Derived.Test.YtmohnddglmolgaaGreatDoorKrBook2
namespace Go.Proofs.YtmohnddglmolgaaGreatDoor
open Go Go.RowKit Go.Lin Go.Lin.Kp

theorem Keeps.old {may : Nat → Obj → Prop} {w w' : World} (h : Keeps (fun k o => may k o ∨ w.heap.size ≤ k) w w') : Keeps may w w' :=
  ⟨h.os, h.tape, h.output, h.size, fun k o ho hm => h.obj k o ho (fun e => e.elim hm (fun e => by have := lt_of_obj ho; omega))⟩

/-- The book's list is replaced by a copy in a new block, one of whose numbers is changed. -/
theorem rbook_set2 {w : World} {bb bm B ng nof cap kk : Nat} {u : Value} {b : Bk} {G : Nat → Prop} (n : Int) (h : RBookIs w bb bm u b G) (hG : ∀ k, G k → k < B) (hs : Seg w B 3 1 (.slice (some ⟨ng, nof, none⟩) b.list.length cap) b.list.length (b.list.map (.int .i64))) (hk : kk < b.list.length) (hg : B ≤ ng) :
    IsRBook ((w.setCell ⟨bb, 1, none⟩ (.slice (some ⟨ng, nof, none⟩) b.list.length cap)).setCell ⟨ng, nof + kk, none⟩ (.int .i64 n)) bb bm { b with list := b.list.set kk n } (fun k => G k ∨ (B ≤ k ∧ k < w.heap.size)) := by
  have hbb := hG bb h.inB
  have hk1 : Keeps (fun k _ => k = bb) w (w.setCell ⟨bb, 1, none⟩ (.slice (some ⟨ng, nof, none⟩) b.list.length cap)) := keeps_set1 _ _ (fun _ => rfl)
  have hs1 := hs.keeps hk1 (fun k _ e _ e2 => by have := (hs.own k e).1; omega)
  have hs2 := Seg.set hs1 rfl hk (.int .i64 n)
  have hl : Seg ((w.setCell ⟨bb, 1, none⟩ (.slice (some ⟨ng, nof, none⟩) b.list.length cap)).setCell ⟨ng, nof + kk, none⟩ (.int .i64 n)) B 3 1 (.slice (some ⟨ng, nof, none⟩) b.list.length cap) (b.list.set kk n).length ((b.list.set kk n).map (.int .i64)) := by
    rw [List.length_set, List.map_set]; exact hs2
  refine ⟨.slice (some ⟨ng, nof, none⟩) b.list.length cap, ?_, ?_, .inl h.inB, fun k e => ?_⟩
  · rw [heap_setCell_other _ _ _ _ (by show bb ≠ ng; omega), heap_setCell_same w bb 1 _ _ _ h.obj]; rfl
  · exact Reads.re' (isInts_new hl) (fun k o ho hs => ⟨.inr ⟨hs, by have := lt_of_obj ho; simpa using this⟩, by omega⟩)
  · rw [World.size_setCell, World.size_setCell]
    rcases e with e | e
    · exact h.lt k e
    · exact e.2

theorem rDone2 {w w1 w2 w3 : World} {bb bm ng i : Nat} {b b' : Bk} {M' : Mem} {F G G' : Nat → Prop} {v x : Value} (hb : IsRBook w bb bm b G) (hd : ∀ k, F k → ¬ G k) (hg : Grew w w1) (hm : IsRMem w2 bm M' F) (hk : Keeps (InF F) w1 w2) (hg3 : Grew w2 w3) (hng : w2.heap.size ≤ ng)
    (hb3 : IsRBook ((w3.setCell ⟨bb, 1, none⟩ v).setCell ⟨ng, i, none⟩ x) bb bm b' G') (hG : ∀ k, G' k → G k ∨ w2.heap.size ≤ k) : RDeed w bb bm F G (0, b', M') (.returned (.int .i64 0)) ((w3.setCell ⟨bb, 1, none⟩ v).setCell ⟨ng, i, none⟩ x) := by
  have hks : Keeps (fun k _ => k = bb) w3 (w3.setCell ⟨bb, 1, none⟩ v) := keeps_set1 _ _ (fun _ => rfl)
  have hks2 : Keeps (fun k _ => k = ng) (w3.setCell ⟨bb, 1, none⟩ v) ((w3.setCell ⟨bb, 1, none⟩ v).setCell ⟨ng, i, none⟩ x) := keeps_set1 _ _ (fun _ => rfl)
  have hz := Nat.le_trans hg.size hk.size
  have hlt := hm.ltF
  refine ⟨rfl, ((hm.grew hg3).keeps hks (fun k _ e e2 => hd k e (by rw [e2]; exact hb.inB))).keeps hks2 (fun k _ e e2 => by have := hlt k e; omega), ⟨G', hb3, fun k e => (hG k e).imp id (fun h => Nat.le_trans hz h)⟩, ?_⟩
  refine Keeps.old ?_
  exact (((hg.keeps.trans (hk.mono fun _ _ e => .inl (.inl e))).trans hg3.keeps).trans (hks.mono fun k _ e => .inl (.inr (by rw [e]; exact hb.inB)))).trans (hks2.mono fun k _ e => .inr (by omega))

set_option maxHeartbeats 20000000 in
set_option maxRecDepth 20000 in
theorem rchange81_any (bb bm : Nat) (b : Bk) (M : Mem) (F G : Nat → Prop) (i n : Int) (w : World) (hb : IsRBook w bb bm b G) (hm : IsRMem w bm M F) (hd : ∀ k, F k → ¬ G k) (hok : Ok M) (hsz : M.size + 20 < 1000000000) (hbk : BkOk b) (hle : Le M b) :
    Calls Tryz.prog 81 #[ptr bb, .int .i64 i, .int .i64 n] w (RDeed w bb bm F G (M.change b i n)) := by
  have HG := hid (rgone107_any bb bm b M F G w hb hm)
  have HIN := hid (isNumber56_any n)
  have HW := hid (within92_any 1 i (b.list.length : Int))
  have HB := hid hb; have HM := hid hm; have HD := hid hd
  have hask := asked_gone hle n
  have hl20 := hbk.1
  have hon : goneM M b = false → M.on = true := fun h => by
    unfold goneM at h
    rw [Bool.or_eq_false_iff] at h
    cases ho : M.on
    · rw [ho] at h; cases h.1
    · rfl
  unfold Mem.change
  rw [hask]
  obtain ⟨g, hg⟩ : ∃ g, goneM M b = g := ⟨_, rfl⟩
  obtain ⟨q, hq⟩ : ∃ q, isNum n = q := ⟨_, rfl⟩
  have HQ := hid hq
  rw [hg] at HG hon ⊢
  rw [hq] at HIN ⊢
  clear hg hq hask hb hm hd
  cases g
  · cases q
    · rw [show (if (false : Bool) = true then (101 : Int) else if (false : Bool) = true then 0 else 103) = 103 from rfl, if_neg (by decide)]
      go_enter Tryz.func81, Tryz.ntmps81
      go_wp2_with (first
        | (go_at_call 107; (with_reducible refine HG.out.mono ?_); rintro e w1 ⟨rfl, hg⟩; have HG1 := hid hg; clear hg)
        | (go_at_call 56; (with_reducible refine (HIN.out _).mono ?_); rintro e w2 ⟨rfl, rfl⟩))
      go_ret
      exact rStart HB.out HM.out HG1.out
    · rw [show (if (false : Bool) = true then (101 : Int) else if (true : Bool) = true then 0 else 103) = 0 from rfl, if_pos rfl]
      obtain ⟨u, hbu⟩ := HB.out
      obtain ⟨ua, uc, rfl, hum, hcl⟩ := id hbu.list
      have C1 := hid (fun (W : World) (h : Grew w W) => (hbu.grew h).c1)
      have C0 := hid (fun (W : World) (h : Grew w W) => (hbu.grew h).c0)
      by_cases hi : 1 ≤ i ∧ i ≤ (b.list.length : Int)
      · rw [if_pos hi]
        rw [show (decide ((1 : Int) ≤ i) && decide (i ≤ (b.list.length : Int))) = true by simp [hi.1, hi.2]] at HW
        obtain ⟨kk, rfl⟩ : ∃ kk : Nat, i = (kk : Int) + 1 := ⟨(i - 1).toNat, by omega⟩
        have hkk : kk < b.list.length := by omega
        dsimp only
        rw [show ((kk : Int) + 1 - 1).toNat = kk by omega]
        have hwr : IntKind.i64.wrap ((kk : Int) + 1 - 1) = (kk : Int) := by rw [show (kk : Int) + 1 - 1 = kk by omega]; exact IntWalk.i64_in _ (by omega)
        have hwr2 : IntKind.i64.wrap (kk : Int) = (kk : Int) := IntWalk.i64_in _ (by omega)
        have hkkI : (kk : Int) < (b.list.length : Int) := by omega
        obtain ⟨lb, lo, ob, rfl, hlo, hls, hlc⟩ := hcl kk hkk
        obtain ⟨was, hwas⟩ : ∃ x, nth b.list kk = x := ⟨_, rfl⟩
        have hwn : isNum was = true := by rw [← hwas, nth_lt hkk]; exact hbk.2 _ (List.getElem_mem hkk)
        dsimp only at hlc
        rw [hwas] at hlc ⊢
        have CL := hid (fun (W W' : World) (h : Grew w W) (hk : Keeps (InF F) W W') => (by
          have hg := hbu.grew h
          have e1 := (h.block _ (lt_of_obj hlo)).trans hlo
          exact cell_of_obj hlo (hk.obj _ _ e1 (fun e => HD.out _ e hls.1)) hlc : W'.cell? ⟨lb, lo + kk, none⟩ = some (.int .i64 was)))
        have hon1 := hon rfl
        have g1 := (Goes.refl hok hon1).write (c := 41) (n := (kk : Int) + 1) (by decide) (isNum_iff.2 (by omega))
        have g2 := g1.write (c := 42) (n := was) (by decide) hwn
        have g3 := g2.flush (c := 41) (by decide)
        have g4 := g3.flush (c := 42) (by decide)
        have g5 := g4.fence
        have g6 := g5.put (c := 40) (n := 1) (by decide) (by decide)
        have g7 := g6.put (c := (kk : Int) + 1) (n := n) (isCell_iff.2 (by omega)) HQ.out
        have g8 := g7.put (c := 40) (n := 0) (by decide) (by decide)
        unfold changeO
        obtain ⟨o1, ho1⟩ : ∃ o, Ord.write (0, M) 41 ((kk : Int) + 1) = o := ⟨_, rfl⟩
        rw [ho1] at g1 g2 g3 g4 g5 g6 g7 g8 ⊢
        obtain ⟨o2, ho2⟩ : ∃ o, Ord.write o1 42 was = o := ⟨_, rfl⟩
        rw [ho2] at g2 g3 g4 g5 g6 g7 g8 ⊢
        obtain ⟨o3, ho3⟩ : ∃ o, Ord.flush o2 41 = o := ⟨_, rfl⟩
        rw [ho3] at g3 g4 g5 g6 g7 g8 ⊢
        obtain ⟨o4, ho4⟩ : ∃ o, Ord.flush o3 42 = o := ⟨_, rfl⟩
        rw [ho4] at g4 g5 g6 g7 g8 ⊢
        obtain ⟨o5, ho5⟩ : ∃ o, Ord.fence o4  = o := ⟨_, rfl⟩
        rw [ho5] at g5 g6 g7 g8 ⊢
        obtain ⟨o6, ho6⟩ : ∃ o, Ord.put o5 40 1 = o := ⟨_, rfl⟩
        rw [ho6] at g6 g7 g8 ⊢
        obtain ⟨o7, ho7⟩ : ∃ o, Ord.put o6 ((kk : Int) + 1) n = o := ⟨_, rfl⟩
        rw [ho7] at g7 g8 ⊢
        obtain ⟨o8, ho8⟩ : ∃ o, Ord.put o7 40 0 = o := ⟨_, rfl⟩
        rw [ho8] at g8 ⊢
        rcases (show o1.1 = 0 ∨ (o1.1 ≠ 0 ∧ o1.1 = 101) by rcases g1.res with ⟨h, -, -⟩ | ⟨h, -, -⟩; exact .inl h; exact .inr ⟨by omega, h⟩) with q1 | ⟨q1, v1⟩
        rotate_left
        · have e2 : o2 = o1 := by rw [← ho2]; exact write_err q1 _ _
          have e3 : o3 = o1 := by rw [← ho3, e2]; exact flush_err q1 _
          have e4 : o4 = o1 := by rw [← ho4, e3]; exact flush_err q1 _
          have e5 : o5 = o1 := by rw [← ho5, e4]; exact fence_err q1
          have e6 : o6 = o1 := by rw [← ho6, e5]; exact put_err q1 _ _
          have e7 : o7 = o1 := by rw [← ho7, e6]; exact put_err q1 _ _
          have e8 : o8 = o1 := by rw [← ho8, e7]; exact put_err q1 _ _
          rw [e8]
          rw [if_neg q1, v1]
          have D1 := hid (fun (W : World) (h : IsRMem W bm M F) => (by have := rwrite74_any bm M F 41 ((kk : Int) + 1) W h hok (by omega); rw [← write_go (o := (0, M)) rfl, ho1] at this; rw [v1] at this; exact this : Calls Tryz.prog 74 #[ptr bm, .int .i64 41, .int .i64 ((kk : Int) + 1)] W (RLeft W bm F (.int .i64 101) o1.2)))
          clear hok hsz hbk hle hon hon1 hl20 hum hcl hlo hls hlc hwas hwn hkk hi g1 ho1 g2 ho2 g3 ho3 g4 ho4 g5 ho5 g6 ho6 g7 ho7 g8 ho8 q1 v1 e2 e3 e4 e5 e6 e7 e8
          go_enter Tryz.func81, Tryz.ntmps81
          go_wp2_with (first
            | (go_at_call 107; (with_reducible refine HG.out.mono ?_); rintro e w1 ⟨rfl, hg⟩; have HG1 := hid hg; have c1 := C1.out _ hg; have c0 := C0.out _ hg; have HM0 := hid (HM.out.grew hg); have HK0 := hid (Keeps.refl (InF F) w1); clear hg)
            | (go_at_call 56; (with_reducible refine (HIN.out _).mono ?_); rintro e w2 ⟨rfl, rfl⟩)
            | (go_at_call 92; (with_reducible refine (HW.out _).mono ?_); rintro e w2 ⟨rfl, rfl⟩)
            | (go_at_call 74; (with_reducible refine (D1.out _ HM0.out).mono ?_); rintro e v1 ⟨rfl, hm, hk⟩; have HM1 := hid hm; have HK1 := hid (HK0.out.trans hk); have k1 := ((hbu.grew HG1.out).keeps HK1.out (fun k _ e e2 => HD.out k e2 e)).c1; have kl := CL.out _ _ HG1.out HK1.out; clear hm hk))
          go_ret
          exact rMem HB.out HD.out HG1.out HM1.out HK1.out
        rcases (show o2.1 = 0 ∨ (o2.1 ≠ 0 ∧ o2.1 = 101) by rcases g2.res with ⟨h, -, -⟩ | ⟨h, -, -⟩; exact .inl h; exact .inr ⟨by omega, h⟩) with q2 | ⟨q2, v2⟩
        rotate_left
        · have e3 : o3 = o2 := by rw [← ho3]; exact flush_err q2 _
          have e4 : o4 = o2 := by rw [← ho4, e3]; exact flush_err q2 _
          have e5 : o5 = o2 := by rw [← ho5, e4]; exact fence_err q2
          have e6 : o6 = o2 := by rw [← ho6, e5]; exact put_err q2 _ _
          have e7 : o7 = o2 := by rw [← ho7, e6]; exact put_err q2 _ _
          have e8 : o8 = o2 := by rw [← ho8, e7]; exact put_err q2 _ _
          rw [e8]
          rw [if_neg q2, v2]
          have D1 := hid (fun (W : World) (h : IsRMem W bm M F) => (by have := rwrite74_any bm M F 41 ((kk : Int) + 1) W h hok (by omega); rw [← write_go (o := (0, M)) rfl, ho1] at this; rw [q1] at this; exact this : Calls Tryz.prog 74 #[ptr bm, .int .i64 41, .int .i64 ((kk : Int) + 1)] W (RLeft W bm F (.int .i64 0) o1.2)))
          have D2 := hid (fun (W : World) (h : IsRMem W bm o1.2 F) => (by have := rwrite74_any bm o1.2 F 42 was W h g1.ok (by have := g1.size; omega); rw [← write_go q1, ho2] at this; rw [v2] at this; exact this : Calls Tryz.prog 74 #[ptr bm, .int .i64 42, .int .i64 was] W (RLeft W bm F (.int .i64 101) o2.2)))
          clear hok hsz hbk hle hon hon1 hl20 hum hcl hlo hls hlc hwas hwn hkk hi g1 ho1 g2 ho2 g3 ho3 g4 ho4 g5 ho5 g6 ho6 g7 ho7 g8 ho8 q1 q2 v2 e3 e4 e5 e6 e7 e8
          go_enter Tryz.func81, Tryz.ntmps81
          go_wp2_with (first
            | (go_at_call 107; (with_reducible refine HG.out.mono ?_); rintro e w1 ⟨rfl, hg⟩; have HG1 := hid hg; have c1 := C1.out _ hg; have c0 := C0.out _ hg; have HM0 := hid (HM.out.grew hg); have HK0 := hid (Keeps.refl (InF F) w1); clear hg)
            | (go_at_call 56; (with_reducible refine (HIN.out _).mono ?_); rintro e w2 ⟨rfl, rfl⟩)
            | (go_at_call 92; (with_reducible refine (HW.out _).mono ?_); rintro e w2 ⟨rfl, rfl⟩)
            | (go_at_call 74; (with_reducible refine (D1.out _ HM0.out).mono ?_); rintro e v1 ⟨rfl, hm, hk⟩; have HM1 := hid hm; have HK1 := hid (HK0.out.trans hk); have k1 := ((hbu.grew HG1.out).keeps HK1.out (fun k _ e e2 => HD.out k e2 e)).c1; have kl := CL.out _ _ HG1.out HK1.out; clear hm hk)
            | (go_at_call 74; (with_reducible refine (D2.out _ HM1.out).mono ?_); rintro e v2 ⟨rfl, hm, hk⟩; have HM2 := hid hm; have HK2 := hid (HK1.out.trans hk); clear hm hk))
          go_ret
          exact rMem HB.out HD.out HG1.out HM2.out HK2.out
        rcases (show o3.1 = 0 ∨ (o3.1 ≠ 0 ∧ o3.1 = 101) by rcases g3.res with ⟨h, -, -⟩ | ⟨h, -, -⟩; exact .inl h; exact .inr ⟨by omega, h⟩) with q3 | ⟨q3, v3⟩
        rotate_left
        · have e4 : o4 = o3 := by rw [← ho4]; exact flush_err q3 _
          have e5 : o5 = o3 := by rw [← ho5, e4]; exact fence_err q3
          have e6 : o6 = o3 := by rw [← ho6, e5]; exact put_err q3 _ _
          have e7 : o7 = o3 := by rw [← ho7, e6]; exact put_err q3 _ _
          have e8 : o8 = o3 := by rw [← ho8, e7]; exact put_err q3 _ _
          rw [e8]
          rw [if_neg q3, v3]
          have D1 := hid (fun (W : World) (h : IsRMem W bm M F) => (by have := rwrite74_any bm M F 41 ((kk : Int) + 1) W h hok (by omega); rw [← write_go (o := (0, M)) rfl, ho1] at this; rw [q1] at this; exact this : Calls Tryz.prog 74 #[ptr bm, .int .i64 41, .int .i64 ((kk : Int) + 1)] W (RLeft W bm F (.int .i64 0) o1.2)))
          have D2 := hid (fun (W : World) (h : IsRMem W bm o1.2 F) => (by have := rwrite74_any bm o1.2 F 42 was W h g1.ok (by have := g1.size; omega); rw [← write_go q1, ho2] at this; rw [q2] at this; exact this : Calls Tryz.prog 74 #[ptr bm, .int .i64 42, .int .i64 was] W (RLeft W bm F (.int .i64 0) o2.2)))
          have D3 := hid (fun (W : World) (h : IsRMem W bm o2.2 F) => (by have := rflush75_any bm o2.2 F 41 W h g2.ok (by have := g2.size; omega); rw [← flush_go q2, ho3] at this; rw [v3] at this; exact this : Calls Tryz.prog 75 #[ptr bm, .int .i64 41] W (RLeft W bm F (.int .i64 101) o3.2)))
          clear hok hsz hbk hle hon hon1 hl20 hum hcl hlo hls hlc hwas hwn hkk hi g1 ho1 g2 ho2 g3 ho3 g4 ho4 g5 ho5 g6 ho6 g7 ho7 g8 ho8 q1 q2 q3 v3 e4 e5 e6 e7 e8
          go_enter Tryz.func81, Tryz.ntmps81
          go_wp2_with (first
            | (go_at_call 107; (with_reducible refine HG.out.mono ?_); rintro e w1 ⟨rfl, hg⟩; have HG1 := hid hg; have c1 := C1.out _ hg; have c0 := C0.out _ hg; have HM0 := hid (HM.out.grew hg); have HK0 := hid (Keeps.refl (InF F) w1); clear hg)
            | (go_at_call 56; (with_reducible refine (HIN.out _).mono ?_); rintro e w2 ⟨rfl, rfl⟩)
            | (go_at_call 92; (with_reducible refine (HW.out _).mono ?_); rintro e w2 ⟨rfl, rfl⟩)
            | (go_at_call 74; (with_reducible refine (D1.out _ HM0.out).mono ?_); rintro e v1 ⟨rfl, hm, hk⟩; have HM1 := hid hm; have HK1 := hid (HK0.out.trans hk); have k1 := ((hbu.grew HG1.out).keeps HK1.out (fun k _ e e2 => HD.out k e2 e)).c1; have kl := CL.out _ _ HG1.out HK1.out; clear hm hk)
            | (go_at_call 74; (with_reducible refine (D2.out _ HM1.out).mono ?_); rintro e v2 ⟨rfl, hm, hk⟩; have HM2 := hid hm; have HK2 := hid (HK1.out.trans hk); clear hm hk)
            | (go_at_call 75; (with_reducible refine (D3.out _ HM2.out).mono ?_); rintro e v3 ⟨rfl, hm, hk⟩; have HM3 := hid hm; have HK3 := hid (HK2.out.trans hk); clear hm hk))
          go_ret
          exact rMem HB.out HD.out HG1.out HM3.out HK3.out
        rcases (show o4.1 = 0 ∨ (o4.1 ≠ 0 ∧ o4.1 = 101) by rcases g4.res with ⟨h, -, -⟩ | ⟨h, -, -⟩; exact .inl h; exact .inr ⟨by omega, h⟩) with q4 | ⟨q4, v4⟩
        rotate_left
        · have e5 : o5 = o4 := by rw [← ho5]; exact fence_err q4
          have e6 : o6 = o4 := by rw [← ho6, e5]; exact put_err q4 _ _
          have e7 : o7 = o4 := by rw [← ho7, e6]; exact put_err q4 _ _
          have e8 : o8 = o4 := by rw [← ho8, e7]; exact put_err q4 _ _
          rw [e8]
          rw [if_neg q4, v4]
          have D1 := hid (fun (W : World) (h : IsRMem W bm M F) => (by have := rwrite74_any bm M F 41 ((kk : Int) + 1) W h hok (by omega); rw [← write_go (o := (0, M)) rfl, ho1] at this; rw [q1] at this; exact this : Calls Tryz.prog 74 #[ptr bm, .int .i64 41, .int .i64 ((kk : Int) + 1)] W (RLeft W bm F (.int .i64 0) o1.2)))
          have D2 := hid (fun (W : World) (h : IsRMem W bm o1.2 F) => (by have := rwrite74_any bm o1.2 F 42 was W h g1.ok (by have := g1.size; omega); rw [← write_go q1, ho2] at this; rw [q2] at this; exact this : Calls Tryz.prog 74 #[ptr bm, .int .i64 42, .int .i64 was] W (RLeft W bm F (.int .i64 0) o2.2)))
          have D3 := hid (fun (W : World) (h : IsRMem W bm o2.2 F) => (by have := rflush75_any bm o2.2 F 41 W h g2.ok (by have := g2.size; omega); rw [← flush_go q2, ho3] at this; rw [q3] at this; exact this : Calls Tryz.prog 75 #[ptr bm, .int .i64 41] W (RLeft W bm F (.int .i64 0) o3.2)))
          have D4 := hid (fun (W : World) (h : IsRMem W bm o3.2 F) => (by have := rflush75_any bm o3.2 F 42 W h g3.ok (by have := g3.size; omega); rw [← flush_go q3, ho4] at this; rw [v4] at this; exact this : Calls Tryz.prog 75 #[ptr bm, .int .i64 42] W (RLeft W bm F (.int .i64 101) o4.2)))
          clear hok hsz hbk hle hon hon1 hl20 hum hcl hlo hls hlc hwas hwn hkk hi g1 ho1 g2 ho2 g3 ho3 g4 ho4 g5 ho5 g6 ho6 g7 ho7 g8 ho8 q1 q2 q3 q4 v4 e5 e6 e7 e8
          go_enter Tryz.func81, Tryz.ntmps81
          go_wp2_with (first
            | (go_at_call 107; (with_reducible refine HG.out.mono ?_); rintro e w1 ⟨rfl, hg⟩; have HG1 := hid hg; have c1 := C1.out _ hg; have c0 := C0.out _ hg; have HM0 := hid (HM.out.grew hg); have HK0 := hid (Keeps.refl (InF F) w1); clear hg)
            | (go_at_call 56; (with_reducible refine (HIN.out _).mono ?_); rintro e w2 ⟨rfl, rfl⟩)
            | (go_at_call 92; (with_reducible refine (HW.out _).mono ?_); rintro e w2 ⟨rfl, rfl⟩)
            | (go_at_call 74; (with_reducible refine (D1.out _ HM0.out).mono ?_); rintro e v1 ⟨rfl, hm, hk⟩; have HM1 := hid hm; have HK1 := hid (HK0.out.trans hk); have k1 := ((hbu.grew HG1.out).keeps HK1.out (fun k _ e e2 => HD.out k e2 e)).c1; have kl := CL.out _ _ HG1.out HK1.out; clear hm hk)
            | (go_at_call 74; (with_reducible refine (D2.out _ HM1.out).mono ?_); rintro e v2 ⟨rfl, hm, hk⟩; have HM2 := hid hm; have HK2 := hid (HK1.out.trans hk); clear hm hk)
            | (go_at_call 75; (with_reducible refine (D3.out _ HM2.out).mono ?_); rintro e v3 ⟨rfl, hm, hk⟩; have HM3 := hid hm; have HK3 := hid (HK2.out.trans hk); clear hm hk)
            | (go_at_call 75; (with_reducible refine (D4.out _ HM3.out).mono ?_); rintro e v4 ⟨rfl, hm, hk⟩; have HM4 := hid hm; have HK4 := hid (HK3.out.trans hk); clear hm hk))
          go_ret
          exact rMem HB.out HD.out HG1.out HM4.out HK4.out
        rcases (show o5.1 = 0 ∨ (o5.1 ≠ 0 ∧ o5.1 = 101) by rcases g5.res with ⟨h, -, -⟩ | ⟨h, -, -⟩; exact .inl h; exact .inr ⟨by omega, h⟩) with q5 | ⟨q5, v5⟩
        rotate_left
        · have e6 : o6 = o5 := by rw [← ho6]; exact put_err q5 _ _
          have e7 : o7 = o5 := by rw [← ho7, e6]; exact put_err q5 _ _
          have e8 : o8 = o5 := by rw [← ho8, e7]; exact put_err q5 _ _
          rw [e8]
          rw [if_neg q5, v5]
          have D1 := hid (fun (W : World) (h : IsRMem W bm M F) => (by have := rwrite74_any bm M F 41 ((kk : Int) + 1) W h hok (by omega); rw [← write_go (o := (0, M)) rfl, ho1] at this; rw [q1] at this; exact this : Calls Tryz.prog 74 #[ptr bm, .int .i64 41, .int .i64 ((kk : Int) + 1)] W (RLeft W bm F (.int .i64 0) o1.2)))
          have D2 := hid (fun (W : World) (h : IsRMem W bm o1.2 F) => (by have := rwrite74_any bm o1.2 F 42 was W h g1.ok (by have := g1.size; omega); rw [← write_go q1, ho2] at this; rw [q2] at this; exact this : Calls Tryz.prog 74 #[ptr bm, .int .i64 42, .int .i64 was] W (RLeft W bm F (.int .i64 0) o2.2)))
          have D3 := hid (fun (W : World) (h : IsRMem W bm o2.2 F) => (by have := rflush75_any bm o2.2 F 41 W h g2.ok (by have := g2.size; omega); rw [← flush_go q2, ho3] at this; rw [q3] at this; exact this : Calls Tryz.prog 75 #[ptr bm, .int .i64 41] W (RLeft W bm F (.int .i64 0) o3.2)))
          have D4 := hid (fun (W : World) (h : IsRMem W bm o3.2 F) => (by have := rflush75_any bm o3.2 F 42 W h g3.ok (by have := g3.size; omega); rw [← flush_go q3, ho4] at this; rw [q4] at this; exact this : Calls Tryz.prog 75 #[ptr bm, .int .i64 42] W (RLeft W bm F (.int .i64 0) o4.2)))
          have D5 := hid (fun (W : World) (h : IsRMem W bm o4.2 F) => (by have := rfence76_any bm o4.2 F  W h g4.ok (by have := g4.size; omega); rw [← fence_go q4, ho5] at this; rw [v5] at this; exact this : Calls Tryz.prog 76 #[ptr bm] W (RLeft W bm F (.int .i64 101) o5.2)))
          clear hok hsz hbk hle hon hon1 hl20 hum hcl hlo hls hlc hwas hwn hkk hi g1 ho1 g2 ho2 g3 ho3 g4 ho4 g5 ho5 g6 ho6 g7 ho7 g8 ho8 q1 q2 q3 q4 q5 v5 e6 e7 e8
          go_enter Tryz.func81, Tryz.ntmps81
          go_wp2_with (first
            | (go_at_call 107; (with_reducible refine HG.out.mono ?_); rintro e w1 ⟨rfl, hg⟩; have HG1 := hid hg; have c1 := C1.out _ hg; have c0 := C0.out _ hg; have HM0 := hid (HM.out.grew hg); have HK0 := hid (Keeps.refl (InF F) w1); clear hg)
            | (go_at_call 56; (with_reducible refine (HIN.out _).mono ?_); rintro e w2 ⟨rfl, rfl⟩)
            | (go_at_call 92; (with_reducible refine (HW.out _).mono ?_); rintro e w2 ⟨rfl, rfl⟩)
            | (go_at_call 74; (with_reducible refine (D1.out _ HM0.out).mono ?_); rintro e v1 ⟨rfl, hm, hk⟩; have HM1 := hid hm; have HK1 := hid (HK0.out.trans hk); have k1 := ((hbu.grew HG1.out).keeps HK1.out (fun k _ e e2 => HD.out k e2 e)).c1; have kl := CL.out _ _ HG1.out HK1.out; clear hm hk)
            | (go_at_call 74; (with_reducible refine (D2.out _ HM1.out).mono ?_); rintro e v2 ⟨rfl, hm, hk⟩; have HM2 := hid hm; have HK2 := hid (HK1.out.trans hk); clear hm hk)
            | (go_at_call 75; (with_reducible refine (D3.out _ HM2.out).mono ?_); rintro e v3 ⟨rfl, hm, hk⟩; have HM3 := hid hm; have HK3 := hid (HK2.out.trans hk); clear hm hk)
            | (go_at_call 75; (with_reducible refine (D4.out _ HM3.out).mono ?_); rintro e v4 ⟨rfl, hm, hk⟩; have HM4 := hid hm; have HK4 := hid (HK3.out.trans hk); clear hm hk)
            | (go_at_call 76; (with_reducible refine (D5.out _ HM4.out).mono ?_); rintro e v5 ⟨rfl, hm, hk⟩; have HM5 := hid hm; have HK5 := hid (HK4.out.trans hk); clear hm hk))
          go_ret
          exact rMem HB.out HD.out HG1.out HM5.out HK5.out
        rcases (show o6.1 = 0 ∨ (o6.1 ≠ 0 ∧ o6.1 = 101) by rcases g6.res with ⟨h, -, -⟩ | ⟨h, -, -⟩; exact .inl h; exact .inr ⟨by omega, h⟩) with q6 | ⟨q6, v6⟩
        rotate_left
        · have e7 : o7 = o6 := by rw [← ho7]; exact put_err q6 _ _
          have e8 : o8 = o6 := by rw [← ho8, e7]; exact put_err q6 _ _
          rw [e8]
          rw [if_neg q6, v6]
          have D1 := hid (fun (W : World) (h : IsRMem W bm M F) => (by have := rwrite74_any bm M F 41 ((kk : Int) + 1) W h hok (by omega); rw [← write_go (o := (0, M)) rfl, ho1] at this; rw [q1] at this; exact this : Calls Tryz.prog 74 #[ptr bm, .int .i64 41, .int .i64 ((kk : Int) + 1)] W (RLeft W bm F (.int .i64 0) o1.2)))
          have D2 := hid (fun (W : World) (h : IsRMem W bm o1.2 F) => (by have := rwrite74_any bm o1.2 F 42 was W h g1.ok (by have := g1.size; omega); rw [← write_go q1, ho2] at this; rw [q2] at this; exact this : Calls Tryz.prog 74 #[ptr bm, .int .i64 42, .int .i64 was] W (RLeft W bm F (.int .i64 0) o2.2)))
          have D3 := hid (fun (W : World) (h : IsRMem W bm o2.2 F) => (by have := rflush75_any bm o2.2 F 41 W h g2.ok (by have := g2.size; omega); rw [← flush_go q2, ho3] at this; rw [q3] at this; exact this : Calls Tryz.prog 75 #[ptr bm, .int .i64 41] W (RLeft W bm F (.int .i64 0) o3.2)))
          have D4 := hid (fun (W : World) (h : IsRMem W bm o3.2 F) => (by have := rflush75_any bm o3.2 F 42 W h g3.ok (by have := g3.size; omega); rw [← flush_go q3, ho4] at this; rw [q4] at this; exact this : Calls Tryz.prog 75 #[ptr bm, .int .i64 42] W (RLeft W bm F (.int .i64 0) o4.2)))
          have D5 := hid (fun (W : World) (h : IsRMem W bm o4.2 F) => (by have := rfence76_any bm o4.2 F  W h g4.ok (by have := g4.size; omega); rw [← fence_go q4, ho5] at this; rw [q5] at this; exact this : Calls Tryz.prog 76 #[ptr bm] W (RLeft W bm F (.int .i64 0) o5.2)))
          have D6 := hid (fun (W : World) (h : IsRMem W bm o5.2 F) => (by have := rstore93_any bm o5.2 F 40 1 W h g5.ok (by have := g5.size; omega); unfold storeR at this; rw [← put_go q5, ho6] at this; dsimp only at this; rw [decide_eq_false q6] at this; exact this : Calls Tryz.prog 93 #[ptr bm, .int .i64 40, .int .i64 1] W (RLeft W bm F (.bool false) o6.2)))
          clear hok hsz hbk hle hon hon1 hl20 hum hcl hlo hls hlc hwas hwn hkk hi g1 ho1 g2 ho2 g3 ho3 g4 ho4 g5 ho5 g6 ho6 g7 ho7 g8 ho8 q1 q2 q3 q4 q5 q6 v6 e7 e8
          go_enter Tryz.func81, Tryz.ntmps81
          go_wp2_with (first
            | (go_at_call 107; (with_reducible refine HG.out.mono ?_); rintro e w1 ⟨rfl, hg⟩; have HG1 := hid hg; have c1 := C1.out _ hg; have c0 := C0.out _ hg; have HM0 := hid (HM.out.grew hg); have HK0 := hid (Keeps.refl (InF F) w1); clear hg)
            | (go_at_call 56; (with_reducible refine (HIN.out _).mono ?_); rintro e w2 ⟨rfl, rfl⟩)
            | (go_at_call 92; (with_reducible refine (HW.out _).mono ?_); rintro e w2 ⟨rfl, rfl⟩)
            | (go_at_call 74; (with_reducible refine (D1.out _ HM0.out).mono ?_); rintro e v1 ⟨rfl, hm, hk⟩; have HM1 := hid hm; have HK1 := hid (HK0.out.trans hk); have k1 := ((hbu.grew HG1.out).keeps HK1.out (fun k _ e e2 => HD.out k e2 e)).c1; have kl := CL.out _ _ HG1.out HK1.out; clear hm hk)
            | (go_at_call 74; (with_reducible refine (D2.out _ HM1.out).mono ?_); rintro e v2 ⟨rfl, hm, hk⟩; have HM2 := hid hm; have HK2 := hid (HK1.out.trans hk); clear hm hk)
            | (go_at_call 75; (with_reducible refine (D3.out _ HM2.out).mono ?_); rintro e v3 ⟨rfl, hm, hk⟩; have HM3 := hid hm; have HK3 := hid (HK2.out.trans hk); clear hm hk)
            | (go_at_call 75; (with_reducible refine (D4.out _ HM3.out).mono ?_); rintro e v4 ⟨rfl, hm, hk⟩; have HM4 := hid hm; have HK4 := hid (HK3.out.trans hk); clear hm hk)
            | (go_at_call 76; (with_reducible refine (D5.out _ HM4.out).mono ?_); rintro e v5 ⟨rfl, hm, hk⟩; have HM5 := hid hm; have HK5 := hid (HK4.out.trans hk); clear hm hk)
            | (go_at_call 93; (with_reducible refine (D6.out _ HM5.out).mono ?_); rintro e v6 ⟨rfl, hm, hk⟩; have HM6 := hid hm; have HK6 := hid (HK5.out.trans hk); clear hm hk))
          go_ret
          exact rMem HB.out HD.out HG1.out HM6.out HK6.out
        rcases (show o7.1 = 0 ∨ (o7.1 ≠ 0 ∧ o7.1 = 101) by rcases g7.res with ⟨h, -, -⟩ | ⟨h, -, -⟩; exact .inl h; exact .inr ⟨by omega, h⟩) with q7 | ⟨q7, v7⟩
        rotate_left
        · have e8 : o8 = o7 := by rw [← ho8]; exact put_err q7 _ _
          rw [e8]
          rw [if_neg q7, v7]
          have D1 := hid (fun (W : World) (h : IsRMem W bm M F) => (by have := rwrite74_any bm M F 41 ((kk : Int) + 1) W h hok (by omega); rw [← write_go (o := (0, M)) rfl, ho1] at this; rw [q1] at this; exact this : Calls Tryz.prog 74 #[ptr bm, .int .i64 41, .int .i64 ((kk : Int) + 1)] W (RLeft W bm F (.int .i64 0) o1.2)))
          have D2 := hid (fun (W : World) (h : IsRMem W bm o1.2 F) => (by have := rwrite74_any bm o1.2 F 42 was W h g1.ok (by have := g1.size; omega); rw [← write_go q1, ho2] at this; rw [q2] at this; exact this : Calls Tryz.prog 74 #[ptr bm, .int .i64 42, .int .i64 was] W (RLeft W bm F (.int .i64 0) o2.2)))
          have D3 := hid (fun (W : World) (h : IsRMem W bm o2.2 F) => (by have := rflush75_any bm o2.2 F 41 W h g2.ok (by have := g2.size; omega); rw [← flush_go q2, ho3] at this; rw [q3] at this; exact this : Calls Tryz.prog 75 #[ptr bm, .int .i64 41] W (RLeft W bm F (.int .i64 0) o3.2)))
          have D4 := hid (fun (W : World) (h : IsRMem W bm o3.2 F) => (by have := rflush75_any bm o3.2 F 42 W h g3.ok (by have := g3.size; omega); rw [← flush_go q3, ho4] at this; rw [q4] at this; exact this : Calls Tryz.prog 75 #[ptr bm, .int .i64 42] W (RLeft W bm F (.int .i64 0) o4.2)))
          have D5 := hid (fun (W : World) (h : IsRMem W bm o4.2 F) => (by have := rfence76_any bm o4.2 F  W h g4.ok (by have := g4.size; omega); rw [← fence_go q4, ho5] at this; rw [q5] at this; exact this : Calls Tryz.prog 76 #[ptr bm] W (RLeft W bm F (.int .i64 0) o5.2)))
          have D6 := hid (fun (W : World) (h : IsRMem W bm o5.2 F) => (by have := rstore93_any bm o5.2 F 40 1 W h g5.ok (by have := g5.size; omega); unfold storeR at this; rw [← put_go q5, ho6] at this; dsimp only at this; rw [decide_eq_true q6] at this; exact this : Calls Tryz.prog 93 #[ptr bm, .int .i64 40, .int .i64 1] W (RLeft W bm F (.bool true) o6.2)))
          have D7 := hid (fun (W : World) (h : IsRMem W bm o6.2 F) => (by have := rstore93_any bm o6.2 F ((kk : Int) + 1) n W h g6.ok (by have := g6.size; omega); unfold storeR at this; rw [← put_go q6, ho7] at this; dsimp only at this; rw [decide_eq_false q7] at this; exact this : Calls Tryz.prog 93 #[ptr bm, .int .i64 ((kk : Int) + 1), .int .i64 n] W (RLeft W bm F (.bool false) o7.2)))
          clear hok hsz hbk hle hon hon1 hl20 hum hcl hlo hls hlc hwas hwn hkk hi g1 ho1 g2 ho2 g3 ho3 g4 ho4 g5 ho5 g6 ho6 g7 ho7 g8 ho8 q1 q2 q3 q4 q5 q6 q7 v7 e8
          go_enter Tryz.func81, Tryz.ntmps81
          go_wp2_with (first
            | (go_at_call 107; (with_reducible refine HG.out.mono ?_); rintro e w1 ⟨rfl, hg⟩; have HG1 := hid hg; have c1 := C1.out _ hg; have c0 := C0.out _ hg; have HM0 := hid (HM.out.grew hg); have HK0 := hid (Keeps.refl (InF F) w1); clear hg)
            | (go_at_call 56; (with_reducible refine (HIN.out _).mono ?_); rintro e w2 ⟨rfl, rfl⟩)
            | (go_at_call 92; (with_reducible refine (HW.out _).mono ?_); rintro e w2 ⟨rfl, rfl⟩)
            | (go_at_call 74; (with_reducible refine (D1.out _ HM0.out).mono ?_); rintro e v1 ⟨rfl, hm, hk⟩; have HM1 := hid hm; have HK1 := hid (HK0.out.trans hk); have k1 := ((hbu.grew HG1.out).keeps HK1.out (fun k _ e e2 => HD.out k e2 e)).c1; have kl := CL.out _ _ HG1.out HK1.out; clear hm hk)
            | (go_at_call 74; (with_reducible refine (D2.out _ HM1.out).mono ?_); rintro e v2 ⟨rfl, hm, hk⟩; have HM2 := hid hm; have HK2 := hid (HK1.out.trans hk); clear hm hk)
            | (go_at_call 75; (with_reducible refine (D3.out _ HM2.out).mono ?_); rintro e v3 ⟨rfl, hm, hk⟩; have HM3 := hid hm; have HK3 := hid (HK2.out.trans hk); clear hm hk)
            | (go_at_call 75; (with_reducible refine (D4.out _ HM3.out).mono ?_); rintro e v4 ⟨rfl, hm, hk⟩; have HM4 := hid hm; have HK4 := hid (HK3.out.trans hk); clear hm hk)
            | (go_at_call 76; (with_reducible refine (D5.out _ HM4.out).mono ?_); rintro e v5 ⟨rfl, hm, hk⟩; have HM5 := hid hm; have HK5 := hid (HK4.out.trans hk); clear hm hk)
            | (go_at_call 93; (with_reducible refine (D6.out _ HM5.out).mono ?_); rintro e v6 ⟨rfl, hm, hk⟩; have HM6 := hid hm; have HK6 := hid (HK5.out.trans hk); clear hm hk)
            | (go_at_call 93; (with_reducible refine (D7.out _ HM6.out).mono ?_); rintro e v7 ⟨rfl, hm, hk⟩; have HM7 := hid hm; have HK7 := hid (HK6.out.trans hk); clear hm hk))
          go_ret
          exact rMem HB.out HD.out HG1.out HM7.out HK7.out
        rcases (show o8.1 = 0 ∨ (o8.1 ≠ 0 ∧ o8.1 = 101) by rcases g8.res with ⟨h, -, -⟩ | ⟨h, -, -⟩; exact .inl h; exact .inr ⟨by omega, h⟩) with q8 | ⟨q8, v8⟩
        rotate_left
        · rw [if_neg q8, v8]
          have D1 := hid (fun (W : World) (h : IsRMem W bm M F) => (by have := rwrite74_any bm M F 41 ((kk : Int) + 1) W h hok (by omega); rw [← write_go (o := (0, M)) rfl, ho1] at this; rw [q1] at this; exact this : Calls Tryz.prog 74 #[ptr bm, .int .i64 41, .int .i64 ((kk : Int) + 1)] W (RLeft W bm F (.int .i64 0) o1.2)))
          have D2 := hid (fun (W : World) (h : IsRMem W bm o1.2 F) => (by have := rwrite74_any bm o1.2 F 42 was W h g1.ok (by have := g1.size; omega); rw [← write_go q1, ho2] at this; rw [q2] at this; exact this : Calls Tryz.prog 74 #[ptr bm, .int .i64 42, .int .i64 was] W (RLeft W bm F (.int .i64 0) o2.2)))
          have D3 := hid (fun (W : World) (h : IsRMem W bm o2.2 F) => (by have := rflush75_any bm o2.2 F 41 W h g2.ok (by have := g2.size; omega); rw [← flush_go q2, ho3] at this; rw [q3] at this; exact this : Calls Tryz.prog 75 #[ptr bm, .int .i64 41] W (RLeft W bm F (.int .i64 0) o3.2)))
          have D4 := hid (fun (W : World) (h : IsRMem W bm o3.2 F) => (by have := rflush75_any bm o3.2 F 42 W h g3.ok (by have := g3.size; omega); rw [← flush_go q3, ho4] at this; rw [q4] at this; exact this : Calls Tryz.prog 75 #[ptr bm, .int .i64 42] W (RLeft W bm F (.int .i64 0) o4.2)))
          have D5 := hid (fun (W : World) (h : IsRMem W bm o4.2 F) => (by have := rfence76_any bm o4.2 F  W h g4.ok (by have := g4.size; omega); rw [← fence_go q4, ho5] at this; rw [q5] at this; exact this : Calls Tryz.prog 76 #[ptr bm] W (RLeft W bm F (.int .i64 0) o5.2)))
          have D6 := hid (fun (W : World) (h : IsRMem W bm o5.2 F) => (by have := rstore93_any bm o5.2 F 40 1 W h g5.ok (by have := g5.size; omega); unfold storeR at this; rw [← put_go q5, ho6] at this; dsimp only at this; rw [decide_eq_true q6] at this; exact this : Calls Tryz.prog 93 #[ptr bm, .int .i64 40, .int .i64 1] W (RLeft W bm F (.bool true) o6.2)))
          have D7 := hid (fun (W : World) (h : IsRMem W bm o6.2 F) => (by have := rstore93_any bm o6.2 F ((kk : Int) + 1) n W h g6.ok (by have := g6.size; omega); unfold storeR at this; rw [← put_go q6, ho7] at this; dsimp only at this; rw [decide_eq_true q7] at this; exact this : Calls Tryz.prog 93 #[ptr bm, .int .i64 ((kk : Int) + 1), .int .i64 n] W (RLeft W bm F (.bool true) o7.2)))
          have D8 := hid (fun (W : World) (h : IsRMem W bm o7.2 F) => (by have := rstore93_any bm o7.2 F 40 0 W h g7.ok (by have := g7.size; omega); unfold storeR at this; rw [← put_go q7, ho8] at this; dsimp only at this; rw [decide_eq_false q8] at this; exact this : Calls Tryz.prog 93 #[ptr bm, .int .i64 40, .int .i64 0] W (RLeft W bm F (.bool false) o8.2)))
          clear hok hsz hbk hle hon hon1 hl20 hum hcl hlo hls hlc hwas hwn hkk hi g1 ho1 g2 ho2 g3 ho3 g4 ho4 g5 ho5 g6 ho6 g7 ho7 g8 ho8 q1 q2 q3 q4 q5 q6 q7 q8 v8
          go_enter Tryz.func81, Tryz.ntmps81
          go_wp2_with (first
            | (go_at_call 107; (with_reducible refine HG.out.mono ?_); rintro e w1 ⟨rfl, hg⟩; have HG1 := hid hg; have c1 := C1.out _ hg; have c0 := C0.out _ hg; have HM0 := hid (HM.out.grew hg); have HK0 := hid (Keeps.refl (InF F) w1); clear hg)
            | (go_at_call 56; (with_reducible refine (HIN.out _).mono ?_); rintro e w2 ⟨rfl, rfl⟩)
            | (go_at_call 92; (with_reducible refine (HW.out _).mono ?_); rintro e w2 ⟨rfl, rfl⟩)
            | (go_at_call 74; (with_reducible refine (D1.out _ HM0.out).mono ?_); rintro e v1 ⟨rfl, hm, hk⟩; have HM1 := hid hm; have HK1 := hid (HK0.out.trans hk); have k1 := ((hbu.grew HG1.out).keeps HK1.out (fun k _ e e2 => HD.out k e2 e)).c1; have kl := CL.out _ _ HG1.out HK1.out; clear hm hk)
            | (go_at_call 74; (with_reducible refine (D2.out _ HM1.out).mono ?_); rintro e v2 ⟨rfl, hm, hk⟩; have HM2 := hid hm; have HK2 := hid (HK1.out.trans hk); clear hm hk)
            | (go_at_call 75; (with_reducible refine (D3.out _ HM2.out).mono ?_); rintro e v3 ⟨rfl, hm, hk⟩; have HM3 := hid hm; have HK3 := hid (HK2.out.trans hk); clear hm hk)
            | (go_at_call 75; (with_reducible refine (D4.out _ HM3.out).mono ?_); rintro e v4 ⟨rfl, hm, hk⟩; have HM4 := hid hm; have HK4 := hid (HK3.out.trans hk); clear hm hk)
            | (go_at_call 76; (with_reducible refine (D5.out _ HM4.out).mono ?_); rintro e v5 ⟨rfl, hm, hk⟩; have HM5 := hid hm; have HK5 := hid (HK4.out.trans hk); clear hm hk)
            | (go_at_call 93; (with_reducible refine (D6.out _ HM5.out).mono ?_); rintro e v6 ⟨rfl, hm, hk⟩; have HM6 := hid hm; have HK6 := hid (HK5.out.trans hk); clear hm hk)
            | (go_at_call 93; (with_reducible refine (D7.out _ HM6.out).mono ?_); rintro e v7 ⟨rfl, hm, hk⟩; have HM7 := hid hm; have HK7 := hid (HK6.out.trans hk); clear hm hk)
            | (go_at_call 93; (with_reducible refine (D8.out _ HM7.out).mono ?_); rintro e v8 ⟨rfl, hm, hk⟩; have HM8 := hid hm; have HK8 := hid (HK7.out.trans hk); clear hm hk))
          go_ret
          exact rMem HB.out HD.out HG1.out HM8.out HK8.out
        rw [if_pos q8, q8]
        have D1 := hid (fun (W : World) (h : IsRMem W bm M F) => (by have := rwrite74_any bm M F 41 ((kk : Int) + 1) W h hok (by omega); rw [← write_go (o := (0, M)) rfl, ho1] at this; rw [q1] at this; exact this : Calls Tryz.prog 74 #[ptr bm, .int .i64 41, .int .i64 ((kk : Int) + 1)] W (RLeft W bm F (.int .i64 0) o1.2)))
        have D2 := hid (fun (W : World) (h : IsRMem W bm o1.2 F) => (by have := rwrite74_any bm o1.2 F 42 was W h g1.ok (by have := g1.size; omega); rw [← write_go q1, ho2] at this; rw [q2] at this; exact this : Calls Tryz.prog 74 #[ptr bm, .int .i64 42, .int .i64 was] W (RLeft W bm F (.int .i64 0) o2.2)))
        have D3 := hid (fun (W : World) (h : IsRMem W bm o2.2 F) => (by have := rflush75_any bm o2.2 F 41 W h g2.ok (by have := g2.size; omega); rw [← flush_go q2, ho3] at this; rw [q3] at this; exact this : Calls Tryz.prog 75 #[ptr bm, .int .i64 41] W (RLeft W bm F (.int .i64 0) o3.2)))
        have D4 := hid (fun (W : World) (h : IsRMem W bm o3.2 F) => (by have := rflush75_any bm o3.2 F 42 W h g3.ok (by have := g3.size; omega); rw [← flush_go q3, ho4] at this; rw [q4] at this; exact this : Calls Tryz.prog 75 #[ptr bm, .int .i64 42] W (RLeft W bm F (.int .i64 0) o4.2)))
        have D5 := hid (fun (W : World) (h : IsRMem W bm o4.2 F) => (by have := rfence76_any bm o4.2 F  W h g4.ok (by have := g4.size; omega); rw [← fence_go q4, ho5] at this; rw [q5] at this; exact this : Calls Tryz.prog 76 #[ptr bm] W (RLeft W bm F (.int .i64 0) o5.2)))
        have D6 := hid (fun (W : World) (h : IsRMem W bm o5.2 F) => (by have := rstore93_any bm o5.2 F 40 1 W h g5.ok (by have := g5.size; omega); unfold storeR at this; rw [← put_go q5, ho6] at this; dsimp only at this; rw [decide_eq_true q6] at this; exact this : Calls Tryz.prog 93 #[ptr bm, .int .i64 40, .int .i64 1] W (RLeft W bm F (.bool true) o6.2)))
        have D7 := hid (fun (W : World) (h : IsRMem W bm o6.2 F) => (by have := rstore93_any bm o6.2 F ((kk : Int) + 1) n W h g6.ok (by have := g6.size; omega); unfold storeR at this; rw [← put_go q6, ho7] at this; dsimp only at this; rw [decide_eq_true q7] at this; exact this : Calls Tryz.prog 93 #[ptr bm, .int .i64 ((kk : Int) + 1), .int .i64 n] W (RLeft W bm F (.bool true) o7.2)))
        have D8 := hid (fun (W : World) (h : IsRMem W bm o7.2 F) => (by have := rstore93_any bm o7.2 F 40 0 W h g7.ok (by have := g7.size; omega); unfold storeR at this; rw [← put_go q7, ho8] at this; dsimp only at this; rw [decide_eq_true q8] at this; exact this : Calls Tryz.prog 93 #[ptr bm, .int .i64 40, .int .i64 0] W (RLeft W bm F (.bool true) o8.2)))
        have HSEG := hid rempty_seg
        obtain ⟨i0, hi0, hz0, hzz, hz2⟩ := info_parts Tryz.info3
        have HU := hid hbu
        have HL := hid (And.intro hkk hl20)
        clear hok hsz hbk hle hon hon1 hl20 hum hcl hlo hls hlc hwas hwn hkk hi g1 ho1 q1 g2 ho2 q2 g3 ho3 q3 g4 ho4 q4 g5 ho5 q5 g6 ho6 q6 g7 ho7 q7 g8 ho8 q8
        go_enter Tryz.func81, Tryz.ntmps81
        go_wp2_with (first
          | (go_at_call 107; (with_reducible refine HG.out.mono ?_); rintro e w1 ⟨rfl, hg⟩; have HG1 := hid hg; have c1 := C1.out _ hg; have c0 := C0.out _ hg; have HM0 := hid (HM.out.grew hg); have HK0 := hid (Keeps.refl (InF F) w1); clear hg)
          | (go_at_call 56; (with_reducible refine (HIN.out _).mono ?_); rintro e w2 ⟨rfl, rfl⟩)
          | (go_at_call 92; (with_reducible refine (HW.out _).mono ?_); rintro e w2 ⟨rfl, rfl⟩)
          | (go_at_call 74; (with_reducible refine (D1.out _ HM0.out).mono ?_); rintro e v1 ⟨rfl, hm, hk⟩; have HM1 := hid hm; have HK1 := hid (HK0.out.trans hk); have k1 := ((hbu.grew HG1.out).keeps HK1.out (fun k _ e e2 => HD.out k e2 e)).c1; have kl := CL.out _ _ HG1.out HK1.out; clear hm hk)
          | (go_at_call 74; (with_reducible refine (D2.out _ HM1.out).mono ?_); rintro e v2 ⟨rfl, hm, hk⟩; have HM2 := hid hm; have HK2 := hid (HK1.out.trans hk); clear hm hk)
          | (go_at_call 75; (with_reducible refine (D3.out _ HM2.out).mono ?_); rintro e v3 ⟨rfl, hm, hk⟩; have HM3 := hid hm; have HK3 := hid (HK2.out.trans hk); clear hm hk)
          | (go_at_call 75; (with_reducible refine (D4.out _ HM3.out).mono ?_); rintro e v4 ⟨rfl, hm, hk⟩; have HM4 := hid hm; have HK4 := hid (HK3.out.trans hk); clear hm hk)
          | (go_at_call 76; (with_reducible refine (D5.out _ HM4.out).mono ?_); rintro e v5 ⟨rfl, hm, hk⟩; have HM5 := hid hm; have HK5 := hid (HK4.out.trans hk); clear hm hk)
          | (go_at_call 93; (with_reducible refine (D6.out _ HM5.out).mono ?_); rintro e v6 ⟨rfl, hm, hk⟩; have HM6 := hid hm; have HK6 := hid (HK5.out.trans hk); clear hm hk)
          | (go_at_call 93; (with_reducible refine (D7.out _ HM6.out).mono ?_); rintro e v7 ⟨rfl, hm, hk⟩; have HM7 := hid hm; have HK7 := hid (HK6.out.trans hk); clear hm hk)
          | (go_at_call 93; (with_reducible refine (D8.out _ HM7.out).mono ?_); rintro e v8 ⟨rfl, hm, hk⟩; have HM8 := hid hm; have HK8 := hid (HK7.out.trans hk); have hu8 := (HU.out.grew HG1.out).keeps HK8.out (fun k _ e e2 => HD.out k e2 e); have HU8 := hid hu8; have k8 := hu8.c1; have z8 := lt_of_obj hu8.obj; have HSRC := hid (src_ints (Reads.grew hu8.list.any (grew_alloc (grew_refl v8) (.cells #[] 3)))); clear hm hk hu8)
          | (at_builtin; refine wpList_append_seg rfl _ _ 39 39 rfl v8.heap.size 3 i0 (.int .i64 0) 1 8 Tryz.underlying39 hi0 hz0 hzz hz2 rfl _ 0 [] rfl (HSEG.out v8) _ rfl b.list.length _ HSRC.out (by have := HL.out.2; unfold maxLen; omega) (by have := HL.out.2; omega) ?_ ?_; simp; intro x9 w9 hown9 hgrow9 hblk9; have hg9 : Grew v8 w9 := ((grew_refl v8).alloc (Nat.le_refl _) _).grown hgrow9 (by simp) (fun k e => by cases e; exact Nat.le_refl _); rw [Nat.zero_add, List.nil_append] at hown9; obtain ⟨ng, nof, nc2, cur, rfl, hngb, hngo, -, -, hnat⟩ := hown9.at (by have := HL.out.1; omega); have nf0 := frozen_of_row w9 ng (nof + kk) _ _ hngo; have nc0 := hnat kk (by have := HL.out.1; omega); rw [List.getElem?_map, List.getElem?_eq_getElem HL.out.1] at nc0; simp only [Option.map_some] at nc0; have hu9 := HU8.out.grew hg9; have k9 := hu9.c1; have f9 := hu9.f1; have HU9 := hid hu9; have HG9 := hid hg9; have HS9 := hid hown9; have HNG := hid hngb; have hne9 : bb ≠ ng := (by omega); have z9 := lt_of_obj hngo; have zb9 := lt_of_obj hu9.obj; clear hown9 hgrow9 hblk9 hg9 hu9 hngo hnat hngb))
        go_ret
        exact rDone2 HB.out HD.out HG1.out HM8.out HK8.out HG9.out HNG.out (rbook_set2 n HU9.out HU8.out.lt HS9.out HL.out.1 HNG.out) (fun k e => e.imp id (fun h => h.1))
      · rw [if_neg hi]
        rw [show (decide ((1 : Int) ≤ i) && decide (i ≤ (b.list.length : Int))) = false by rw [Bool.and_eq_false_iff, decide_eq_false_iff_not, decide_eq_false_iff_not]; omega] at HW
        clear hi hcl
        go_enter Tryz.func81, Tryz.ntmps81
        go_wp2_with (first
          | (go_at_call 107; (with_reducible refine HG.out.mono ?_); rintro e w1 ⟨rfl, hg⟩; have HG1 := hid hg; have c1 := C1.out _ hg; clear hg)
          | (go_at_call 56; (with_reducible refine (HIN.out _).mono ?_); rintro e w2 ⟨rfl, rfl⟩)
          | (go_at_call 92; (with_reducible refine (HW.out _).mono ?_); rintro e w2 ⟨rfl, rfl⟩))
        go_ret
        exact rStart HB.out HM.out HG1.out
  · rw [show (if (true : Bool) = true then (101 : Int) else if q = true then 0 else 103) = 101 from rfl, if_neg (by decide)]
    go_enter Tryz.func81, Tryz.ntmps81
    go_wp2_with (go_at_call 107; (with_reducible refine HG.out.mono ?_); rintro e w1 ⟨rfl, hg⟩; have HG1 := hid hg; clear hg)
    go_ret
    exact rStart HB.out HM.out HG1.out

end Go.Proofs.YtmohnddglmolgaaGreatDoor
