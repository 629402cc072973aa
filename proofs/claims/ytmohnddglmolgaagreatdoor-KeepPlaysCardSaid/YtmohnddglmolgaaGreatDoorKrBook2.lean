/- The reference's book; walks: Add (80), Change (81). Printed by gen_krbook.py. -/
import Derived.Test.YtmohnddglmolgaaGreatDoorKrBook
namespace Go.Lin.Kp
open Go Go.Lin

theorem write_err {o : Ord} (h : o.1 ≠ 0) (c n : Int) : Ord.write o c n = o := by unfold Ord.write; rw [if_neg h]
theorem flush_err {o : Ord} (h : o.1 ≠ 0) (c : Int) : Ord.flush o c = o := by unfold Ord.flush; rw [if_neg h]
theorem fence_err {o : Ord} (h : o.1 ≠ 0) : Ord.fence o = o := by unfold Ord.fence; rw [if_neg h]
theorem put_err {o : Ord} (h : o.1 ≠ 0) (c n : Int) : Ord.put o c n = o := by unfold Ord.put; rw [write_err h, flush_err h, fence_err h]
theorem write_go {o : Ord} (h : o.1 = 0) (c n : Int) : Ord.write o c n = o.2.write c n := by unfold Ord.write; rw [if_pos h]
theorem flush_go {o : Ord} (h : o.1 = 0) (c : Int) : Ord.flush o c = o.2.flush c := by unfold Ord.flush; rw [if_pos h]
theorem fence_go {o : Ord} (h : o.1 = 0) : Ord.fence o = o.2.fence := by unfold Ord.fence; rw [if_pos h]
theorem put_go {o : Ord} (h : o.1 = 0) (c n : Int) : Ord.put o c n = Ord.put (0, o.2) c n := by
  obtain ⟨a, m⟩ := o
  simp only at h
  rw [h]
end Go.Lin.Kp
namespace Go.Proofs.YtmohnddglmolgaaGreatDoor
open Go Go.RowKit Go.Lin Go.Lin.Kp

theorem rempty_seg (w : World) : Seg (w.alloc (.cells #[] 3)) w.heap.size 3 1 (.slice (some ⟨w.heap.size, 0, none⟩) 0 0) 0 [] :=
  ⟨by simp, .inr ⟨w.heap.size, 0, 0, #[], rfl, Nat.le_refl _, heap_alloc_new w _, Nat.le_refl _, by unfold maxLen; omega, by simp, by simp⟩⟩

/-- The book's list is replaced by one in new blocks. -/
theorem rbook_set {w : World} {bb bm B : Nat} {u v : Value} {b : Bk} {G : Nat → Prop} {L : List Int} (h : RBookIs w bb bm u b G) (hG : ∀ k, G k → k < B) (hv : IsInts (fun k _ => B ≤ k) w v L) :
    IsRBook (w.setCell ⟨bb, 1, none⟩ v) bb bm { b with list := L } (fun k => G k ∨ (B ≤ k ∧ k < w.heap.size)) := by
  have hk : Keeps (fun k _ => k = bb) w (w.setCell ⟨bb, 1, none⟩ v) := keeps_set1 _ _ (fun _ => rfl)
  have hbb := hG bb h.inB
  refine ⟨v, by rw [heap_setCell_same w bb 1 _ _ _ h.obj]; rfl, ?_, .inl h.inB, fun k e => ?_⟩
  · exact Reads.keeps (Reads.re' hv (S' := fun k _ => (G k ∨ (B ≤ k ∧ k < w.heap.size)) ∧ k ≠ bb) (fun k o ho hs => ⟨.inr ⟨hs, lt_of_obj ho⟩, by omega⟩)) hk (fun k o hs e => hs.2 e)
  · rw [World.size_setCell]
    rcases e with e | e
    · exact h.lt k e
    · exact e.2

/-- A list is copied into a new block. -/
theorem isInts_new {w : World} {B n : Nat} {v : Value} {L : List Int} (h : Seg w B 3 1 v n (L.map (.int .i64))) : IsInts (fun k _ => B ≤ k) w v L := h.isInts.mono fun _ _ hs => hs.1

theorem rStart {w w' : World} {bb bm : Nat} {b : Bk} {M : Mem} {F G : Nat → Prop} {v : Int} (hb : IsRBook w bb bm b G) (hm : IsRMem w bm M F) (hg : Grew w w') : RDeed w bb bm F G (v, b, M) (.returned (.int .i64 v)) w' :=
  ⟨rfl, hm.grew hg, ⟨G, hb.grew hg, fun _ e => .inl e⟩, hg.keeps⟩

/-- What a deed leaves that turned the memory alone. -/
theorem rMem {w w1 w2 : World} {bb bm : Nat} {b : Bk} {M' : Mem} {F G : Nat → Prop} {v : Int} (hb : IsRBook w bb bm b G) (hd : ∀ k, F k → ¬ G k) (hg : Grew w w1) (hm : IsRMem w2 bm M' F) (hk : Keeps (InF F) w1 w2) : RDeed w bb bm F G (v, b, M') (.returned (.int .i64 v)) w2 :=
  ⟨rfl, hm, ⟨G, (hb.grew hg).keeps hk (fun k _ e e2 => hd k e2 e), fun _ e => .inl e⟩, hg.keeps.trans (hk.mono fun _ _ e => .inl e)⟩

theorem rDone {w w1 w2 w3 : World} {bb bm : Nat} {b b' : Bk} {M' : Mem} {F G G' : Nat → Prop} {v : Value} (hb : IsRBook w bb bm b G) (hd : ∀ k, F k → ¬ G k) (hg : Grew w w1) (hm : IsRMem w2 bm M' F) (hk : Keeps (InF F) w1 w2) (hg3 : Grew w2 w3)
    (hb3 : IsRBook (w3.setCell ⟨bb, 1, none⟩ v) bb bm b' G') (hG : ∀ k, G' k → G k ∨ w2.heap.size ≤ k) : RDeed w bb bm F G (0, b', M') (.returned (.int .i64 0)) (w3.setCell ⟨bb, 1, none⟩ v) := by
  have hks : Keeps (fun k _ => k = bb) w3 (w3.setCell ⟨bb, 1, none⟩ v) := keeps_set1 _ _ (fun _ => rfl)
  have hz := Nat.le_trans hg.size hk.size
  refine ⟨rfl, (hm.grew hg3).keeps hks (fun k _ e e2 => hd k e (by rw [e2]; exact hb.inB)), ⟨G', hb3, fun k e => (hG k e).imp id (fun h => Nat.le_trans hz h)⟩, ?_⟩
  exact ((hg.keeps.trans (hk.mono fun _ _ e => .inl e)).trans hg3.keeps).trans (hks.mono fun k _ e => .inr (by rw [e]; exact hb.inB))

set_option maxHeartbeats 8000000 in
set_option maxRecDepth 20000 in
theorem radd80_any (bb bm : Nat) (b : Bk) (M : Mem) (F G : Nat → Prop) (n : Int) (w : World) (hb : IsRBook w bb bm b G) (hm : IsRMem w bm M F) (hd : ∀ k, F k → ¬ G k) (hok : Ok M) (hsz : M.size + 10 < 1000000000) (hbk : BkOk b) (hle : Le M b) :
    Calls Tryz.prog 80 #[ptr bb, .int .i64 n] w (RDeed w bb bm F G (M.add b n)) := by
  have HG := hid (rgone107_any bb bm b M F G w hb hm)
  have HIN := hid (isNumber56_any n)
  have HB := hid hb; have HM := hid hm; have HD := hid hd
  have hask := asked_gone hle n
  have hl20 := hbk.1
  have hon : goneM M b = false → M.on = true := fun h => by
    unfold goneM at h
    rw [Bool.or_eq_false_iff] at h
    cases ho : M.on
    · rw [ho] at h; cases h.1
    · rfl
  unfold Mem.add
  rw [hask]
  obtain ⟨g, hg⟩ : ∃ g, goneM M b = g := ⟨_, rfl⟩
  obtain ⟨q, hq⟩ : ∃ q, isNum n = q := ⟨_, rfl⟩
  have HQ := hid hq
  rw [hg] at HG hon ⊢
  rw [hq] at HIN ⊢
  clear hg hq hask hb hm hd hbk
  cases g
  · cases q
    · rw [show (if (false : Bool) = true then (101 : Int) else if (false : Bool) = true then 0 else 103) = 103 from rfl, if_neg (by decide)]
      go_enter Tryz.func80, Tryz.ntmps80
      go_wp2_with (first
        | (go_at_call 107; (with_reducible refine HG.out.mono ?_); rintro e w1 ⟨rfl, hg⟩; have HG1 := hid hg; clear hg)
        | (go_at_call 56; (with_reducible refine (HIN.out _).mono ?_); rintro e w2 ⟨rfl, rfl⟩))
      go_ret
      exact rStart HB.out HM.out HG1.out
    · rw [show (if (false : Bool) = true then (101 : Int) else if (true : Bool) = true then 0 else 103) = 0 from rfl, if_pos rfl]
      obtain ⟨u, hbu⟩ := HB.out
      obtain ⟨ua, uc, rfl, hum, -⟩ := id hbu.list
      have C1 := hid (fun (W : World) (h : Grew w W) => (hbu.grew h).c1)
      have C0 := hid (fun (W : World) (h : Grew w W) => (hbu.grew h).c0)
      by_cases h20 : b.list.length = 20
      · rw [if_pos h20]
        have d20 : decide ((20 : Int) ≤ (b.list.length : Int)) = true := by rw [decide_eq_true_eq]; omega
        have d20' : decide (20 ≤ b.list.length) = true := by rw [decide_eq_true_eq]; omega
        clear h20
        go_enter Tryz.func80, Tryz.ntmps80
        go_wp2_with (first
          | (go_at_call 107; (with_reducible refine HG.out.mono ?_); rintro e w1 ⟨rfl, hg⟩; have HG1 := hid hg; have c1 := C1.out _ hg; clear hg)
          | (go_at_call 56; (with_reducible refine (HIN.out _).mono ?_); rintro e w2 ⟨rfl, rfl⟩))
        go_ret
        exact rStart HB.out HM.out HG1.out
      · rw [if_neg h20]
        have d20 : decide ((20 : Int) ≤ (b.list.length : Int)) = false := by rw [decide_eq_false_iff_not]; omega
        have d20' : decide (20 ≤ b.list.length) = false := by rw [decide_eq_false_iff_not]; omega
        have hw1 : IntKind.i64.wrap ((b.list.length : Int) + 1) = (b.list.length : Int) + 1 := IntWalk.i64_in _ (by omega)
        have hon1 := hon rfl
        have hst := fun (W : World) (h : IsRMem W bm M F) => rstore93_any bm M F ((b.list.length : Int) + 1) n W h hok (by omega)
        have r1 := ((Goes.refl hok hon1).put (c := (b.list.length : Int) + 1) (n := n) (isCell_iff.2 (by omega)) HQ.out)
        have s1 := r1.size
        have hadd : addO M b n = Ord.put (Ord.put (0, M) ((b.list.length : Int) + 1) n) 0 ((b.list.length : Int) + 1) := rfl
        rw [hadd]
        unfold storeR at hst
        obtain ⟨⟨e1, M1⟩, h1⟩ : ∃ o, Ord.put (0, M) ((b.list.length : Int) + 1) n = o := ⟨_, rfl⟩
        rw [h1] at hst r1 s1 ⊢
        dsimp only at hst s1
        rcases r1.res with ⟨h0, hon2, -⟩ | ⟨h0, -, -⟩
        · simp only at h0 hon2
          subst h0
          rw [decide_eq_true rfl] at hst
          have hst2 := fun (W : World) (h : IsRMem W bm M1 F) => rstore93_any bm M1 F 0 ((b.list.length : Int) + 1) W h r1.ok (by omega)
          have r2 := ((Goes.refl r1.ok hon2).put (c := 0) (n := (b.list.length : Int) + 1) (by decide) (isNum_iff.2 (by omega)))
          unfold storeR at hst2
          obtain ⟨⟨e2, M2⟩, h2⟩ : ∃ o, Ord.put (0, M1) 0 ((b.list.length : Int) + 1) = o := ⟨_, rfl⟩
          rw [h2] at hst2 r2 ⊢
          dsimp only at hst2 ⊢
          have HS1 := hid hst
          rcases r2.res with ⟨h0, -, -⟩ | ⟨h0, -, -⟩
          · simp only at h0
            subst h0
            rw [decide_eq_true rfl] at hst2
            rw [if_pos rfl]
            have HS2 := hid hst2
            have HSEG := hid rempty_seg
            obtain ⟨i0, hi, hz0, hzz, hz2⟩ := info_parts Tryz.info3
            have HU := hid hbu
            have HL := hid (show b.list.length < 20 by omega)
            clear h1 h2 r1 r2 hst hst2 hadd hon hon1 hon2 s1 hbu h20 hok hle hl20
            go_enter Tryz.func80, Tryz.ntmps80
            go_wp2_with (first
              | (go_at_call 107; (with_reducible refine HG.out.mono ?_); rintro e w1 ⟨rfl, hg⟩; have HG1 := hid hg; have c1 := C1.out _ hg; have c0 := C0.out _ hg; have HM1 := hid (HM.out.grew hg); clear hg)
              | (go_at_call 56; (with_reducible refine (HIN.out _).mono ?_); rintro e w2 ⟨rfl, rfl⟩)
              | (go_at_call 93; (with_reducible refine (HS1.out _ HM1.out).mono ?_); rintro e w3 ⟨rfl, hm, hk⟩; have HM3 := hid hm; have HK3 := hid hk; have k0 := ((HU.out.grew HG1.out).keeps hk (fun k _ e e2 => HD.out k e2 e)).c0; clear hm hk)
              | (go_at_call 93; (with_reducible refine (HS2.out _ HM3.out).mono ?_); rintro e w4 ⟨rfl, hm, hk⟩; have HM4 := hid hm; have HK4 := hid (HK3.out.trans hk); have hu4 := (HU.out.grew HG1.out).keeps (HK3.out.trans hk) (fun k _ e e2 => HD.out k e2 e); have HU4 := hid hu4; have k1 := hu4.c1; have z4 := lt_of_obj hu4.obj; have HSRC := hid (src_ints (Reads.grew hu4.list.any (grew_alloc (grew_refl w4) (.cells #[] 3)))); clear hm hk hu4)
              | (at_builtin; refine wpList_append_seg rfl _ _ 39 39 rfl w4.heap.size 3 i0 (.int .i64 0) 1 8 Tryz.underlying39 hi hz0 hzz hz2 rfl _ 0 [] rfl (HSEG.out w4) _ rfl b.list.length _ HSRC.out (by have := HL.out; unfold maxLen; omega) (by have := HL.out; omega) ?_ ?_; simp; intro v5 w5 hown5 hgrow5 hblk5; have hg5 : Grew w4 w5 := ((grew_refl w4).alloc (Nat.le_refl _) _).grown hgrow5 (by simp) (fun k e => by cases e; exact Nat.le_refl _); rw [Nat.zero_add, List.nil_append] at hown5; have HG5 := hid hg5; have HS5 := hid hown5; obtain ⟨xa, xc, rfl, _⟩ := hown5.shape; clear hown5 hgrow5 hblk5 hg5)
              | (at_builtin; refine wpList_append_one rfl _ _ 39 rfl w4.heap.size 3 Tryz.underlying39 Tryz.info3 rfl (by decide) (.slice xa b.list.length xc) b.list.length _ rfl (HS5.out.alloc _) _ _ _ rfl (one_new _ _ _) rfl (by have := HL.out; omega) ?_ ?_; (have := HG5.out.size; simp only [World.size_alloc]; omega); intro v6 w6 hown6 hgrow6 hblk6; have hg6 : Grew w4 w6 := (HG5.out.alloc HG5.out.size _).grown hgrow6 (HG5.out.alloc HG5.out.size _).size (fun k e => (HS5.out.own k e).1); obtain ⟨xa6, xc6, rfl, _⟩ := hown6.shape; have HG6 := hid hg6; have hl6 : Seg w6 w4.heap.size 3 1 (.slice xa6 (b.list.length + 1) xc6) (b.list.length + 1) ((b.list ++ [n]).map (.int .i64)) := (by rw [List.map_append]; exact hown6); have HS6 := hid hl6; have hu6 := HU4.out.grew hg6; have k6 := hu6.c1; have f6 := hu6.f1; have HU6 := hid hu6; clear hown6 hgrow6 hblk6 hg6 hl6 hu6))
            go_ret
            exact rDone HB.out HD.out HG1.out HM4.out HK4.out HG6.out (rbook_set HU6.out HU4.out.lt (isInts_new HS6.out)) (fun k e => e.imp id (fun h => h.1))
          · simp only at h0
            subst h0
            rw [decide_eq_false (by decide)] at hst2
            rw [if_neg (by decide)]
            have HS2 := hid hst2
            have HU := hid hbu
            clear h1 h2 r1 r2 hst hst2 hadd hon hon1 hon2 s1 hbu h20 hok hle hl20
            go_enter Tryz.func80, Tryz.ntmps80
            go_wp2_with (first
              | (go_at_call 107; (with_reducible refine HG.out.mono ?_); rintro e w1 ⟨rfl, hg⟩; have HG1 := hid hg; have c1 := C1.out _ hg; have c0 := C0.out _ hg; have HM1 := hid (HM.out.grew hg); clear hg)
              | (go_at_call 56; (with_reducible refine (HIN.out _).mono ?_); rintro e w2 ⟨rfl, rfl⟩)
              | (go_at_call 93; (with_reducible refine (HS1.out _ HM1.out).mono ?_); rintro e w3 ⟨rfl, hm, hk⟩; have HM3 := hid hm; have HK3 := hid hk; have k0 := ((HU.out.grew HG1.out).keeps hk (fun k _ e e2 => HD.out k e2 e)).c0; clear hm hk)
              | (go_at_call 93; (with_reducible refine (HS2.out _ HM3.out).mono ?_); rintro e w4 ⟨rfl, hm, hk⟩; have HM4 := hid hm; have HK4 := hid (HK3.out.trans hk); clear hm hk))
            go_ret
            exact rMem HB.out HD.out HG1.out HM4.out HK4.out
        · simp only at h0
          subst h0
          rw [put_err (o := ((101 : Int), M1)) (show (101 : Int) ≠ 0 by decide)]
          dsimp only
          rw [if_neg (by decide)]
          rw [decide_eq_false (by decide)] at hst
          have HS1 := hid hst
          clear h1 r1 hst hadd hon hon1 s1 hbu h20 hok hle hl20
          go_enter Tryz.func80, Tryz.ntmps80
          go_wp2_with (first
            | (go_at_call 107; (with_reducible refine HG.out.mono ?_); rintro e w1 ⟨rfl, hg⟩; have HG1 := hid hg; have c1 := C1.out _ hg; have c0 := C0.out _ hg; have HM1 := hid (HM.out.grew hg); clear hg)
            | (go_at_call 56; (with_reducible refine (HIN.out _).mono ?_); rintro e w2 ⟨rfl, rfl⟩)
            | (go_at_call 93; (with_reducible refine (HS1.out _ HM1.out).mono ?_); rintro e w3 ⟨rfl, hm, hk⟩; have HM3 := hid hm; have HK3 := hid hk; clear hm hk))
          go_ret
          exact rMem HB.out HD.out HG1.out HM3.out HK3.out
  · rw [show (if (true : Bool) = true then (101 : Int) else if q = true then 0 else 103) = 101 from rfl, if_neg (by decide)]
    go_enter Tryz.func80, Tryz.ntmps80
    go_wp2_with (go_at_call 107; (with_reducible refine HG.out.mono ?_); rintro e w1 ⟨rfl, hg⟩; have HG1 := hid hg; clear hg)
    go_ret
    exact rStart HB.out HM.out HG1.out

end Go.Proofs.YtmohnddglmolgaaGreatDoor
