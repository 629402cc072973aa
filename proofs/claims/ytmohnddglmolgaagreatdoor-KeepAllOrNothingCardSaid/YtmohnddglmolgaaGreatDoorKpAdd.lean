/- Walk: Add (31). -/
import Derived.Test.YtmohnddglmolgaaGreatDoorKpOpen
namespace Go.Proofs.YtmohnddglmolgaaGreatDoor
open Go Go.RowKit Go.Lin Go.Lin.Kp

/-- What a deed leaves: its answer, the book, the memory. -/
def DeedLeft (w : World) (bb bm : Nat) (F G : Nat → Prop) (r : Int × Bk × Mem) (e : Ending) (w' : World) : Prop :=
  e = .returned (.int .i64 r.1) ∧ IsMem w' bm r.2.2 F ∧ (∃ G', IsBook w' bb bm r.2.1 G' ∧ Wider w G G') ∧ Keeps (fun k _ => F k ∨ G k) w w'

theorem BookIs.ne {w : World} {bb bm : Nat} {v : Value} {b : Bk} {G : Nat → Prop} (h : BookIs w bb bm v b G) : ∀ k, v.ownBlock = some k → k ≠ bb := by
  rintro k e rfl
  obtain ⟨_, _, cur, hc⟩ := h.list.own k e
  rw [h.obj] at hc; cases hc

/-- An entry goes to the end. -/
theorem book_append {w w9 : World} {bb bm n : Nat} {v v9 : Value} {b : Bk} {G : Nat → Prop} {y : Int} {c : Array Value} (h : BookIs w bb bm v b G) (hn : b.list.length = n) (hs : Seg w9 0 3 1 v9 (n + 1) ((b.list.map (.int .i64)) ++ [.int .i64 y]))
    (hg : (w.alloc (.cells c 3)).grownBy w9 v.ownBlock) (hb : v9.ownBlock = v.ownBlock ∨ v9.ownBlock = some (w.alloc (.cells c 3)).heap.size) :
    (∃ G', IsBook (w9.setCell ⟨bb, 2, none⟩ v9) bb bm { b with list := b.list ++ [y] } G' ∧ Wider w G G') ∧ Keeps (fun k _ => G k) w (w9.setCell ⟨bb, 2, none⟩ v9) ∧ w9.heap[bb]? = some (.cells #[ptr bm, .int .i64 ((b.fails + b.opened : Nat) : Int), v] 96 (0, 0)) := by
  have hlb := lt_of_obj h.obj
  have hsz : (w.alloc (.cells c 3)).heap.size = w.heap.size + 1 := by simp
  have hne : v.ownBlock ≠ some bb := fun e => h.ne bb e rfl
  have hob : w9.heap[bb]? = some (.cells #[ptr bm, .int .i64 ((b.fails + b.opened : Nat) : Int), v] 96 (0, 0)) := by
    rw [hg.block bb (by rw [hsz]; omega) (fun e => hne e.symm), Deep.blk_alloc_lt _ _ _ hlb]; exact h.obj
  have hk1 : Keeps (fun k _ => G k) w w9 := ((Keeps.refl _ w).alloc _).grown hg (fun k o e _ => h.inL k e)
  have hk : Keeps (fun k _ => G k) w (w9.setCell ⟨bb, 2, none⟩ v9) := hk1.trans (keeps_set1 _ _ (fun _ => h.inB))
  have hne9 : ∀ k, v9.ownBlock = some k → k ≠ bb := by
    rintro k e rfl
    obtain ⟨_, _, cur, hc⟩ := hs.own k e
    rw [hob] at hc; cases hc
  refine ⟨⟨fun k => G k ∨ (w.heap.size ≤ k ∧ k < w9.heap.size), ⟨v9, ?_, ?_, .inl h.inB, ?_, ?_⟩, fun k hk2 => hk2.imp id (fun e => e.1)⟩, hk, hob⟩
  · rw [heap_setCell_same w9 bb 2 _ _ _ hob]; rfl
  · have e1 : (b.list ++ [y]).length = n + 1 := by simp [hn]
    have e2 : (b.list ++ [y]).map (Value.int .i64) = (b.list.map (.int .i64)) ++ [.int .i64 y] := by simp
    show Seg _ 0 3 1 v9 (b.list ++ [y]).length ((b.list ++ [y]).map (Value.int .i64))
    rw [e1, e2]
    exact hs.keeps (keeps_set1 _ (fun k _ => k = bb) (fun _ => rfl)) (fun k o e _ hk => hne9 k e hk)
  · intro k e
    have hl := (hs.own k e).2.1
    rcases hb with h1 | h1
    · rw [h1] at e; exact .inl (h.inL k e)
    · rw [h1] at e; cases e; exact .inr ⟨by rw [hsz]; omega, hl⟩
  · rintro k (hk2 | hk2)
    · exact Nat.lt_of_lt_of_le (h.lt k hk2) hk.size
    · simp only [World.size_setCell]; exact hk2.2

set_option maxHeartbeats 4000000 in
set_option maxRecDepth 20000 in
theorem add31_any (bb bm : Nat) (b : Bk) (M : Mem) (F G : Nat → Prop) (n : Int) (w : World) (hB : IsBook w bb bm b G) (h : IsMem w bm M F) (hFG : ∀ k, F k → ¬ G k) (hok : Ok M) (hsz : M.size + 10 < 1000000000) (hlen : b.list.length ≤ 20) :
    Calls Tryz.prog 31 #[ptr bb, .int .i64 n] w (DeedLeft w bb bm F G (M.add b n)) := by
  have HA := hid (asked64_any bb bm b G M F n w hB h)
  have HB := hid hB; have HM := hid h
  unfold Mem.add
  obtain ⟨q, hq⟩ : ∃ q, askedB M b n = q := ⟨_, rfl⟩
  rw [hq] at HA ⊢
  have HQ := hid hq
  clear hq h
  by_cases h0 : q = 0
  · subst h0
    rw [if_pos rfl]
    obtain ⟨v, hb⟩ := hB
    obtain ⟨va, vc, rfl, hvl⟩ := hb.list.shape
    obtain ⟨l, hl⟩ : ∃ l, b.list.length = l := ⟨_, rfl⟩
    rw [hl] at hb hlen ⊢
    have HL := hid hl
    have HBI := hid hb
    have c0 := hb.c0; have c2 := hb.c2
    have hbl := lt_of_obj hb.obj
    clear hvl hl hb
    by_cases h20 : l = 20
    · subst h20
      rw [if_pos rfl]
      go_enter Tryz.func31, Tryz.ntmps31
      go_wp2_with (go_at_call 64; (with_reducible refine HA.out.mono ?_); rintro e w1 ⟨rfl, hg⟩; have HG := hid hg; have d0 := (hg.cell (p := ⟨bb, 0, none⟩) hbl).trans c0; have d2 := (hg.cell (p := ⟨bb, 2, none⟩) hbl).trans c2; clear hg)
      go_ret
      exact ⟨rfl, HM.out.grew HG.out, ⟨G, HB.out.grew HG.out, fun k h => .inl h⟩, HG.out.keeps⟩
    · rw [if_neg h20]
      have hlI : (l : Int) < 20 := by omega
      have e20 : ((l : Int) == 20) = false := by rw [beq_eq_false_iff_ne]; omega
      have e20' : (l == 20) = false := by rw [beq_eq_false_iff_ne]; exact h20
      have hwl : IntKind.i64.wrap ((l : Int) + 1) = (l : Int) + 1 := IntWalk.i64_in _ (by omega)
      have hon : M.on = true ∧ isNum n = true := by
        have := HQ.out
        unfold askedB at this
        split at this
        · cases this
        · rename_i h1
          split at this
          · rename_i h2; exact ⟨by cases e : M.on; exact absurd (.inl e) h1; rfl, h2⟩
          · cases this
      have hG1 : Goes M (Ord.put (0, M) ((l : Int) + 1) n) 3 := (Goes.refl hok hon.1).put (isCell_iff.2 (by omega)) hon.2
      have hG2 : Goes M (Ord.put (Ord.put (0, M) ((l : Int) + 1) n) 0 ((l : Int) + 1)) 6 := hG1.put (by decide) (isNum_iff.2 (by omega))
      have hs1 := hG1.size
      have HG1 := hid hG1
      unfold addO
      rw [HL.out]
      obtain ⟨o1, ho1⟩ : ∃ o, Ord.put (0, M) ((l : Int) + 1) n = o := ⟨_, rfl⟩
      rw [ho1] at hG2 hs1 HG1 ⊢
      obtain ⟨o2, ho2⟩ : ∃ o, Ord.put o1 0 ((l : Int) + 1) = o := ⟨_, rfl⟩
      rw [ho2] at hG2 ⊢
      dsimp only
      have HP1 := hid (fun (W : World) (bo : Nat) (c : Int) (hc : c = (l : Int) + 1) (hb : OrdAt W bo bm 0) (hnF : ¬ F bo) (h : IsMem W bm M F) => (by rw [hc, ← ho1]; exact put65_any bo bm (0, M) F W _ n hb hnF h hok (by dsimp only; omega) : Calls Tryz.prog 65 #[ptr bo, .int .i64 c, .int .i64 n] W (LeftO W bo bm o1 F)))
      have HP2 := hid (fun (W : World) (bo : Nat) (hb : OrdAt W bo bm o1.1) (hnF : ¬ F bo) (h : IsMem W bm o1.2 F) => (by rw [← ho2]; exact put65_any bo bm o1 F W 0 _ hb hnF h HG1.out.ok (by omega) : Calls Tryz.prog 65 #[ptr bo, .int .i64 0, .int .i64 ((l : Int) + 1)] W (LeftO W bo bm o2 F)))
      have hres := hG2.res
      obtain ⟨eV, heV⟩ : ∃ e, o2.1 = e := ⟨_, rfl⟩
      rw [heV] at hres ⊢
      have D1 := hid (fun (W : World) (bo : Nat) (h : OrdAt W bo bm o2.1) => (by rw [← heV]; exact h.c1 : W.cell? ⟨bo, 1, none⟩ = some (.int .i64 eV)))
      have HFG := hid hFG
      have HFl := hid (fun k (e : F k) => (by obtain ⟨_, _, h⟩ := HM.out; exact h.lt k e : k < w.heap.size))
      clear ho1 ho2 heV hG1 hG2 hs1 hon hFG hsz h20
      rcases hres with ⟨rfl, -, -⟩ | ⟨rfl, -, -⟩
      · rw [if_pos rfl]
        go_enter Tryz.func31, Tryz.ntmps31
        go_wp2_with (first
          | (go_at_call 64; (with_reducible refine HA.out.mono ?_); rintro e w1 ⟨rfl, hg⟩; obtain ⟨w2, hw2, g2, hoo, hz2⟩ := ord_new w1 bm; have d0 := (hg.cell (p := ⟨bb, 0, none⟩) hbl).trans c0; have d2 := (hg.cell (p := ⟨bb, 2, none⟩) hbl).trans c2; have hg2 := grew_trans hg g2; have HM2 := hid (HM.out.grew hg2); have HBI2 := hid (HBI.out.grew hg2); have HO2 := hid hoo; have HG2 := hid hg2; have hnF : ¬ F w1.heap.size := (fun e => by have := HFl.out _ e; have := hg.size; omega); have HW1 := hid hg.size; have HW2 := hid g2.size; clear hg g2 hoo hg2)
          | (go_at_call 65; (with_reducible refine (HP1.out _ _ _ (by omega) HO2.out hnF HM2.out).mono ?_); rintro e w3 ⟨rfl, hm, ho, hk⟩; have HM3 := hid hm; have HO3 := hid ho; have HK3 := hid hk; clear hm ho hk)
          | (go_at_call 65; (with_reducible refine (HP2.out _ _ HO3.out hnF HM3.out).mono ?_); rintro e w4 ⟨rfl, hm, ho, hk⟩; have d1 := D1.out _ _ ho; have hk4 := HK3.out.trans hk; have hbk := HBI2.out.keeps hk4 (fun k o hG e => e.elim (fun e => HFG.out k e hG) (fun e => by have := HBI.out.lt k hG; have := HW1.out; omega)); have b2 := hbk.c2; have fb := hbk.fr 2; have HBK := hid hbk; have HM4 := hid hm; have HK4 := hid hk4; clear hm ho hk hk4 hbk)
          | (at_builtin; (refine wpList_append_one rfl _ _ 39 rfl 0 3 Tryz.underlying39 Tryz.info3 rfl (by decide) (.slice va l vc) l _ rfl ((by have h := HBK.out.list; rw [HL.out] at h; exact h : Seg w4 0 3 1 (.slice va l vc) l (b.list.map (.int .i64))).alloc _) _ _ _ rfl (one_new _ _ _) rfl (by omega) ?_ ?_; (exact Nat.zero_le _); intro v9 w9 hown9 hgrow9 hblk9; obtain ⟨a9, c9, rfl, hl9⟩ := hown9.shape; clear hl9; have hkk := book_append HBK.out HL.out hown9 hgrow9 hblk9; obtain ⟨hk9a, hk9b, hob9⟩ := hkk; have b29 := cell_of_row w9 bb 2 _ _ _ hob9; have f29 := frozen_of_row w9 bb 2 _ _ hob9; have HK9 := hid hk9a; have HK9b := hid hk9b; have hz9 := lt_of_obj hob9; have hgg := hgrow9; have HGG := hid hgg; have o9 := (by have h1 := hgrow9.block w1.heap.size (by have h5 : w1.heap.size < w4.heap.size := World.block_lt_of_cell? w4 _ d1; simp only [World.size_alloc]; omega) (fun e => by have h2 := HBK.out.inL _ e.symm; have := HBI.out.lt _ h2; have := HW1.out; omega); rw [World.cell?_of_block (a := ⟨w1.heap.size, 1, none⟩) h1, World.cell?_alloc_lt (a := ⟨w1.heap.size, 1, none⟩) _ _ (World.block_lt_of_cell? w4 _ d1)]; exact d1 : w9.cell? ⟨w1.heap.size, 1, none⟩ = some (.int .i64 0)); clear hk9a hk9b hob9 hown9 hblk9 hgrow9 hgg)))
        go_ret
        refine ⟨rfl, HM4.out.keeps HK9b.out (fun k _ hF hG => HFG.out k hF hG), ?_, ?_⟩
        · obtain ⟨G', hb, hw⟩ := HK9.out
          exact ⟨G', hb, fun k hk => (hw k hk).imp id (fun h => by have := HW1.out; have := HW2.out; have := HK4.out.size; omega)⟩
        · exact ((keepsO ((HG2.out.keeps).trans HK4.out) HW1.out).mono (fun k _ h => .inl h)).trans (HK9b.out.mono (fun k _ h => .inr h))
      · rw [if_neg (by decide)]
        go_enter Tryz.func31, Tryz.ntmps31
        go_wp2_with (first
          | (go_at_call 64; (with_reducible refine HA.out.mono ?_); rintro e w1 ⟨rfl, hg⟩; obtain ⟨w2, hw2, g2, hoo, hz2⟩ := ord_new w1 bm; have d0 := (hg.cell (p := ⟨bb, 0, none⟩) hbl).trans c0; have d2 := (hg.cell (p := ⟨bb, 2, none⟩) hbl).trans c2; have hg2 := grew_trans hg g2; have HM2 := hid (HM.out.grew hg2); have HBI2 := hid (HBI.out.grew hg2); have HO2 := hid hoo; have HG2 := hid hg2; have hnF : ¬ F w1.heap.size := (fun e => by have := HFl.out _ e; have := hg.size; omega); have HW1 := hid hg.size; have HW2 := hid g2.size; clear hg g2 hoo hg2)
          | (go_at_call 65; (with_reducible refine (HP1.out _ _ _ (by omega) HO2.out hnF HM2.out).mono ?_); rintro e w3 ⟨rfl, hm, ho, hk⟩; have HM3 := hid hm; have HO3 := hid ho; have HK3 := hid hk; clear hm ho hk)
          | (go_at_call 65; (with_reducible refine (HP2.out _ _ HO3.out hnF HM3.out).mono ?_); rintro e w4 ⟨rfl, hm, ho, hk⟩; have d1 := D1.out _ _ ho; have hk4 := HK3.out.trans hk; have hbk := HBI2.out.keeps hk4 (fun k o hG e => e.elim (fun e => HFG.out k e hG) (fun e => by have := HBI.out.lt k hG; have := HW1.out; omega)); have HBK := hid hbk; have HM4 := hid hm; have HK4 := hid hk4; clear hm ho hk hk4 hbk))
        go_ret
        exact ⟨rfl, HM4.out, ⟨G, ⟨_, HBK.out⟩, fun k h => .inl h⟩, (keepsO ((HG2.out.keeps).trans HK4.out) HW1.out).mono (fun k _ h => .inl h)⟩
  · rw [if_neg h0]
    have e1 : (q != 0) = true := by rw [bne_iff_ne]; exact h0
    clear h0
    go_enter Tryz.func31, Tryz.ntmps31
    go_wp2_with (go_at_call 64; (with_reducible refine HA.out.mono ?_); rintro e w1 ⟨rfl, hg⟩; have HG := hid hg; clear hg)
    go_ret
    exact ⟨rfl, HM.out.grew HG.out, ⟨G, HB.out.grew HG.out, fun k h => .inl h⟩, HG.out.keeps⟩

end Go.Proofs.YtmohnddglmolgaaGreatDoor
