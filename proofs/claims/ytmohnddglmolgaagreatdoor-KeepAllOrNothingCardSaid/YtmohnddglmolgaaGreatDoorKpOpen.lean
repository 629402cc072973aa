/- Walk: Open (41). Printed by gen_kpopen.py. -/
import Derived.Test.YtmohnddglmolgaaGreatDoorKpBook
import Derived.Deep.RegionHeld3
namespace Go.Proofs.YtmohnddglmolgaaGreatDoor
open Go Go.RowKit Go.Lin Go.Lin.Kp

theorem later_both {W w' : World} (h : Grew W w') : Grew W w' ∧ ∀ b o, b < W.heap.size → w'.cell? ⟨b, o, none⟩ = W.cell? ⟨b, o, none⟩ := ⟨h, (bcell h).1⟩

theorem memIs_opened {w : World} {bm bn : Nat} {sv : Value} {M : Mem} {F : Nat → Prop} {x : Nat} (h : MemIs w bm bn sv M F) (hx : M.fails + M.opened = x) :
    MemIs (w.setCell ⟨bm, 134, none⟩ (.int .i64 ((x : Int) + 1))) bm bn sv { M with opened := M.opened + 1 } F ∧ Keeps (InF F) w (w.setCell ⟨bm, 134, none⟩ (.int .i64 ((x : Int) + 1))) := by
  have hk : ∀ may : Nat → Obj → Prop, (∀ o, may bm o) → Keeps may w (w.setCell ⟨bm, 134, none⟩ (.int .i64 ((x : Int) + 1))) := fun may hm => keeps_set1 _ _ hm
  refine ⟨⟨(h.row.set 134 _).congr fun i hi => ?_, h.notes.setOther h.ne _, h.early.keeps (hk (fun k _ => k = bm) (fun _ => rfl)) (fun k o hs e => hs.2.1 e), h.inM, h.inN, fun k hk2 => Nat.lt_of_lt_of_le (h.lt k hk2) (hk (InF F) (fun _ => h.inM)).size⟩, hk _ (fun _ => h.inM)⟩
  unfold memAt
  by_cases h1 : i < 129
  · rw [if_neg (by omega)]; simp only [h1, if_true]
  · have : i = 129 ∨ i = 130 ∨ i = 131 ∨ i = 132 ∨ i = 133 ∨ i = 134 := by omega
    rcases this with rfl | rfl | rfl | rfl | rfl | rfl
    · rfl
    · rfl
    · rfl
    · rfl
    · rfl
    · simp; omega

theorem len_entries (f : Nat → Int) (n : Nat) : (entriesOf f n).length = n := by simp [entriesOf]
theorem nth_entries (f : Nat → Int) {n i : Nat} (h : i < n) : nth (entriesOf f n) i = f (i + 1) := by
  rw [nth_lt (by rw [len_entries]; exact h)]; simp [entriesOf]

theorem slice_entries {w : World} {bm bn : Nat} {sv : Value} {M : Mem} {F : Nat → Prop} (h : MemIs w bm bn sv M F) {n c : Nat} (hn : n ≤ 63) : IsInts Any w (.slice (some ⟨bm, 2, none⟩) n c) (entriesOf M.fresh n) := by
  refine ⟨some ⟨bm, 2, none⟩, c, by rw [len_entries], by rw [len_entries]; omega, fun i hi => ?_⟩
  rw [len_entries] at hi
  obtain ⟨cs, hb, _⟩ := id h.row
  refine ⟨bm, 2, _, rfl, hb, trivial, ?_⟩
  show _ = some (Value.int .i64 (nth (entriesOf M.fresh n) i))
  rw [nth_entries _ hi, show 2 + i = 1 + (i + 1) by omega]
  exact h.cF (by omega)

theorem slice_run (bm n : Nat) (hn : n ≤ 63) (W : World) : (Instr.sliceAt 84 (.pointer (some ⟨bm, 1, none⟩)) (some (.int .i64 1)) (some (.int .i64 (1 + (n : Int)))) none).run Tryz.prog W = .ok (.slice (some ⟨bm, 2, none⟩) n 63) W := by
  have hl : Tryz.prog.arrayLen 84 = 64 := by kernel_rfl
  rw [run_sliceAt_array_lh W 84 ⟨bm, 1, none⟩ (by kernel_rfl) .i64 .i64 1 (1 + (n : Int)) (by omega) (by omega) (by rw [hl]; omega), show (sizeOf (Tryz.prog.elem 84)).run Tryz.prog W = .ok 1 W by kernel_rfl, hl]
  show Result.ok (slicedAt ⟨bm, 1, none⟩ (1 : Int).toNat (1 + (n : Int)).toNat 64 1) W = _
  unfold slicedAt
  rw [show (1 + (n : Int)).toNat = 1 + n by omega]
  simp [Addr.add]

theorem size_start (M : Mem) : M.start.size = M.size := by unfold Mem.start; split <;> rfl

/-- A new order. -/
theorem ord_new (w : World) (bm : Nat) : ∃ W, w.alloc (.cells #[ptr bm, .int .i64 0] 128) = W ∧ Grew w W ∧ OrdAt W w.heap.size bm 0 ∧ w.heap.size < W.heap.size :=
  ⟨_, rfl, grew_alloc (grew_refl _) _, heap_alloc_new w _, by simp⟩

theorem keepsO {w w' : World} {F : Nat → Prop} {bo : Nat} (h : Keeps (fun k _ => F k ∨ k = bo) w w') (hb : w.heap.size ≤ bo) : Keeps (InF F) w w' :=
  ⟨h.os, h.tape, h.output, h.size, fun k o ho hn => h.obj k o ho (fun e => e.elim hn (fun e => by have := lt_of_obj ho; omega))⟩

theorem fresh_done {M : Mem} {r : Bool} {f : Mem → Mem} {i : Nat} (hf : r = true → ∀ M', (f M').fresh i = M'.fresh i) : (M.done r f).2.fresh i = M.fresh i := by
  unfold Mem.done
  split
  · rename_i hr
    split
    · unfold Mem.step
      split
      · rfl
      · exact hf hr _
    · rfl
  · rfl
theorem fresh_put {o : Ord} {c n : Int} {i : Nat} (hc : 0 ≤ c) (hi : (i : Int) ≠ c) : (Ord.put o c n).2.fresh i = o.2.fresh i := by
  have a : ∀ o : Ord, (Ord.write o c n).2.fresh i = o.2.fresh i := fun o => by
    unfold Ord.write; split
    · exact fresh_done (fun _ M' => upd_other _ _ (by omega))
    · rfl
  have b : ∀ o : Ord, (Ord.flush o c).2.fresh i = o.2.fresh i := fun o => by
    unfold Ord.flush; split
    · exact fresh_done (fun _ M' => rfl)
    · rfl
  have d : ∀ o : Ord, (Ord.fence o).2.fresh i = o.2.fresh i := fun o => by
    unfold Ord.fence; split
    · exact fresh_done (fun _ M' => rfl)
    · rfl
  unfold Ord.put
  rw [d, b, a]

/-- What opening leaves. -/
def OpenLeft (w : World) (bm : Nat) (F : Nat → Prop) (r : Option Bk × Int × Mem) (e : Ending) (w' : World) : Prop :=
  IsMem w' bm r.2.2 F ∧ Keeps (InF F) w w' ∧ match r.1 with
  | some b => ∃ bb G, e = .returned (.tuple #[ptr bb, .int .i64 0]) ∧ IsBook w' bb bm b G ∧ ∀ k, G k → w.heap.size ≤ k
  | none => e = .returned (.tuple #[.pointer none, .int .i64 r.2.1])

theorem open_done {w w6 w8 : World} {bm x n : Nat} {F : Nat → Prop} {M' : Mem} {b : Bk} {u : Value} (hm : IsMem w6 bm M' F) (hk : Keeps (InF F) w w6) (hg : Grew w6 w8) (hs : Seg w8 w6.heap.size 3 1 u n (b.list.map (.int .i64))) (hx : b.fails + b.opened = x + 1) (hn : b.list.length = n) :
    OpenLeft w bm F (some b, 0, M') (.returned (.tuple #[ptr w8.heap.size, .int .i64 0])) (w8.alloc (.cells #[ptr bm, .int .i64 ((x : Int) + 1), u] 96)) := by
  have hw := hk.size
  have hg8 := hg.size
  refine ⟨(hm.grew hg).grew (grew_alloc (grew_refl _) _), (hk.trans hg.keeps).alloc _, w8.heap.size, fun k => w6.heap.size ≤ k ∧ k < w8.heap.size + 1, rfl, ⟨u, ?_, ?_, ⟨hg8, Nat.lt_succ_self _⟩, ?_, fun k hk2 => by simp only [World.size_alloc]; exact hk2.2⟩, fun k hk2 => Nat.le_trans hw hk2.1⟩
  · rw [hx]; exact heap_alloc_new w8 _
  · rw [hn]; exact (hs.mono (Nat.zero_le _)).alloc _
  · intro k e
    have := hs.own k e
    exact ⟨this.1, by have := this.2.1; omega⟩

theorem open41_none (v : Value) (w : World) (h : Calls Tryz.prog 57 #[v] w fun e w' => e = .returned (.bool true) ∧ w = w') : Calls Tryz.prog 41 #[v] w fun e w' => e = .returned (.tuple #[.pointer none, .int .i64 102]) ∧ w = w' := by
  have HS := hid (start26_none v w h)
  clear h
  go_enter Tryz.func41, Tryz.ntmps41
  go_wp2_with (go_at_call 26; (with_reducible refine HS.out.mono ?_); rintro e w1 ⟨rfl, rfl⟩)
  go_ret2
  exact ⟨rfl, rfl⟩

set_option maxHeartbeats 4000000 in
set_option maxRecDepth 20000 in
theorem open41_mem (bm : Nat) (M : Mem) (F : Nat → Prop) (w : World) (h : IsMem w bm M F) (hok : Ok M) (hsz : M.size + 10 < 1000000000) :
    Calls Tryz.prog 41 #[ptr bm] w (OpenLeft w bm F M.open_) := by
  have HST := hid (start26_mem bm M F w h)
  have hok1 := ok_start hok
  have hsz1 := size_start M
  have hFl : ∀ k, F k → k < w.heap.size := by obtain ⟨_, _, h⟩ := h; exact h.lt
  unfold Mem.open_
  have hon1 := on_start M
  obtain ⟨M1, hM1⟩ : ∃ M1, M.start = M1 := ⟨_, rfl⟩
  rw [hM1] at HST hok1 hsz1 hon1 ⊢
  rw [← hsz1] at hsz
  clear hM1 hsz1 hok h
  have hr0 := hok1.fresh 0
  obtain ⟨n, hn⟩ : ∃ n : Nat, M1.fresh 0 = (n : Int) := ⟨(M1.fresh 0).toNat, by omega⟩
  rw [hn] at hr0
  have HFL := hid hFl
  have HOK := hid hok1
  have HN := hid hn
  have q0 : ∀ W, IsMem W bm M1 F → W.cell? ⟨bm, 1, none⟩ = some (.int .i64 (n : Int)) := fun W ⟨_, _, hm⟩ => by rw [← HN.out]; exact hm.cF (i := 0) (by omega)
  have Q0 := hid q0
  rw [hn]
  clear q0 hn hFl
  by_cases h20 : n > 20
  · have hI : (n : Int) > 20 := by omega
    rw [if_pos hI]
    go_enter Tryz.func41, Tryz.ntmps41
    go_wp2_with (go_at_call 26; (with_reducible refine HST.out.mono ?_); rintro e w1 ⟨rfl, hm, hk⟩; have c0 := Q0.out _ hm; have HM1 := hid hm; have HK1 := hid hk; clear hm hk)
    go_ret2
    exact ⟨HM1.out, HK1.out, rfl⟩
  · have hI : ¬ (n : Int) > 20 := by omega
    have hn20 : n ≤ 20 := by omega
    rw [if_neg hI]
    clear h20 hI
    have hb40 := hok1.fresh 40
    have hb41 := hok1.fresh 41
    have hb42 := hok1.fresh 42
    obtain ⟨k40, h40⟩ : ∃ k, M1.fresh 40 = k := ⟨_, rfl⟩
    obtain ⟨k41, h41⟩ : ∃ k, M1.fresh 41 = k := ⟨_, rfl⟩
    obtain ⟨k42, h42⟩ : ∃ k, M1.fresh 42 = k := ⟨_, rfl⟩
    rw [h40] at hb40
    rw [h41] at hb41
    rw [h42] at hb42
    have Q1 := hid (fun (W : World) (h : IsMem W bm M1 F) => (by obtain ⟨_, _, hm⟩ := h; rw [← h41]; exact hm.cF (i := 41) (by omega) : W.cell? ⟨bm, 42, none⟩ = some (.int .i64 k41)))
    have Q2 := hid (fun (W : World) (h : IsMem W bm M1 F) => (by obtain ⟨_, _, hm⟩ := h; rw [← h42]; exact hm.cF (i := 42) (by omega) : W.cell? ⟨bm, 43, none⟩ = some (.int .i64 k42)))
    have Q4 := hid (fun (W : World) (h : IsMem W bm M1 F) => (by obtain ⟨_, _, hm⟩ := h; rw [← h40]; exact hm.cF (i := 40) (by omega) : W.cell? ⟨bm, 41, none⟩ = some (.int .i64 k40)))
    have H40 := hid h40; have H41 := hid h41; have H42 := hid h42
    have hU : Goes M1 (undo M1) 3 := by
      unfold undo
      split
      · rename_i hu
        rw [h40, h41, HN.out] at hu
        exact ((Goes.refl hok1 hon1).put (isCell_iff.2 (by rw [h41]; omega)) (isNum_iff.2 (by rw [h42]; omega)))
      · exact (Goes.refl hok1 hon1).mono (by omega)
    have hV : Goes M1 (unnote (undo M1)) 6 := by
      unfold unnote
      split
      · exact hU.mono (by omega)
      · exact hU.put (by decide) (by decide)
    have hsU := hU.size
    have hsV := hV.size
    obtain ⟨oU, hoU⟩ : ∃ o, undo M1 = o := ⟨_, rfl⟩
    obtain ⟨oV, hoV⟩ : ∃ o, unnote oU = o := ⟨_, rfl⟩
    rw [hoU] at hU hV hsU hsV ⊢
    rw [hoV] at hV hsV ⊢
    have HP1 := hid (fun (W : World) (bo : Nat) (c : Int) (hc : c = k41) (hb : OrdAt W bo bm 0) (hnF : ¬ F bo) (h : IsMem W bm M1 F) => (by rw [hc]; exact put65_any bo bm (0, M1) F W k41 k42 hb hnF h hok1 (by dsimp only; omega) : Calls Tryz.prog 65 #[ptr bo, .int .i64 c, .int .i64 k42] W (LeftO W bo bm (Ord.put (0, M1) k41 k42) F)))
    have HP2 := hid (fun (W : World) (bo : Nat) (hb : OrdAt W bo bm oU.1) (hnF : ¬ F bo) (h : IsMem W bm oU.2 F) => put65_any bo bm oU F W 40 0 hb hnF h hU.ok (by omega))
    have hrV := hV.res
    have HU := hid hU; have HV := hid hV
    have HOU := hid hoU; have HOV := hid hoV
    have hwn : IntKind.i64.wrap (1 + (n : Int)) = 1 + (n : Int) := IntWalk.i64_in _ (by omega)
    have hsl := slice_run bm n (by omega)
    have HB := hid (fun (W : World) => between54_any 1 k41 (n : Int) W)
    have Q3 := hid (fun (W : World) (h : IsMem W bm oU.2 F) => (by obtain ⟨_, _, hm⟩ := h; exact hm.cF (i := 40) (by omega) : W.cell? ⟨bm, 41, none⟩ = some (.int .i64 (oU.2.fresh 40))))
    obtain ⟨eV, heV⟩ : ∃ e, oV.1 = e := ⟨_, rfl⟩
    obtain ⟨x, hx⟩ : ∃ x, oV.2.fails + oV.2.opened = x := ⟨_, rfl⟩
    have hx9 : x < 1000000000 := by rw [← hx]; unfold Mem.size at hsV hsz; omega
    have HX := hid hx
    have HCL := hid (fun (W : World) (h : IsMem W bm { oV.2 with opened := oV.2.opened + 1 } F) => (by obtain ⟨_, _, hm⟩ := h; have := clone_ints (.slice (some ⟨bm, 2, none⟩) n 63) n (entriesOf oV.2.fresh n) W (len_entries _ _) (by omega) (slice_entries hm (by omega)); exact this :
      Calls Tryz.prog 52 #[.slice (some ⟨bm, 2, none⟩) n 63] W fun e w' => ∃ u, e = .returned u ∧ Seg w' W.heap.size 3 1 u n ((entriesOf oV.2.fresh n).map (.int .i64)) ∧ Grew W w'))
    rw [heV] at hrV
    have D1 := hid (fun (W : World) (bo : Nat) (h : OrdAt W bo bm oV.1) => (by rw [← heV]; exact h.c1 : W.cell? ⟨bo, 1, none⟩ = some (.int .i64 eV)))
    have A5 := hid (fun (W : World) (h : IsMem W bm oV.2 F) => (by obtain ⟨_, _, hm⟩ := h; rw [← hx]; exact hm.cA : W.cell? ⟨bm, 134, none⟩ = some (.int .i64 (x : Int))))
    have A6 := hid (fun (W : World) (h : IsMem W bm { oV.2 with opened := oV.2.opened + 1 } F) => (by obtain ⟨_, _, hm⟩ := h; have h7 := hm.cA; dsimp only at h7; rw [show oV.2.fails + (oV.2.opened + 1) = x + 1 by omega] at h7; exact h7 : W.cell? ⟨bm, 134, none⟩ = some (.int .i64 ((x : Int) + 1))))
    have HEV := hid heV
    simp only [Int.toNat_natCast]
    clear h40 h41 h42 hU hV hsU hsV hoU hoV heV hx hok1 hsz
    by_cases hA : k40 = 1 ∧ 1 ≤ k41 ∧ k41 ≤ (n : Int)
    · obtain ⟨rfl, hA1, hA2⟩ := hA
      have HPU := hid (show Ord.put (0, M1) k41 k42 = oU by rw [← HOU.out]; unfold undo; rw [if_pos ⟨H40.out, by rw [H41.out]; exact hA1, by rw [H41.out, HN.out]; exact hA2⟩, H41.out, H42.out])
      have hz : oU.2.fresh 40 = 1 := by rw [← HPU.out, fresh_put (by omega) (by omega)]; exact H40.out
      have HPV := hid (show Ord.put oU 40 0 = oV by rw [← HOV.out]; unfold unnote; rw [if_neg (by rw [hz]; decide)])
      rw [hz] at Q3
      rw [show (decide (1 ≤ k41) && decide (k41 ≤ (n : Int))) = true by simp [hA1, hA2]] at HB
      clear hz hA1 hA2
      rcases hrV with ⟨hv0, -, -⟩ | ⟨hv0, -, -⟩
      · subst hv0
        rw [if_pos HEV.out]
        go_enter Tryz.func41, Tryz.ntmps41
        go_wp2_with (first
          | (go_at_call 26; (with_reducible refine HST.out.mono ?_); rintro e w1 ⟨rfl, hm, hk⟩; (obtain ⟨w2, hw2, g2, ho2, hz2⟩ := ord_new w1 bm; have c0 := Q0.out _ hm; have hm2 := hm.grew g2; have c41 := Q1.out _ hm2; have c42 := Q2.out _ hm2; have c40 := Q4.out _ hm2; have hnF : ¬ F w1.heap.size := (fun e => by have := HFL.out _ e; have := hk.size; omega); have HW1 := hid hk.size; have HM2 := hid hm2; have HO2 := hid ho2; have HK2 := hid (hk.trans g2.keeps); have o0 := ho2.c0; have o1 := ho2.c1;  clear hm hk hm2 ho2 g2))
          | (go_at_call 54; (with_reducible refine (HB.out _).mono ?_); rintro e w3 ⟨rfl, rfl⟩)
          | (go_at_call 65; (with_reducible refine (HP1.out _ _ _ (by omega) HO2.out hnF HM2.out).mono ?_); rintro e w4 ⟨rfl, hm, ho, hk⟩; rw [HPU.out] at hm ho; have z40 := Q3.out _ hm; have HM4 := hid hm; have HO4 := hid ho; have HK4 := hid hk; have o0 := ho.c0; clear hm ho hk)
          | (go_at_call 65; (with_reducible refine (HP2.out _ _ HO4.out hnF HM4.out).mono ?_); rintro e w5 ⟨rfl, hm, ho, hk⟩; rw [HPV.out] at hm ho; have HK5 := hid hk; have o0 := ho.c0; have hm5 := hm; have ho5 := ho; have d1 := D1.out _ _ ho5; obtain ⟨bn5, sv5, hmi⟩ := id hm5; have a5 := A5.out _ hm5; have f5 := hmi.row.frozen 134; obtain ⟨hm6, hk6⟩ := memIs_opened hmi HX.out; obtain ⟨w6, hw6⟩ : ∃ w6, w5.setCell ⟨bm, 134, none⟩ (.int .i64 ((x : Int) + 1)) = w6 := ⟨_, rfl⟩; rw [hw6] at hm6 hk6; have a6 := A6.out _ ⟨_, _, hm6⟩; have hbm6 := hm6.row.lt; have HM6 := hid (p := IsMem w6 bm { oV.2 with opened := oV.2.opened + 1 } F) ⟨_, _, hm6⟩; have HK6 := hid hk6; clear hmi hm6 hk6; have HM5 := hid hm5; clear hm5 ho5; clear hm ho hk))
        have hkall : Keeps (fun k _ => F k ∨ k = w1.heap.size) w w5 := (((HK2.out.mono (fun _ _ h => .inl h)).trans HK4.out).trans HK5.out)
        have HKF := hid (keepsO hkall HW1.out)
        clear hkall
        go_region_held3 (fun w' => Grew w6 w' ∧ ∀ b o, b < w6.heap.size → w'.cell? ⟨b, o, none⟩ = w6.cell? ⟨b, o, none⟩) (exact later_both (by repeat' (first | assumption | exact grew_refl _ | refine grew_drew ?_ | refine grew_alloc ?_ _)))
          ((go_at_call 52; (with_reducible refine (HCL.out _ (IsMem.grew HM6.out (by repeat' (first | assumption | exact grew_refl _ | refine grew_drew ?_ | refine grew_alloc ?_ _)))).mono ?_); rintro e w8 ⟨u, rfl, hs, hg⟩; have hg8 : Grew w6 w8 := grew_trans (by repeat' (first | assumption | exact grew_refl _ | refine grew_drew ?_ | refine grew_alloc ?_ _)) hg; have HS8 := hid (hs.mono (show w6.heap.size ≤ _ by first | exact Nat.le_refl _ | (simp; done))); have HG8 := hid hg8; obtain ⟨ua, uc, rfl, hul⟩ := hs.shape; clear hs hg hul))
        all_goals (
          go_wp2
          go_ret2
          exact open_done HM6.out (HKF.out.trans HK6.out) HG8.out HS8.out (by dsimp only; rw [← HX.out]; omega) (len_entries _ _))
      · subst hv0
        rw [if_neg (by rw [HEV.out]; decide)]
        go_enter Tryz.func41, Tryz.ntmps41
        go_wp2_with (first
          | (go_at_call 26; (with_reducible refine HST.out.mono ?_); rintro e w1 ⟨rfl, hm, hk⟩; (obtain ⟨w2, hw2, g2, ho2, hz2⟩ := ord_new w1 bm; have c0 := Q0.out _ hm; have hm2 := hm.grew g2; have c41 := Q1.out _ hm2; have c42 := Q2.out _ hm2; have c40 := Q4.out _ hm2; have hnF : ¬ F w1.heap.size := (fun e => by have := HFL.out _ e; have := hk.size; omega); have HW1 := hid hk.size; have HM2 := hid hm2; have HO2 := hid ho2; have HK2 := hid (hk.trans g2.keeps); have o0 := ho2.c0; have o1 := ho2.c1;  clear hm hk hm2 ho2 g2))
          | (go_at_call 54; (with_reducible refine (HB.out _).mono ?_); rintro e w3 ⟨rfl, rfl⟩)
          | (go_at_call 65; (with_reducible refine (HP1.out _ _ _ (by omega) HO2.out hnF HM2.out).mono ?_); rintro e w4 ⟨rfl, hm, ho, hk⟩; rw [HPU.out] at hm ho; have z40 := Q3.out _ hm; have HM4 := hid hm; have HO4 := hid ho; have HK4 := hid hk; have o0 := ho.c0; clear hm ho hk)
          | (go_at_call 65; (with_reducible refine (HP2.out _ _ HO4.out hnF HM4.out).mono ?_); rintro e w5 ⟨rfl, hm, ho, hk⟩; rw [HPV.out] at hm ho; have HK5 := hid hk; have o0 := ho.c0; have hm5 := hm; have ho5 := ho; have d1 := D1.out _ _ ho5; have HM5 := hid hm5; clear hm5 ho5; clear hm ho hk))
        have hkall : Keeps (fun k _ => F k ∨ k = w1.heap.size) w w5 := (((HK2.out.mono (fun _ _ h => .inl h)).trans HK4.out).trans HK5.out)
        have HKF := hid (keepsO hkall HW1.out)
        go_quiet (fail)
        go_wp2
        go_ret2
        exact ⟨HM5.out.grew (grew_drewN (grew_refl _) _), HKF.out.drewN _, by rw [HEV.out]; rfl⟩
    · have hu : oU = (0, M1) := by rw [← HOU.out]; unfold undo; rw [if_neg (by rw [H40.out, H41.out, HN.out]; exact hA)]
      subst hu
      simp only at HP2 Q3
      by_cases h0 : k40 = 0
      · subst h0
        have hv : oV = (0, M1) := by rw [← HOV.out]; unfold unnote; rw [if_pos H40.out]
        have HVV := hid hv
        have hv0 : eV = 0 := by rw [← HEV.out, hv]
        subst hv0
        rw [if_pos HEV.out]
        clear hv
        clear hA hrV
        go_enter Tryz.func41, Tryz.ntmps41
        go_wp2_with (first
          | (go_at_call 26; (with_reducible refine HST.out.mono ?_); rintro e w1 ⟨rfl, hm, hk⟩; (obtain ⟨w2, hw2, g2, ho2, hz2⟩ := ord_new w1 bm; have c0 := Q0.out _ hm; have hm2 := hm.grew g2; have c41 := Q1.out _ hm2; have c42 := Q2.out _ hm2; have c40 := Q4.out _ hm2; have hnF : ¬ F w1.heap.size := (fun e => by have := HFL.out _ e; have := hk.size; omega); have HW1 := hid hk.size; have HM2 := hid hm2; have HO2 := hid ho2; have HK2 := hid (hk.trans g2.keeps); have o0 := ho2.c0; have o1 := ho2.c1; have hm5 := (by rw [HVV.out]; exact hm2 : IsMem w2 bm oV.2 F); have ho5 := (by rw [HVV.out]; exact ho2 : OrdAt w2 w1.heap.size bm oV.1); have d1 := D1.out _ _ ho5; obtain ⟨bn5, sv5, hmi⟩ := id hm5; have a5 := A5.out _ hm5; have f5 := hmi.row.frozen 134; obtain ⟨hm6, hk6⟩ := memIs_opened hmi HX.out; obtain ⟨w6, hw6⟩ : ∃ w6, w2.setCell ⟨bm, 134, none⟩ (.int .i64 ((x : Int) + 1)) = w6 := ⟨_, rfl⟩; rw [hw6] at hm6 hk6; have a6 := A6.out _ ⟨_, _, hm6⟩; have hbm6 := hm6.row.lt; have HM6 := hid (p := IsMem w6 bm { oV.2 with opened := oV.2.opened + 1 } F) ⟨_, _, hm6⟩; have HK6 := hid hk6; clear hmi hm6 hk6; have HM5 := hid hm5; clear hm5 ho5;  clear hm hk hm2 ho2 g2))
          | (go_at_call 54; (with_reducible refine (HB.out _).mono ?_); rintro e w3 ⟨rfl, rfl⟩))
        have hkall : Keeps (fun k _ => F k ∨ k = w1.heap.size) w w2 := (HK2.out.mono (fun _ _ h => .inl h))
        have HKF := hid (keepsO hkall HW1.out)
        clear hkall
        go_region_held3 (fun w' => Grew w6 w' ∧ ∀ b o, b < w6.heap.size → w'.cell? ⟨b, o, none⟩ = w6.cell? ⟨b, o, none⟩) (exact later_both (by repeat' (first | assumption | exact grew_refl _ | refine grew_drew ?_ | refine grew_alloc ?_ _)))
          ((go_at_call 52; (with_reducible refine (HCL.out _ (IsMem.grew HM6.out (by repeat' (first | assumption | exact grew_refl _ | refine grew_drew ?_ | refine grew_alloc ?_ _)))).mono ?_); rintro e w8 ⟨u, rfl, hs, hg⟩; have hg8 : Grew w6 w8 := grew_trans (by repeat' (first | assumption | exact grew_refl _ | refine grew_drew ?_ | refine grew_alloc ?_ _)) hg; have HS8 := hid (hs.mono (show w6.heap.size ≤ _ by first | exact Nat.le_refl _ | (simp; done))); have HG8 := hid hg8; obtain ⟨ua, uc, rfl, hul⟩ := hs.shape; clear hs hg hul))
        all_goals (
          go_wp2
          go_ret2
          exact open_done HM6.out (HKF.out.trans HK6.out) HG8.out HS8.out (by dsimp only; rw [← HX.out]; omega) (len_entries _ _))
      · have HPV := hid (show Ord.put (0, M1) 40 0 = oV by rw [← HOV.out]; unfold unnote; rw [if_neg (by dsimp only; rw [H40.out]; exact h0)])
        have e0 : (k40 != 0) = true := by rw [bne_iff_ne]; exact h0
        by_cases h1 : k40 = 1
        · subst h1
          rw [show (decide (1 ≤ k41) && decide (k41 ≤ (n : Int))) = false by
            rw [Bool.and_eq_false_iff]
            by_cases h2 : 1 ≤ k41
            · right; simp; have : ¬ k41 ≤ (n : Int) := fun h3 => hA ⟨rfl, h2, h3⟩; omega
            · left; simp; omega] at HB
          clear hA h0 e0
          rcases hrV with ⟨hv0, -, -⟩ | ⟨hv0, -, -⟩
          · subst hv0
            rw [if_pos HEV.out]
            go_enter Tryz.func41, Tryz.ntmps41
            go_wp2_with (first
              | (go_at_call 26; (with_reducible refine HST.out.mono ?_); rintro e w1 ⟨rfl, hm, hk⟩; (obtain ⟨w2, hw2, g2, ho2, hz2⟩ := ord_new w1 bm; have c0 := Q0.out _ hm; have hm2 := hm.grew g2; have c41 := Q1.out _ hm2; have c42 := Q2.out _ hm2; have c40 := Q4.out _ hm2; have hnF : ¬ F w1.heap.size := (fun e => by have := HFL.out _ e; have := hk.size; omega); have HW1 := hid hk.size; have HM2 := hid hm2; have HO2 := hid ho2; have HK2 := hid (hk.trans g2.keeps); have o0 := ho2.c0; have o1 := ho2.c1;  clear hm hk hm2 ho2 g2))
              | (go_at_call 54; (with_reducible refine (HB.out _).mono ?_); rintro e w3 ⟨rfl, rfl⟩)
              | (go_at_call 65; (with_reducible refine (HP2.out _ _ HO2.out hnF HM2.out).mono ?_); rintro e w5 ⟨rfl, hm, ho, hk⟩; rw [HPV.out] at hm ho; have HK5 := hid hk; have o0 := ho.c0; have hm5 := hm; have ho5 := ho; have d1 := D1.out _ _ ho5; obtain ⟨bn5, sv5, hmi⟩ := id hm5; have a5 := A5.out _ hm5; have f5 := hmi.row.frozen 134; obtain ⟨hm6, hk6⟩ := memIs_opened hmi HX.out; obtain ⟨w6, hw6⟩ : ∃ w6, w5.setCell ⟨bm, 134, none⟩ (.int .i64 ((x : Int) + 1)) = w6 := ⟨_, rfl⟩; rw [hw6] at hm6 hk6; have a6 := A6.out _ ⟨_, _, hm6⟩; have hbm6 := hm6.row.lt; have HM6 := hid (p := IsMem w6 bm { oV.2 with opened := oV.2.opened + 1 } F) ⟨_, _, hm6⟩; have HK6 := hid hk6; clear hmi hm6 hk6; have HM5 := hid hm5; clear hm5 ho5; clear hm ho hk))
            have hkall : Keeps (fun k _ => F k ∨ k = w1.heap.size) w w5 := ((HK2.out.mono (fun _ _ h => .inl h)).trans HK5.out)
            have HKF := hid (keepsO hkall HW1.out)
            clear hkall
            go_region_held3 (fun w' => Grew w6 w' ∧ ∀ b o, b < w6.heap.size → w'.cell? ⟨b, o, none⟩ = w6.cell? ⟨b, o, none⟩) (exact later_both (by repeat' (first | assumption | exact grew_refl _ | refine grew_drew ?_ | refine grew_alloc ?_ _)))
              ((go_at_call 52; (with_reducible refine (HCL.out _ (IsMem.grew HM6.out (by repeat' (first | assumption | exact grew_refl _ | refine grew_drew ?_ | refine grew_alloc ?_ _)))).mono ?_); rintro e w8 ⟨u, rfl, hs, hg⟩; have hg8 : Grew w6 w8 := grew_trans (by repeat' (first | assumption | exact grew_refl _ | refine grew_drew ?_ | refine grew_alloc ?_ _)) hg; have HS8 := hid (hs.mono (show w6.heap.size ≤ _ by first | exact Nat.le_refl _ | (simp; done))); have HG8 := hid hg8; obtain ⟨ua, uc, rfl, hul⟩ := hs.shape; clear hs hg hul))
            all_goals (
              go_wp2
              go_ret2
              exact open_done HM6.out (HKF.out.trans HK6.out) HG8.out HS8.out (by dsimp only; rw [← HX.out]; omega) (len_entries _ _))
          · subst hv0
            rw [if_neg (by rw [HEV.out]; decide)]
            go_enter Tryz.func41, Tryz.ntmps41
            go_wp2_with (first
              | (go_at_call 26; (with_reducible refine HST.out.mono ?_); rintro e w1 ⟨rfl, hm, hk⟩; (obtain ⟨w2, hw2, g2, ho2, hz2⟩ := ord_new w1 bm; have c0 := Q0.out _ hm; have hm2 := hm.grew g2; have c41 := Q1.out _ hm2; have c42 := Q2.out _ hm2; have c40 := Q4.out _ hm2; have hnF : ¬ F w1.heap.size := (fun e => by have := HFL.out _ e; have := hk.size; omega); have HW1 := hid hk.size; have HM2 := hid hm2; have HO2 := hid ho2; have HK2 := hid (hk.trans g2.keeps); have o0 := ho2.c0; have o1 := ho2.c1;  clear hm hk hm2 ho2 g2))
              | (go_at_call 54; (with_reducible refine (HB.out _).mono ?_); rintro e w3 ⟨rfl, rfl⟩)
              | (go_at_call 65; (with_reducible refine (HP2.out _ _ HO2.out hnF HM2.out).mono ?_); rintro e w5 ⟨rfl, hm, ho, hk⟩; rw [HPV.out] at hm ho; have HK5 := hid hk; have o0 := ho.c0; have hm5 := hm; have ho5 := ho; have d1 := D1.out _ _ ho5; have HM5 := hid hm5; clear hm5 ho5; clear hm ho hk))
            have hkall : Keeps (fun k _ => F k ∨ k = w1.heap.size) w w5 := ((HK2.out.mono (fun _ _ h => .inl h)).trans HK5.out)
            have HKF := hid (keepsO hkall HW1.out)
            go_quiet (fail)
            go_wp2
            go_ret2
            exact ⟨HM5.out.grew (grew_drewN (grew_refl _) _), HKF.out.drewN _, by rw [HEV.out]; rfl⟩
        · have e1 : (k40 == 1) = false := by rw [beq_eq_false_iff_ne]; exact h1
          clear hA h0 h1
          rcases hrV with ⟨hv0, -, -⟩ | ⟨hv0, -, -⟩
          · subst hv0
            rw [if_pos HEV.out]
            go_enter Tryz.func41, Tryz.ntmps41
            go_wp2_with (first
              | (go_at_call 26; (with_reducible refine HST.out.mono ?_); rintro e w1 ⟨rfl, hm, hk⟩; (obtain ⟨w2, hw2, g2, ho2, hz2⟩ := ord_new w1 bm; have c0 := Q0.out _ hm; have hm2 := hm.grew g2; have c41 := Q1.out _ hm2; have c42 := Q2.out _ hm2; have c40 := Q4.out _ hm2; have hnF : ¬ F w1.heap.size := (fun e => by have := HFL.out _ e; have := hk.size; omega); have HW1 := hid hk.size; have HM2 := hid hm2; have HO2 := hid ho2; have HK2 := hid (hk.trans g2.keeps); have o0 := ho2.c0; have o1 := ho2.c1;  clear hm hk hm2 ho2 g2))
              | (go_at_call 54; (with_reducible refine (HB.out _).mono ?_); rintro e w3 ⟨rfl, rfl⟩)
              | (go_at_call 65; (with_reducible refine (HP2.out _ _ HO2.out hnF HM2.out).mono ?_); rintro e w5 ⟨rfl, hm, ho, hk⟩; rw [HPV.out] at hm ho; have HK5 := hid hk; have o0 := ho.c0; have hm5 := hm; have ho5 := ho; have d1 := D1.out _ _ ho5; obtain ⟨bn5, sv5, hmi⟩ := id hm5; have a5 := A5.out _ hm5; have f5 := hmi.row.frozen 134; obtain ⟨hm6, hk6⟩ := memIs_opened hmi HX.out; obtain ⟨w6, hw6⟩ : ∃ w6, w5.setCell ⟨bm, 134, none⟩ (.int .i64 ((x : Int) + 1)) = w6 := ⟨_, rfl⟩; rw [hw6] at hm6 hk6; have a6 := A6.out _ ⟨_, _, hm6⟩; have hbm6 := hm6.row.lt; have HM6 := hid (p := IsMem w6 bm { oV.2 with opened := oV.2.opened + 1 } F) ⟨_, _, hm6⟩; have HK6 := hid hk6; clear hmi hm6 hk6; have HM5 := hid hm5; clear hm5 ho5; clear hm ho hk))
            have hkall : Keeps (fun k _ => F k ∨ k = w1.heap.size) w w5 := ((HK2.out.mono (fun _ _ h => .inl h)).trans HK5.out)
            have HKF := hid (keepsO hkall HW1.out)
            clear hkall
            go_region_held3 (fun w' => Grew w6 w' ∧ ∀ b o, b < w6.heap.size → w'.cell? ⟨b, o, none⟩ = w6.cell? ⟨b, o, none⟩) (exact later_both (by repeat' (first | assumption | exact grew_refl _ | refine grew_drew ?_ | refine grew_alloc ?_ _)))
              ((go_at_call 52; (with_reducible refine (HCL.out _ (IsMem.grew HM6.out (by repeat' (first | assumption | exact grew_refl _ | refine grew_drew ?_ | refine grew_alloc ?_ _)))).mono ?_); rintro e w8 ⟨u, rfl, hs, hg⟩; have hg8 : Grew w6 w8 := grew_trans (by repeat' (first | assumption | exact grew_refl _ | refine grew_drew ?_ | refine grew_alloc ?_ _)) hg; have HS8 := hid (hs.mono (show w6.heap.size ≤ _ by first | exact Nat.le_refl _ | (simp; done))); have HG8 := hid hg8; obtain ⟨ua, uc, rfl, hul⟩ := hs.shape; clear hs hg hul))
            all_goals (
              go_wp2
              go_ret2
              exact open_done HM6.out (HKF.out.trans HK6.out) HG8.out HS8.out (by dsimp only; rw [← HX.out]; omega) (len_entries _ _))
          · subst hv0
            rw [if_neg (by rw [HEV.out]; decide)]
            go_enter Tryz.func41, Tryz.ntmps41
            go_wp2_with (first
              | (go_at_call 26; (with_reducible refine HST.out.mono ?_); rintro e w1 ⟨rfl, hm, hk⟩; (obtain ⟨w2, hw2, g2, ho2, hz2⟩ := ord_new w1 bm; have c0 := Q0.out _ hm; have hm2 := hm.grew g2; have c41 := Q1.out _ hm2; have c42 := Q2.out _ hm2; have c40 := Q4.out _ hm2; have hnF : ¬ F w1.heap.size := (fun e => by have := HFL.out _ e; have := hk.size; omega); have HW1 := hid hk.size; have HM2 := hid hm2; have HO2 := hid ho2; have HK2 := hid (hk.trans g2.keeps); have o0 := ho2.c0; have o1 := ho2.c1;  clear hm hk hm2 ho2 g2))
              | (go_at_call 54; (with_reducible refine (HB.out _).mono ?_); rintro e w3 ⟨rfl, rfl⟩)
              | (go_at_call 65; (with_reducible refine (HP2.out _ _ HO2.out hnF HM2.out).mono ?_); rintro e w5 ⟨rfl, hm, ho, hk⟩; rw [HPV.out] at hm ho; have HK5 := hid hk; have o0 := ho.c0; have hm5 := hm; have ho5 := ho; have d1 := D1.out _ _ ho5; have HM5 := hid hm5; clear hm5 ho5; clear hm ho hk))
            have hkall : Keeps (fun k _ => F k ∨ k = w1.heap.size) w w5 := ((HK2.out.mono (fun _ _ h => .inl h)).trans HK5.out)
            have HKF := hid (keepsO hkall HW1.out)
            go_quiet (fail)
            go_wp2
            go_ret2
            exact ⟨HM5.out.grew (grew_drewN (grew_refl _) _), HKF.out.drewN _, by rw [HEV.out]; rfl⟩

end Go.Proofs.YtmohnddglmolgaaGreatDoor
