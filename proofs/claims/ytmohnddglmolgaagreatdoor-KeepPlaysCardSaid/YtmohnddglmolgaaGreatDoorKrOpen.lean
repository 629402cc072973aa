/- The reference's book; walk: Open (49). -/
import Derived.Test.YtmohnddglmolgaaGreatDoorKrBook3
import Derived.Test.YtmohnddglmolgaaGreatDoorKwA
import Derived.Deep.RegionLaw
namespace Go.Proofs.YtmohnddglmolgaaGreatDoor
open Go Go.RowKit Go.Lin Go.Lin.Kp

/-- What opening leaves of the reference. -/
def ROpen (w : World) (bm : Nat) (F : Nat → Prop) (r : Option Bk × Int × Mem) (e : Ending) (w' : World) : Prop :=
  IsRMem w' bm r.2.2 F ∧ Keeps (InF F) w w' ∧ match r.1 with
  | some b => ∃ bb G, e = .returned (.tuple #[ptr bb, .int .i64 0]) ∧ IsRBook w' bb bm b G ∧ ∀ k, G k → w.heap.size ≤ k
  | none => e = .returned (.tuple #[.pointer none, .int .i64 r.2.1])

theorem rmem_opened {w : World} {bm : Nat} {M : Mem} {F : Nat → Prop} {ov : Value} (h : RMemIs w bm ov M F) :
    RMemIs (w.setCell ⟨bm, 197, none⟩ (.int .i64 ((M.opened : Int) + 1))) bm ov { M with opened := M.opened + 1 } F ∧ Keeps (InF F) w (w.setCell ⟨bm, 197, none⟩ (.int .i64 ((M.opened : Int) + 1))) := by
  have hk : Keeps (fun k _ => k = bm) w (w.setCell ⟨bm, 197, none⟩ (.int .i64 ((M.opened : Int) + 1))) := keeps_set1 _ _ (fun _ => rfl)
  refine ⟨h.turned hk ((h.row.set 197 _).congr fun i hi => ?_) rfl, rKeeps hk h.inM⟩
  refine remAt_ext (M := { M with opened := M.opened + 1 }) (f := fun i => if i = 197 then .int .i64 ((M.opened : Int) + 1) else remAt M ov i) (fun i hi => ?_) (fun i hi => ?_) (fun i hi => ?_) rfl rfl rfl rfl rfl rfl hi
  · rw [if_neg (by omega), remAt_F _ _ hi]
  · rw [if_neg (by omega), remAt_K _ _ hi]
  · rw [if_neg (by omega), remAt_N _ _ hi]

theorem entries_snoc (f : Nat → Int) (n : Nat) : entriesOf f (n + 1) = entriesOf f n ++ [f (n + 1)] := by
  unfold entriesOf; rw [List.range_succ, List.map_append]; rfl

set_option maxHeartbeats 20000000 in
set_option maxRecDepth 20000 in
theorem ropen49_any (bm : Nat) (M : Mem) (F : Nat → Prop) (w : World) (h : IsRMem w bm M F) (hok : Ok M) (hsz : M.size + 10 < 1000000000) :
    Calls Tryz.prog 49 #[ptr bm] w (ROpen w bm F M.open_) := by
  have HST := hid (rstart79_any bm M F w h hok)
  have hok1 := ok_start hok
  have hsz1 := size_start M
  have HFL := hid h.ltF
  unfold Mem.open_
  have hon1 := on_start M
  obtain ⟨M1, hM1⟩ : ∃ M1, M.start = M1 := ⟨_, rfl⟩
  rw [hM1] at HST hok1 hsz1 hon1 ⊢
  rw [← hsz1] at hsz
  clear hM1 hsz1 hok h
  have hr0 := hok1.fresh 0
  obtain ⟨n, hn⟩ : ∃ n : Nat, M1.fresh 0 = (n : Int) := ⟨(M1.fresh 0).toNat, by omega⟩
  have HN := hid hn
  have Q0 := hid (fun (W : World) (h : IsRMem W bm M1 F) => (by obtain ⟨_, hm⟩ := h; rw [← hn]; exact hm.cF (i := 0) (by omega) : W.cell? ⟨bm, 0, none⟩ = some (.int .i64 (n : Int))))
  rw [hn]
  clear hn hr0
  by_cases h20 : n > 20
  · have hI : (n : Int) > 20 := by omega
    rw [if_pos hI]
    go_enter Tryz.func49, Tryz.ntmps49
    go_wp2_with (go_at_call 79; (with_reducible refine HST.out.mono ?_); rintro e w1 ⟨rfl, hm, hk⟩; have c0 := Q0.out _ hm; have HM1 := hid hm; have HK1 := hid hk; clear hm hk)
    go_ret2
    exact ⟨HM1.out, HK1.out, rfl⟩
  have hI : ¬ (n : Int) > 20 := by omega
  have hn20 : n ≤ 20 := by omega
  rw [if_neg hI]
  clear h20 hI
  have hb40 := hok1.fresh 40
  have hb41 := hok1.fresh 41
  have hb42 := hok1.fresh 42
  obtain ⟨k40, h40⟩ : ∃ k, M1.fresh 40 = k := ⟨_, rfl⟩
  obtain ⟨k41, h41⟩ : ∃ k, M1.fresh 41 = k := ⟨_, rfl⟩
  obtain ⟨k42, h42⟩ : ∃ k, M1.fresh 42 = k := ⟨_, rfl⟩
  rw [h40] at hb40
  rw [h41] at hb41
  rw [h42] at hb42
  have Q1 := hid (fun (W : World) (h : IsRMem W bm M1 F) => (by obtain ⟨_, hm⟩ := h; rw [← h41]; exact hm.cF (i := 41) (by omega) : W.cell? ⟨bm, 41, none⟩ = some (.int .i64 k41)))
  have Q2 := hid (fun (W : World) (h : IsRMem W bm M1 F) => (by obtain ⟨_, hm⟩ := h; rw [← h42]; exact hm.cF (i := 42) (by omega) : W.cell? ⟨bm, 42, none⟩ = some (.int .i64 k42)))
  have Q4 := hid (fun (W : World) (h : IsRMem W bm M1 F) => (by obtain ⟨_, hm⟩ := h; rw [← h40]; exact hm.cF (i := 40) (by omega) : W.cell? ⟨bm, 40, none⟩ = some (.int .i64 k40)))
  have H40 := hid h40; have H41 := hid h41; have H42 := hid h42
  have hU : Goes M1 (undo M1) 3 := by
    unfold undo
    split
    · rename_i hu
      rw [h40, h41, HN.out] at hu
      exact ((Goes.refl hok1 hon1).put (isCell_iff.2 (by rw [h41]; omega)) (isNum_iff.2 (by rw [h42]; omega)))
    · exact (Goes.refl hok1 hon1).mono (by omega)
  have hV : Goes M1 (unnote (undo M1)) 6 := by
    unfold unnote
    split
    · exact hU.mono (by omega)
    · exact hU.put (by decide) (by decide)
  have hsU := hU.size
  have hsV := hV.size
  obtain ⟨oU, hoU⟩ : ∃ o, undo M1 = o := ⟨_, rfl⟩
  obtain ⟨oV, hoV⟩ : ∃ o, unnote oU = o := ⟨_, rfl⟩
  rw [hoU] at hU hV hsU hsV ⊢
  rw [hoV] at hV hsV ⊢
  obtain ⟨b1, hb1⟩ : ∃ b, decide (oU.1 = 0) = b := ⟨_, rfl⟩
  obtain ⟨b2, hb2⟩ : ∃ b, decide (oV.1 = 0) = b := ⟨_, rfl⟩
  have HB1 := hid hb1; have HB2 := hid hb2; have HOV := hid hoV; have HOU := hid hoU
  have HU := hid hU; have HV := hid hV
  have HSV := hid (show oV.2.size + 3 < 1000000000 by omega)
  have HSU := hid (show oU.2.size + 3 < 1000000000 by omega)
  have HWI := hid (fun (W : World) => within92_any 1 k41 (n : Int) W)
  have HPA := hid (fun (W : World) (h : IsRMem W bm M1 F) (hA : k40 = 1 ∧ 1 ≤ k41 ∧ k41 ≤ (n : Int)) => (by
    have := rstore93_any bm M1 F k41 k42 W h hok1 (by omega)
    unfold storeR at this
    rw [show Ord.put (0, M1) k41 k42 = oU by rw [← hoU]; unfold undo; rw [if_pos ⟨by rw [h40]; exact hA.1, by rw [h41]; exact hA.2.1, by rw [h41, HN.out]; exact hA.2.2⟩, h41, h42], hb1] at this
    exact this : Calls Tryz.prog 93 #[ptr bm, .int .i64 k41, .int .i64 k42] W (RLeft W bm F (.bool b1) oU.2)))
  have HNA := hid (fun (hA : ¬ (k40 = 1 ∧ 1 ≤ k41 ∧ k41 ≤ (n : Int))) => (by rw [← hoU]; unfold undo; rw [if_neg (by rw [h40, h41, HN.out]; exact hA)] : oU = (0, M1)))
  have HPV := hid (fun (W : World) (h : IsRMem W bm oU.2 F) (h0 : oU.1 = 0) (hf : oU.2.fresh 40 ≠ 0) => (by
    have := rstore93_any bm oU.2 F 40 0 W h hU.ok (by omega)
    unfold storeR at this
    rw [← put_go h0, show Ord.put oU 40 0 = oV by rw [← hoV]; unfold unnote; rw [if_neg hf], hb2] at this
    exact this : Calls Tryz.prog 93 #[ptr bm, .int .i64 40, .int .i64 0] W (RLeft W bm F (.bool b2) oV.2)))
  have HN40 := hid (fun (hf : oU.2.fresh 40 = 0) => (by rw [← hoV]; unfold unnote; rw [if_pos hf] : oV = oU))
  have Q5 := hid (fun (W : World) (h : IsRMem W bm oU.2 F) => (by obtain ⟨_, hm⟩ := h; exact hm.cF (i := 40) (by omega) : W.cell? ⟨bm, 40, none⟩ = some (.int .i64 (oU.2.fresh 40))))
  simp only [Int.toNat_natCast]
  clear h40 h41 h42 hoU hoV hb1 hb2 hU hV hsU hsV hok1 hon1 hsz
  obtain ⟨res, hres⟩ : ∃ r : Option Bk × Int × Mem, (if oV.1 = 0 then (some (⟨oV.2.fails, oV.2.opened + 1, entriesOf oV.2.fresh n⟩ : Bk), 0, { oV.2 with opened := oV.2.opened + 1 }) else (none, oV.1, oV.2)) = r := ⟨_, rfl⟩
  have HR := hid hres
  show Calls Tryz.prog 49 #[ptr bm] w (ROpen w bm F (if oV.1 = 0 then (some (⟨oV.2.fails, oV.2.opened + 1, entriesOf oV.2.fresh n⟩ : Bk), 0, { oV.2 with opened := oV.2.opened + 1 }) else (none, oV.1, oV.2)))
  rw [hres]
  clear hres
  go_enter Tryz.func49, Tryz.ntmps49
  go_upto_region 5 with (go_at_call 79; (with_reducible refine HST.out.mono ?_); rintro e w1 ⟨rfl, hm, hk⟩; have c0 := Q0.out _ hm; have c40 := Q4.out _ hm; have c41 := Q1.out _ hm; have c42 := Q2.out _ hm; have HM1 := hid hm; have HK1 := hid hk; have hbm1 := hm.lt; clear hm hk)
  go_cut [45] from 16 (fun tv wx => tv = .bool (!b1) ∧ Hid (IsRMem wx bm oU.2 F) ∧ Hid (Keeps (InF F) w wx))
  case first =>
    by_cases hA : k40 = 1 ∧ 1 ≤ k41 ∧ k41 ≤ (n : Int)
    · have HPX := hid (fun (W : World) (h : IsRMem W bm M1 F) => HPA.out W h hA)
      rw [show (decide ((1 : Int) ≤ k41) && decide (k41 ≤ (n : Int))) = true by simp [hA.2.1, hA.2.2]] at HWI
      obtain ⟨rfl, hA1, hA2⟩ := hA
      clear hA1 hA2
      refine wp_region_still_tail 27 (by kernel_rfl) (by kernel_rfl) ?_
      simp only [List.take_succ_cons, List.take_zero, List.drop_succ_cons, List.drop_zero]
      repeat (refine wpStill_step (fun K hK => ?_); go_simp; (first | (with_reducible refine hK _ ?_)| (with_reducible refine ⟨_, still_of (HWI.out _), hK _ ?_⟩)); clear hK K)
      refine wpStill_nil ?_
      change wpList _ _ _ _ _ w1.drew
      go_wp2_with (go_at_call 93; (with_reducible refine (HPX.out _ (isRMem_drew HM1.out)).mono ?_); rintro e w3 ⟨rfl, hm, hk⟩; have HM3 := hid hm; have HK3 := hid ((HK1.out.drew).trans hk); clear hm hk)
      go_meet
      exact ⟨rfl, HM3, HK3⟩
    · have hoU := HNA.out hA
      have hb := HB1.out
      rw [hoU, decide_eq_true rfl] at hb
      have HOE := hid hoU; have HBE := hid hb
      by_cases h1 : k40 = 1
      · subst h1
        rw [show (decide ((1 : Int) ≤ k41) && decide (k41 ≤ (n : Int))) = false by rw [Bool.and_eq_false_iff, decide_eq_false_iff_not, decide_eq_false_iff_not]; omega] at HWI
        have HWI2 := hid (fun (W : World) => (HWI.out W).mono fun e w' hx => (⟨hx.1, hx.2 ▸ grew_refl _⟩ : e = .returned (.bool false) ∧ Grew W w'))
        clear hA hoU hb
        refine wp_region_later (by kernel_rfl) (by kernel_rfl) (fun hL => ?_)
        (try simp only [List.append_eq, List.cons_append, List.nil_append])
        repeat (go_big_quiet_step ((go_at_call 92; exact calls_later (HWI2.out _))))
        refine wpQuiet_nil ?_
        rintro wy ⟨y, hy⟩
        have hgy : Grew w1 wy := by rw [hy]; exact y.2
        clear hL hy y
        go_wp2_with fail
        go_meet
        exact ⟨by rw [← HBE.out]; rfl, hid (by rw [HOE.out]; exact HM1.out.grew hgy), hid (HK1.out.trans hgy.keeps)⟩
      · have e1 : (k40 == 1) = false := by rw [beq_eq_false_iff_ne]; exact h1
        clear hA hoU hb h1
        refine wp_region_later (by kernel_rfl) (by kernel_rfl) (fun hL => ?_)
        (try simp only [List.append_eq, List.cons_append, List.nil_append])
        repeat (go_big_quiet_step (fail))
        refine wpQuiet_nil ?_
        rintro wy ⟨y, hy⟩
        have hgy : Grew w1 wy := by rw [hy]; exact y.2
        clear hL hy y
        go_wp2_with fail
        go_meet
        exact ⟨by rw [← HBE.out]; rfl, hid (by rw [HOE.out]; exact HM1.out.grew hgy), hid (HK1.out.trans hgy.keeps)⟩
  case rest =>
    obtain ⟨rfl, HMU, HKU⟩ := hcut
    rename World => w5
    clear HNA HPA HWI Q0 Q1 Q2 Q4 HM1 HK1 c0 c40 c41 c42 hbm1
    cases b1 with
    | false =>
      have h1 : oU.1 ≠ 0 := of_decide_eq_false HB1.out
      have hV1 : oV = oU := by
        rw [← HOV.out]; unfold unnote
        split
        · rfl
        · exact put_err h1 _ _
      have h101 : oU.1 = 101 := by rcases HU.out.res with ⟨h, -, -⟩ | ⟨h, -, -⟩; exact absurd h h1; exact h
      have HE := hid (And.intro hV1 (And.intro h1 h101))
      clear h1 hV1 h101
      go_wp2_with fail
      go_ret2
      rw [← HR.out, HE.out.1, if_neg HE.out.2.1, HE.out.2.2]
      exact ⟨HMU.out, HKU.out, rfl⟩
    | true =>
      have h0 : oU.1 = 0 := of_decide_eq_true HB1.out
      have c40 := Q5.out _ HMU.out
      have HPW := hid (fun (W : World) (h : IsRMem W bm oU.2 F) (hf : oU.2.fresh 40 ≠ 0) => HPV.out W h h0 hf)
      obtain ⟨f40, hf40⟩ : ∃ f, oU.2.fresh 40 = f := ⟨_, rfl⟩
      rw [hf40] at c40 HPW HN40
      have H0 := hid h0
      clear hf40 h0 HPV Q5
      go_upto_region 7 with fail
      go_cut [56] from 46 (fun tv wx => tv = .bool (!b2) ∧ Hid (IsRMem wx bm oV.2 F) ∧ Hid (Keeps (InF F) w wx))
      case first =>
        by_cases hf : f40 = 0
        · have hVe := HN40.out hf
          have hb := HB2.out
          rw [hVe, decide_eq_true H0.out] at hb
          have HBE := hid hb; have HVE := hid hVe
          have e1 : (f40 != 0) = false := by rw [hf]; rfl
          clear hf hVe hb
          go_wp2_with fail
          go_meet
          exact ⟨by rw [← HBE.out]; rfl, hid (by rw [HVE.out]; exact HMU.out), HKU⟩
        · have e1 : (f40 != 0) = true := by rw [bne_iff_ne]; exact hf
          have HPX := hid (fun (W : World) (h : IsRMem W bm oU.2 F) => HPW.out W h hf)
          clear hf
          go_wp2_with (go_at_call 93; (with_reducible refine (HPX.out _ HMU.out).mono ?_); rintro e w3 ⟨rfl, hm, hk⟩; have HM3 := hid hm; have HK3 := hid (HKU.out.trans hk); clear hm hk)
          go_meet
          exact ⟨rfl, HM3, HK3⟩
      case rest =>
        obtain ⟨rfl, HMV, HKV⟩ := hcut
        rename World => w6
        clear HMU HKU HPW HN40 c40
        cases b2 with
        | false =>
          have h1 : oV.1 ≠ 0 := of_decide_eq_false HB2.out
          have h101 : oV.1 = 101 := by rcases HV.out.res with ⟨h, -, -⟩ | ⟨h, -, -⟩; exact absurd h h1; exact h
          have HE := hid (And.intro h1 h101)
          clear h1 h101
          go_wp2_with fail
          go_ret2
          rw [← HR.out, if_neg HE.out.1, HE.out.2]
          exact ⟨HMV.out, HKV.out, rfl⟩
        | true =>
          have h0 : oV.1 = 0 := of_decide_eq_true HB2.out
          have HV0 := hid h0
          obtain ⟨ov, hmv⟩ := HMV.out
          obtain ⟨x, hx⟩ : ∃ x, oV.2.opened = x := ⟨_, rfl⟩
          obtain ⟨fl, hfl⟩ : ∃ x, oV.2.fails = x := ⟨_, rfl⟩
          have c8 := hmv.cO
          have f8 := hmv.row.frozen 197
          obtain ⟨hm7, hk7⟩ := rmem_opened hmv
          obtain ⟨W7, hW7⟩ : ∃ W, w6.setCell ⟨bm, 197, none⟩ (.int .i64 ((oV.2.opened : Int) + 1)) = W := ⟨_, rfl⟩
          rw [hW7] at hm7 hk7
          have hxs : x < 1000000000 := by rw [← hx]; have := HSV.out; unfold Mem.size at this; omega
          have hwx : IntKind.i64.wrap ((x : Int) + 1) = (x : Int) + 1 := IntWalk.i64_in _ (by omega)
          have c9 := hm7.cO
          have c7 := hm7.cFa
          have hbm7 := hm7.row.lt
          obtain ⟨M3, hM3⟩ : ∃ M3 : Mem, { oV.2 with opened := oV.2.opened + 1 } = M3 := ⟨_, rfl⟩
          rw [hM3] at hm7
          have HM3E := hid hM3; have HXE := hid (And.intro hx hfl)
          dsimp only at c9 c7
          rw [hx] at c8 c9 hW7
          rw [hfl] at c7
          rw [show ((x + 1 : Nat) : Int) = (x : Int) + 1 by omega] at c9
          have hfe : oV.2.fresh = M3.fresh := by rw [← hM3]
          have HFE := hid hfe
          have HM7 := hid hm7; have HK7 := hid (HKV.out.trans hk7)
          clear h0 hmv hm7 hk7 hx hfl hxs hM3 hfe
          go_upto_region 10 with fail
          go_cut [5] from 57 (fun pv wx => ∃ bb, pv = ptr bb ∧ Hid (W7.heap.size ≤ bb) ∧ Hid (wx.heap[bb]? = some (.cells #[ptr bm, .slice none 0 0, .int .i64 (fl : Int), .int .i64 ((x : Int) + 1)] 81 (0, 0))) ∧ Hid (Grew W7 wx))
          case first =>
            go_region_law (fail)
            all_goals (
              go_wp2_with fail
              go_meet
              refine ⟨W7.heap.size, rfl, hid (Nat.le_refl _), hid ?_, hid ?_⟩
              · exact heap_alloc_new _ _
              · exact grew_alloc (grew_drew (grew_refl _)) _)
          case rest =>
            obtain ⟨bb, rfl, HBB, HBO, HGW⟩ := hcut
            rename World => w9
            clear c8 c9 c7 f8 hbm7
            go_wp2
            go_loopg [6] n (fun gk iv wr => ∃ (j q : Nat) (u : Value), j ≤ n ∧ iv = .int .i64 (q : Int) ∧ Hid (q = j + 1) ∧ Hid (gk = n - j) ∧ Hid (Grew W7 wr) ∧ Hid (wr.heap[bb]? = some (.cells #[ptr bm, u, .int .i64 (fl : Int), .int .i64 ((x : Int) + 1)] 81 (0, 0))) ∧ Hid (Seg wr W7.heap.size 3 1 u j ((entriesOf M3.fresh j).map (.int .i64))))
            case atStart => exact ⟨0, 1, .slice none 0 0, Nat.zero_le _, rfl, hid rfl, hid rfl, HGW, HBO, hid (Seg.nil _ _ _ _)⟩
            case round =>
              obtain ⟨j, q, u, hj, rfl, HQJ, HGK, HG, HO, HS⟩ := hrel
              rename World => wr
              have hqj := HQJ.out
              obtain ⟨ua, uc, rfl, -⟩ := HS.out.shape
              by_cases hlt : j < n
              · have dj : decide ((q : Int) ≤ (n : Int)) = true := by rw [decide_eq_true_eq]; omega
                have dj' : decide (q ≤ n) = true := by rw [decide_eq_true_eq]; omega
                have hq64 : (q : Int) < 64 := by omega
                have hm3 := HM7.out.grew HG.out
                have cf := hm3.cF (i := q) (by omega)
                have cb := cell_of_row wr bb 1 _ _ _ HO.out
                simp only [List.getElem?_toArray, List.getElem?_cons_zero, List.getElem?_cons_succ] at cb
                have fb := frozen_of_row wr bb 1 _ _ HO.out
                have zb := lt_of_obj HO.out
                have zm := hm3.row.lt
                have hwj : IntKind.i64.wrap ((q : Int) + 1) = (q : Int) + 1 := IntWalk.i64_in _ (by omega)
                obtain ⟨f, hf⟩ : ∃ f, M3.fresh q = f := ⟨_, rfl⟩
                rw [hf] at cf
                have HF := hid hf
                have HJB := hid (show j < 1000000000 by omega)
                have HNE := hid (show ¬ (Value.slice ua j uc).ownBlock = some bb from fun e => by
                  obtain ⟨_, _, cur, hc⟩ := HS.out.own bb e
                  have ho := HO.out
                  rw [ho] at hc
                  simp at hc)
                have HZ7 := hid (show W7.heap.size ≤ (wr.alloc (.cells #[.int .i64 f] 3)).drew.heap.size from Nat.le_trans HG.out.size (by simp))
                have HGA := hid (show Grew W7 (wr.alloc (.cells #[.int .i64 f] 3)).drew from grew_drew (HG.out.alloc HG.out.size _))
                have HSA := hid (show Seg (wr.alloc (.cells #[.int .i64 f] 3)).drew W7.heap.size 3 1 (.slice ua j uc) j ((entriesOf M3.fresh j).map (.int .i64)) from (HS.out.alloc _).grew (grew_drew (grew_refl _)))
                have HKA := hid (show Keeps (fun k _ => (Value.slice ua j uc).ownBlock = some k) wr (wr.alloc (.cells #[.int .i64 f] 3)).drew from ((Keeps.refl _ wr).alloc _).drew)
                have HON := hid (show (wr.alloc (.cells #[.int .i64 f] 3)).drew.cell? ⟨wr.heap.size, 0, none⟩ = some (.int .i64 f) from one_new wr (.int .i64 f) 3)
                clear hm3 hf hqj
                go_wp2
                go_region_law (refine step_append_one rfl _ _ 39 rfl W7.heap.size 3 Tryz.underlying39 Tryz.info3 rfl (Nat.le_of_ble_eq_true rfl) (.slice ua j uc) j _ rfl HSA.out _ _ (.int .i64 f) rfl HON.out rfl HJB.out HZ7.out ?_; intro v8 w8 hown8 hgrow8 hblk8; have hg8 : Grew W7 w8 := HGA.out.grown hgrow8 HZ7.out (fun k e => (HS.out.own k e).1); have hk8 := HKA.out.grown hgrow8 (fun k o e _ => e); have ho8 := hk8.obj bb _ HO.out HNE.out; have c8 := cell_of_row w8 bb 1 _ _ _ ho8; have f8 := frozen_of_row w8 bb 1 _ _ ho8; obtain ⟨a8, cc8, rfl, _⟩ := hown8.shape; have HS8 := hid hown8; have HO8 := hid ho8; have HG8 := hid hg8; clear hown8 hgrow8 hblk8 hk8 ho8 hg8)
                all_goals (
                  go_wp2
                  go_roundg (n - (j + 1))
                  case measure => have := HGK.out; omega
                  case rel =>
                    refine ⟨j + 1, q + 1, .slice a8 (j + 1) cc8, by omega, by go_num, hid (by rw [HQJ.out]), hid rfl, hid (grew_setB HG8.out HBB.out 1 _), hid ?_, hid ?_⟩
                    · rw [heap_setCell_same w8 bb 1 _ _ _ HO8.out]; rfl
                    · have hks : Keeps (fun k _ => k = bb) w8 (w8.setCell ⟨bb, 1, none⟩ (.slice a8 (j + 1) cc8)) := keeps_set1 _ _ (fun _ => rfl)
                      rw [entries_snoc, ← HQJ.out, HF.out, List.map_append, HQJ.out]
                      exact HS8.out.keeps hks (fun k o e ⟨cur, ho⟩ e2 => by
                        obtain ⟨_, _, cur2, hc⟩ := HS8.out.own k e
                        rw [e2, HO8.out] at hc; simp at hc))
              · obtain rfl : j = n := by omega
                have dj : decide ((q : Int) ≤ (j : Int)) = false := by rw [decide_eq_false_iff_not]; omega
                have dj' : decide (q ≤ j) = false := by rw [decide_eq_false_iff_not]; omega
                clear hqj
                go_wp2
                go_ret2
                rw [← HR.out, if_pos HV0.out, HM3E.out, HXE.out.1, HXE.out.2, HFE.out]
                have hz7 := HK7.out.size
                have hzw := HG.out.size
                refine ⟨⟨_, HM7.out.grew HG.out⟩, HK7.out.trans HG.out.keeps, bb, fun k => W7.heap.size ≤ k ∧ k < wr.heap.size, rfl, ⟨.slice ua j uc, HO.out, ?_, ⟨HBB.out, lt_of_obj HO.out⟩, fun k e => e.2⟩, fun k e => Nat.le_trans hz7 e.1⟩
                have hl : Seg wr W7.heap.size 3 1 (.slice ua j uc) (entriesOf M3.fresh j).length ((entriesOf M3.fresh j).map (.int .i64)) := by rw [len_entries]; exact HS.out
                exact Reads.re' hl.isInts (fun k o ho hs => ⟨⟨hs.1, lt_of_obj ho⟩, fun e => by
                  obtain ⟨_, cur, hc⟩ := hs
                  rw [e, HO.out, Option.some.injEq] at ho
                  rw [← ho] at hc; simp at hc⟩)

end Go.Proofs.YtmohnddglmolgaaGreatDoor
