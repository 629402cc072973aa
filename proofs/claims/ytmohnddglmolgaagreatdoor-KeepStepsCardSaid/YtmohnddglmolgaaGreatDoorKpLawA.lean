/- Law: KeepStays (6). What holds in the loop of KeepAllOrNothing. -/
import Derived.Test.YtmohnddglmolgaaGreatDoorKpWide
import Derived.Deep.RegionHeld3
namespace Go.Proofs.YtmohnddglmolgaaGreatDoor
open Go Go.RowKit Go.Lin Go.Lin.Kp

/-- What holds in a law's loop: a memory and a book in new blocks. -/
structure LawS (w wr : World) (bm bb : Nat) (M : Mem) (b : Bk) (F G : Nat → Prop) (l : List Int) : Prop where
  grew : Grew w wr
  mb : MBk wr bm bb M b F G
  F : ∀ k, F k → w.heap.size ≤ k
  G : ∀ k, G k → w.heap.size ≤ k
  fine : Fine M b l

theorem LawS.grown {w wr w' : World} {bm bb : Nat} {M : Mem} {b : Bk} {F G : Nat → Prop} {l : List Int} (h : LawS w wr bm bb M b F G l) (hg : Grew wr w') : LawS w w' bm bb M b F G l :=
  ⟨grew_trans h.grew hg, h.mb.grew hg, h.F, h.G, h.fine⟩

theorem LawS.did {w wr w' : World} {bm bb : Nat} {M M' : Mem} {b b' : Bk} {F G G' : Nat → Prop} {l l' : List Int} (h : LawS w wr bm bb M b F G l) (hm : MBk w' bm bb M' b' F G') (hG : Wider wr G G') (hk : Keeps (fun k _ => F k ∨ G k) wr w') (hl : Fine M' b' l') : LawS w w' bm bb M' b' F G' l' :=
  ⟨grew_b h.grew (hk.below h.grew.size (fun k _ e => e.elim (h.F k) (h.G k))), hm, h.F, fun k e => (hG k e).elim (h.G k) (fun e => Nat.le_trans h.grew.size e), hl⟩

/-- A memory and a book in new blocks. -/
structure LawQ (w wr : World) (bm bb : Nat) (M : Mem) (b : Bk) (F G : Nat → Prop) : Prop where
  grew : Grew w wr
  mb : MBk wr bm bb M b F G
  F : ∀ k, F k → w.heap.size ≤ k
  G : ∀ k, G k → w.heap.size ≤ k

theorem LawQ.grown {w wr w' : World} {bm bb : Nat} {M : Mem} {b : Bk} {F G : Nat → Prop} (h : LawQ w wr bm bb M b F G) (hg : Grew wr w') : LawQ w w' bm bb M b F G := ⟨grew_trans h.grew hg, h.mb.grew hg, h.F, h.G⟩
theorem LawQ.did {w wr w' : World} {bm bb : Nat} {M M' : Mem} {b b' : Bk} {F G G' : Nat → Prop} (h : LawQ w wr bm bb M b F G) (hm : MBk w' bm bb M' b' F G') (hG : Wider wr G G') (hk : Keeps (fun k _ => F k ∨ G k) wr w') : LawQ w w' bm bb M' b' F G' :=
  ⟨grew_b h.grew (hk.below h.grew.size (fun k _ e => e.elim (h.F k) (h.G k))), hm, h.F, fun k e => (hG k e).elim (h.G k) (fun e => Nat.le_trans h.grew.size e)⟩
theorem LawS.q {w wr : World} {bm bb : Nat} {M : Mem} {b : Bk} {F G : Nat → Prop} {l : List Int} (h : LawS w wr bm bb M b F G l) : LawQ w wr bm bb M b F G := ⟨h.grew, h.mb, h.F, h.G⟩
theorem LawQ.s {w wr : World} {bm bb : Nat} {M : Mem} {b : Bk} {F G : Nat → Prop} {l : List Int} (h : LawQ w wr bm bb M b F G) (hf : Fine M b l) : LawS w wr bm bb M b F G l := ⟨h.grew, h.mb, h.F, h.G, hf⟩
/-- Another book is opened on the memory. -/
theorem LawQ.opened {w wr w' : World} {bm bb : Nat} {M M' : Mem} {b : Bk} {F G : Nat → Prop} (h : LawQ w wr bm bb M b F G) (hm : IsMem w' bm M' F) (hk : Keeps (InF F) wr w') : LawQ w w' bm bb M' b F G :=
  h.did ⟨hm, h.mb.book.keeps hk (fun k _ hG hF => h.mb.disj k hF hG), h.mb.disj⟩ (fun _ e => .inl e) (hk.mono (fun _ _ e => .inl e))

/-- What a deed leaves that is asked of a book of the past. -/
theorem did_same {w w' : World} {bm bb : Nat} {M : Mem} {b : Bk} {F G : Nat → Prop} {r : Int × Bk × Mem} {e : Ending} (hd : DidLeft w bm bb F G r e w') (hr : r = (101, b, M)) : e = .returned (.int .i64 101) ∧ (∃ G', MBk w' bm bb M b F G' ∧ Wider w G G') ∧ Keeps (fun k _ => F k ∨ G k) w w' := by
  subst hr; exact hd

theorem entries_of (bb bm : Nat) (b : Bk) (G : Nat → Prop) (l : List Int) (w : World) (h : IsBook w bb bm b G) (hl : b.list = l) (hs : l.length ≤ 1000000) :
    Calls Tryz.prog 19 #[ptr bb] w fun e w' => ∃ u, e = .returned u ∧ IsInts (fun k _ => w.heap.size ≤ k ∧ k < w'.heap.size) w' u l ∧ Grew w w' := by
  subst hl
  exact (entries19_any bb bm b G w h hs).mono fun e w' ⟨u, h1, h2, h3⟩ => ⟨u, h1, Reads.re' h2.isInts (fun k o ho hs => ⟨hs.1, lt_of_obj ho⟩), h3⟩

theorem same_of (v v' : Value) (l : List Int) (w : World) (hv : IsInts Any w v l) (hv' : IsInts Any w v' l) : Calls Tryz.prog 24 #[v, v'] w fun e w' => e = .returned (.bool true) ∧ Grew w w' := by
  refine (same24_any v v' l l w hv hv').mono fun e w' ⟨h1, h2⟩ => ⟨?_, h2⟩
  rw [h1]; simp

set_option maxHeartbeats 8000000 in
set_option maxRecDepth 20000 in
theorem stays6_any (dv lv ov : Value) (ds : List (Int × Int)) (ls : List Loss) (os : List Int) (w : World) (hd : IsDeeds w dv ds) (hl : IsLosses w lv ls) (ho : IsBytes w ov os) (hL : Lay w) :
    Calls Tryz.prog 6 #[.agg #[dv, lv], ov] w fun e w' => e = .returned (.bool true) ∧ Grew w w' := by
  obtain ⟨w0, hw0, g0, k0, k1, hz0⟩ := box2 w dv lv 33
  have HSANE := hid (fun (W : World) (h : Grew w W) => sane12_any W (hL.grew h))
  have HWD := hid (wide16_any dv lv ds ls w0 (hd.grew g0) (hl.grew g0))
  obtain ⟨da, dc, rfl, hdm, hdc⟩ := hd
  obtain ⟨oa, oc, rfl, hom⟩ := ho.shape
  have HDC := hid hdc; have HO := hid ho
  obtain ⟨n, hnn⟩ : ∃ n, ds.length = n := ⟨_, rfl⟩
  obtain ⟨no, hno⟩ : ∃ n, os.length = n := ⟨_, rfl⟩
  have HN := hid hnn; have HNO := hid hno
  rw [hnn] at hdm k0 hw0 HWD ⊢
  rw [hno] at hom HO ⊢
  have HG0 := hid g0
  clear hdc hL hnn hno ho hl g0
  -- too many
  obtain ⟨r0, hr0⟩ : ∃ r0 : Bool, r0 = r0 := ⟨true, rfl⟩
  clear hr0 r0
  have HNEW := hid (fun W => new17_any W)
  have HOPN := hid (fun (W : World) (bm : Nat) (F : Nat → Prop) (h : IsMem W bm Mem.new F) => (by have := opened18_any bm Mem.new F W h Ok.new (by decide); rw [live_new.1] at this; exact this : Calls Tryz.prog 18 #[ptr bm] W (TryLeft W bm F (some ⟨0, 1, []⟩, { Mem.new with opened := 1 }))))
  by_cases ho10 : 10 < no
  · have d10 : decide ((10 : Int) < (no : Int)) = true := by simp; omega
    clear ho10
    go_enter Tryz.func6, Tryz.ntmps6
    go_wp2_with (go_at_call 16; (with_reducible refine HWD.out.mono ?_); rintro e w1 ⟨r, rfl, -, hg⟩; have HG1 := hid (grew_trans HG0.out hg); have e0 := (hg.cell (p := ⟨w.heap.size, 0, none⟩) hz0).trans k0; clear hg; cases r)
    all_goals (
      go_wp2_with (go_at_call 12; (with_reducible refine (HSANE.out _ HG1.out).mono ?_); rintro e w2 ⟨rfl, hg⟩; have HG2 := hid (grew_trans HG1.out hg); clear hg)
      go_ret
      exact ⟨rfl, HG2.out⟩)
  have d10 : decide ((10 : Int) < (no : Int)) = false := by simp; omega
  have ho10' : no ≤ 10 := by omega
  have HE10 := hid (cellsOf_early (l := os) (by rw [HNO.out]; exact ho10'))
  clear ho10
  go_enter Tryz.func6, Tryz.ntmps6
  go_wp2_with (go_at_call 16; (with_reducible refine HWD.out.mono ?_); rintro e w1 ⟨r, rfl, hr, hg⟩; have HR := hid hr; have HG1 := hid hg; have e0 := (hg.cell (p := ⟨w.heap.size, 0, none⟩) hz0).trans k0; clear hg hr; cases r)
  rotate_left
  · go_wp2_with (go_at_call 12; (with_reducible refine (HSANE.out _ (grew_trans HG0.out HG1.out)).mono ?_); rintro e w2 ⟨rfl, hg⟩; have HG2 := hid (grew_trans (grew_trans HG0.out HG1.out) hg); clear hg)
    go_ret
    exact ⟨rfl, HG2.out⟩
  obtain ⟨hn30, -, -⟩ := HR.out (by first | rfl | trivial)
  replace hn30 : n ≤ 30 := by have := HN.out; omega
  go_wp2_with (first
    | (go_at_call 17; (with_reducible refine (HNEW.out _).mono ?_); rintro e w2 ⟨rfl, hm1, hg1⟩; have HM1 := hid hm1; have HG2 := hid hg1; clear hm1 hg1)
    | (go_at_call 18; (with_reducible refine (HOPN.out _ _ _ HM1.out).mono ?_); rintro e w3 ⟨hm2, hk2, bb, G, rfl, hb2, hG2⟩; have HM2 := hid hm2; have HK2 := hid hk2; have HB2 := hid hb2; have HGL := hid hG2; clear hm2 hk2 hb2 hG2))
  have hP0 : LawS w1 w3 (w1.heap.size + 1) bb { Mem.new with opened := 1 } ⟨0, 1, []⟩ (fun k => k = w1.heap.size ∨ k = w1.heap.size + 1) G [] := by
    have h1s := HG2.out.size
    have hm1 := HM1.out.lt
    have hk := HK2.out
    refine ⟨grew_b HG2.out (hk.below HG2.out.size (fun k _ e => by rcases e with rfl | rfl <;> omega)), ⟨HM2.out, HB2.out, ?_⟩, ?_, ?_, fine_new⟩
    · rintro k (e | e) hG <;> (have := HGL.out k hG; omega)
    · rintro k (e | e) <;> omega
    · intro k e; have := HGL.out k e; omega
  have HP0 := hid hP0
  obtain ⟨F, hF⟩ : ∃ F : Nat → Prop, (fun k => k = w1.heap.size ∨ k = w1.heap.size + 1) = F := ⟨_, rfl⟩
  obtain ⟨bm, hbm⟩ : ∃ x, w1.heap.size + 1 = x := ⟨_, rfl⟩
  rw [hF, hbm] at HP0
  rw [hbm]
  clear hP0 hbm hF HM1 HM2 HK2 HB2 HGL HG2 HNEW HOPN HR
  have HGW := hid (grew_trans HG0.out HG1.out)
  have hxb : w.heap.size < w1.heap.size := Nat.lt_of_lt_of_le hz0 HG1.out.size
  have HOC := hid (fun (W : World) (h : Grew w W) => cells21_any (.slice oa no oc) os W (by have := HO.out.grew h; exact this) (by rw [HNO.out]; omega))
  go_loopg [7, 8, 9, 10] n (fun gk iv _ _ _ wr => ∃ (j : Nat) (M : Mem) (b : Bk) (G : Nat → Prop) (l : List Int), j ≤ n ∧ iv = .int .i64 (j : Int) ∧ Hid (gk = n - j) ∧ Hid (M.size ≤ 1 + 14 * j) ∧ Hid (M.plan = 0) ∧ Hid (LawS w1 wr bm bb M b F G l))
  case atStart => exact ⟨0, _, _, G, [], Nat.zero_le _, rfl, hid rfl, hid (by decide), hid rfl, HP0⟩
  case round =>
    obtain ⟨j, M, b, G, l, hj, rfl, HGK, HSZ, HPL, HP⟩ := hrel
    rename World => wr
    have e1 := (HP.out.grew.cell (p := ⟨w.heap.size, 0, none⟩) hxb).trans e0
    have hll : l.length ≤ 20 := by rw [← HP.out.fine.list]; exact HP.out.fine.bk.1
    by_cases hlt : j < n
    · have hjl : j < ds.length := by rw [HN.out]; exact hlt
      obtain ⟨⟨k, m⟩, hx⟩ : ∃ x, ds[j] = x := ⟨_, rfl⟩
      obtain ⟨b1, off, rfl, hbl, hc0, hc1⟩ := HDC.out j (k, m) (by rw [List.getElem?_eq_getElem hjl, hx])
      have hgr := grew_trans HGW.out HP.out.grew
      have d0 := (hgr.cell (p := ⟨b1, off + j * 2, none⟩) hbl).trans hc0
      have d1 := (hgr.cell (p := ⟨b1, off + j * 2 + 1, none⟩) hbl).trans hc1
      simp only at d0 d1
      have hsz := size_doD M b k m
      obtain ⟨l', hf', hp'⟩ := doD_sure HP.out.fine HPL.out k m
      have HDO := hid (do23_any bm bb M b F G k m wr HP.out.mb HP.out.fine.ok HP.out.fine.bk (by have := HSZ.out; omega))
      obtain ⟨⟨er, b', M'⟩, hr⟩ : ∃ x, doD M b k m = x := ⟨_, rfl⟩
      rw [hr] at hsz hf' hp' HDO
      simp only at hsz hf' hp'
      have hms : M'.size ≤ 1 + 14 * (j + 1) := by have := HSZ.out; omega
      have hl20 : l'.length ≤ 20 := by rw [← hf'.list]; exact hf'.bk.1
      obtain ⟨hcr, b2, M2, htry, hf2⟩ := crash_fine hf' HE10.out
      have hl2 := hf2.list
      have HF' := hid hf'; have HP' := hid hp'; have HMS := hid hms
      have HEN := hid (fun (W : World) (G' : Nat → Prop) (h : IsBook W bb bm b' G') => entries_of bb bm b' G' l' W h hf'.list (by omega))
      have HCP := hid (fun (W : World) (h : IsMem W bm M' F) => copy29_mem bm M' F W h hf'.ok)
      have HCR := hid (fun (W : World) (q : Nat) (F' : Nat → Prop) (u : Value) (S : Nat → Obj → Prop) (h : IsMem W q M' F') (hv : IsInts S W u (cellsOf os)) (hS : ∀ k o, S k o → k ≠ q) => (by have := crash30_any q M' F' u (cellsOf os) S W h (by omega) hv hS; rw [hcr] at this; exact this : Calls Tryz.prog 30 #[ptr q, u] W (Left W q (0, M'.fail (cellsOf os)) F')))
      have HPW := hid (fun (W : World) (q : Nat) (F' : Nat → Prop) (h : IsMem W q (M'.fail (cellsOf os)) F') => (power25_mem q (M'.fail (cellsOf os)) F' W h : Calls Tryz.prog 25 #[ptr q] W fun e w' => e = .returned (.bool false) ∧ W = w'))
      have HTR := hid (fun (W : World) (q : Nat) (F' : Nat → Prop) (h : IsMem W q (M'.fail (cellsOf os)) F') => (by have := opened18_any q (M'.fail (cellsOf os)) F' W h (hf'.ok.fail _) (by rw [size_fail]; omega); rw [htry] at this; exact this : Calls Tryz.prog 18 #[ptr q] W (TryLeft W q F' (some b2, M2))))
      have HE2 := hid (fun (W : World) (q q2 : Nat) (G' : Nat → Prop) (h : IsBook W q q2 b2 G') => entries_of q q2 b2 G' l' W h hl2 (by omega))
      have HSM := hid (fun (W : World) (u u2 : Value) (h : IsInts Any W u l') (h2 : IsInts Any W u2 l') => same_of u u2 l' W h h2)
      clear hr hx hbl hc0 hc1 hsz hf' hp' hms hl20 hcr htry hf2 hl2 hgr hjl
      go_wp2_with (first
        | (go_at_call 23; (with_reducible refine HDO.out.mono ?_); rintro e w4 ⟨rfl, ⟨G', hm4, hG4⟩, hk4⟩; have hp4 := HP.out.did hm4 hG4 hk4 HF'.out; have HP4 := hid hp4; clear hm4 hG4 hk4 hp4)
        | (go_at_call 19; (with_reducible refine (HEN.out _ _ HP4.out.mb.book).mono ?_); rintro e w5 ⟨u5, rfl, hi5, hg5⟩; obtain ⟨ua5, uc5, rfl, _⟩ := id hi5; have HI5 := hid hi5; have HP5 := hid (HP4.out.grown hg5); clear hi5 hg5)
        | (go_at_call 29; (with_reducible refine (HCP.out _ HP5.out.mb.mem).mono ?_); rintro e w6 ⟨bq, Fq, rfl, hm6, hF6, hg6⟩; have HM6 := hid hm6; have HF6 := hid hF6; have HG6 := hid hg6; clear hm6 hF6 hg6)
        | (go_at_call 21; (with_reducible refine (HOC.out _ (grew_trans HGW.out (grew_trans HP5.out.grew HG6.out))).mono ?_); rintro e w7 ⟨u7, rfl, hs7, hg7⟩; have HS7 := hid hs7; have HG7 := hid hg7; clear hs7 hg7)
        | (go_at_call 30; (with_reducible refine (HCR.out _ _ _ _ _ (HM6.out.grew HG7.out) HS7.out.isInts (fun k o h e => by have := h.1; have := HM6.out.lt; omega)).mono ?_); rintro e w8 ⟨rfl, hm8, hk8⟩; have hg58 := grew_trans HG6.out HG7.out; have HG8 := hid (grew_b hg58 (hk8.below hg58.size (fun k _ e => HF6.out k e))); have HM8 := hid hm8; clear hm8 hk8 hg58)
        | (go_at_call 25; (with_reducible refine (HPW.out _ _ _ HM8.out).mono ?_); rintro e w9 ⟨rfl, rfl⟩)
        | (go_at_call 18; (with_reducible refine (HTR.out _ _ _ HM8.out).mono ?_); rintro e w10 ⟨hm10, hk10, q2, G2, rfl, hb10, hG10⟩; have HG10 := hid (grew_b HG8.out (hk10.below HG8.out.size (fun k _ e => HF6.out k e))); have HB10 := hid hb10; clear hm10 hk10 hb10 hG10)
        | (go_at_call 19; (with_reducible refine (HE2.out _ _ _ _ HB10.out).mono ?_); rintro e w11 ⟨u11, rfl, hi11, hg11⟩; have HI11 := hid hi11; have HG11 := hid (grew_trans HG10.out hg11); clear hi11 hg11)
        | (go_at_call 24; (with_reducible refine (HSM.out _ _ _ HI11.out.any (Reads.grew HI5.out.any HG11.out)).mono ?_); rintro e w12 ⟨rfl, hg12⟩; have HG12 := hid (grew_trans HG11.out hg12); clear hg12))
      go_roundg (n - (j + 1))
      case measure => have := HGK.out; omega
      case rel => exact ⟨j + 1, M', b', G', l', by omega, by go_num, hid rfl, HMS, HP', hid (HP5.out.grown HG12.out)⟩
    · obtain rfl : j = n := by omega
      obtain ⟨b', M', htry, hf', hdo⟩ := again_fine HP.out.fine HPL.out
      have hl' := hf'.list
      have hms := size_tryOpen 3 M
      rw [htry] at hms
      simp only at hms
      have hz := HSZ.out
      have HEN := hid (fun (W : World) (G' : Nat → Prop) (h : IsBook W bb bm b G') => entries_of bb bm b G' l W h HP.out.fine.list (by omega))
      have HE2 := hid (fun (W : World) (q : Nat) (G' : Nat → Prop) (h : IsBook W q bm b' G') => entries_of q bm b' G' l W h hl' (by omega))
      have HSM := hid (fun (W : World) (u u2 : Value) (h : IsInts Any W u l) (h2 : IsInts Any W u2 l) => same_of u u2 l W h h2)
      have HTR := hid (fun (W : World) (h : IsMem W bm M F) => (by have := opened18_any bm M F W h HP.out.fine.ok (by omega); rw [htry] at this; exact this : Calls Tryz.prog 18 #[ptr bm] W (TryLeft W bm F (some b', M'))))
      have hadd : M'.add b 1 = (101, b, M') := by have := hdo 0 1; unfold doD at this; rw [if_pos rfl] at this; exact this
      have hchg : M'.change b 1 1 = (101, b, M') := by have := hdo 1 1; unfold doD at this; rw [if_neg (by decide)] at this; exact this
      have hbl := HP.out.fine.bk.1
      have HAD := hid (fun (W : World) (G' : Nat → Prop) (h : MBk W bm bb M' b F G') => ((add31_any bb bm b M' F G' 1 W h.book h.mem h.disj hf'.ok (by omega) hbl).mono fun e w' hd => did_same (did_of h hd) hadd))
      have HCH := hid (fun (W : World) (G' : Nat → Prop) (h : MBk W bm bb M' b F G') => ((change32_any bb bm b M' F G' 1 1 W h.book h.mem h.disj hf'.ok (by omega) hbl).mono fun e w' hd => did_same (did_of h hd) hchg))
      have HPQ := hid HP.out.q
      have HXB := hid hxb
      clear htry hf' hdo hl' hms hz hadd hchg hbl HP
      go_wp2_with (first
        | (go_at_call 19; (with_reducible refine (HEN.out _ _ HPQ.out.mb.book).mono ?_); rintro e w5 ⟨u5, rfl, hi5, hg5⟩; obtain ⟨ua5, uc5, rfl, _⟩ := id hi5; have HI5 := hid hi5; have HP5 := hid (HPQ.out.grown hg5); clear hi5 hg5)
        | (go_at_call 18; (with_reducible refine (HTR.out _ HP5.out.mb.mem).mono ?_); rintro e w6 ⟨hm6, hk6, q2, G2, rfl, hb6, hG6⟩; have HP6 := hid (HP5.out.opened hm6 hk6); have HI6 := hid (Reads.keeps HI5.out hk6 (fun k o hs hF => by have := HPQ.out.mb.mem.ltF k hF; have := hs.1; omega)); have HB6 := hid hb6; have HW6 := hid hk6.size; clear hm6 hk6 hb6 hG6)
        | (go_at_call 19; (with_reducible refine (HE2.out _ _ _ HB6.out).mono ?_); rintro e w7 ⟨u7, rfl, hi7, hg7⟩; have HI7 := hid hi7; have HP7 := hid (HP6.out.grown hg7); have HJ7 := hid (Reads.grew HI6.out hg7); have HW7 := hid hg7.size; clear hi7 hg7 HB6)
        | (go_at_call 24; (with_reducible refine (HSM.out _ _ _ HI7.out.any HJ7.out.any).mono ?_); rintro e w8 ⟨rfl, hg8⟩; have HP8 := hid (HP7.out.grown hg8); have HJ8 := hid (Reads.grew HJ7.out hg8); have HW8 := hid hg8.size; clear hg8 HJ7)
        | (go_at_call 31; (with_reducible refine (HAD.out _ _ HP8.out.mb).mono ?_); rintro e w9 ⟨rfl, ⟨G9, hm9, hG9⟩, hk9⟩; have HP9 := hid (HP8.out.did hm9 hG9 hk9); have HG9 := hid hG9; have HJ9 := hid (Reads.keeps HJ8.out hk9 (fun k o hs e => by rcases e with e | e; (have := HPQ.out.mb.mem.ltF k e; have := hs.1; omega); (obtain ⟨_, hb⟩ := HPQ.out.mb.book; have := hb.lt k e; have := hs.1; omega))); have HW9 := hid hk9.size; clear hm9 hG9 hk9)
        | (go_at_call 32; (with_reducible refine (HCH.out _ _ HP9.out.mb).mono ?_); rintro e w10 ⟨rfl, ⟨G10, hm10, hG10⟩, hk10⟩; have HP10 := hid (HP9.out.did hm10 hG10 hk10); have HJ10 := hid (Reads.keeps HJ9.out hk10 (fun k o hs e => by rcases e with e | e; (have := HPQ.out.mb.mem.ltF k e; have := hs.1; omega); (rcases HG9.out k e with e | e; (obtain ⟨_, hb⟩ := HPQ.out.mb.book; have := hb.lt k e; have := hs.1; omega); (have := hs.2; have := HW6.out; have := HW7.out; have := HW8.out; omega)))); clear hm10 hG10 hk10)
        | (go_at_call 19; (with_reducible refine (HEN.out _ _ HP10.out.mb.book).mono ?_); rintro e w11 ⟨u11, rfl, hi11, hg11⟩; have HI11 := hid hi11; have HP11 := hid (HP10.out.grown hg11); have HJ11 := hid (Reads.grew HJ10.out hg11); clear hi11 hg11)
        | (go_at_call 24; (with_reducible refine (HSM.out _ _ _ HI11.out.any HJ11.out.any).mono ?_); rintro e w12 ⟨rfl, hg12⟩; have HP12 := hid (HP11.out.grown hg12); clear hg12 HJ11)
        | (go_at_call 12; (with_reducible refine (HSANE.out _ (grew_trans HGW.out HP12.out.grew)).mono ?_); rintro e w13 ⟨rfl, hg13⟩; have HG13 := hid (grew_trans (grew_trans HGW.out HP12.out.grew) hg13); clear hg13))
      go_ret
      exact ⟨rfl, HG13.out⟩

end Go.Proofs.YtmohnddglmolgaaGreatDoor
namespace Go.Lin.Kp
open Go Go.Lin

/-- A plan is made between two deeds. -/
theorem planned_fine {M : Mem} {b : Bk} {l c : List Int} {k : Int} (h : Fine M b l) (hk : 1 ≤ k ∧ k ≤ 1000) (hc : areEarly c = true) : (M.planned k c).1 = 0 ∧ Fine (M.planned k c).2 b l := by
  have ho := ok_planned h.ok k c
  have hm : mayPlan k c = true := by unfold mayPlan; rw [hc]; simp [hk.1, hk.2]
  unfold Mem.planned at ho ⊢
  rw [if_pos hm, if_pos h.on] at ho ⊢
  obtain ⟨K, hM, hr, h4⟩ := h.mem
  exact ⟨rfl, ho, h.on, h.bk, h.list, h.era, K, ⟨ho, h.on, hM.fresh, hM.kept, hM.notes⟩, hr, h4⟩

/-- Opening behind a failure. -/
theorem down_open {M0 M : Mem} {K : Nat → Int} {l : List Int} (hd : Down M0 M K) (hr : Rec K l) : ∃ b' M', tryOpen 3 M = (some b', M') ∧ Fine M' b' l := by
  obtain ⟨b', M', e, hf, _⟩ := try_cl hd.ok hd.start hr
  exact ⟨b', M', e, hf⟩

/-- Opening behind a failure, with a plan. -/
theorem down_plan {M0 M : Mem} {K : Nat → Int} {l c : List Int} {k : Int} (hd : Down M0 M K) (hr : Rec K l) (hk : 1 ≤ k ∧ k ≤ 1000) (hc : areEarly c = true) :
    Ok M.start ∧ (M.start.planned k c).1 = 0 ∧ Ok (M.start.planned k c).2 ∧ ∃ b' M', tryOpen 3 (M.start.planned k c).2 = (some b', M') ∧ Fine M' b' l := by
  have hs := hd.start
  have ho := ok_planned hs.ok k c
  have hm : mayPlan k c = true := by unfold mayPlan; rw [hc]; simp [hk.1, hk.2]
  have he : M.start.planned k c = (0, { M.start with plan := k.toNat, early := c }) := by
    unfold Mem.planned
    rw [if_pos hm, if_pos hs.on]
  rw [he] at ho ⊢
  refine ⟨hs.ok, rfl, ho, ?_⟩
  have h2 : ({ M.start with plan := k.toNat, early := c } : Mem).start = { M.start with plan := k.toNat, early := c } := by
    unfold Mem.start
    rw [if_pos]
    exact hs.on
  have hc2 : Cl { M.start with plan := k.toNat, early := c } K := ⟨ho, hs.on, hs.fresh, hs.kept, hs.notes⟩
  obtain ⟨b', M', e, hf, _⟩ := try_cl ho (by rw [h2]; exact hc2) hr
  exact ⟨b', M', e, hf⟩

theorem tryOpen_size (M : Mem) : (tryOpen 3 M).2.size ≤ M.size + 21 := size_tryOpen 3 M

end Go.Lin.Kp
namespace Go.Proofs.YtmohnddglmolgaaGreatDoor
open Go Go.RowKit Go.Lin Go.Lin.Kp

/-- A list that lies apart from a memory and a book. -/
abbrev Off (F G : Nat → Prop) (w : World) (v : Value) (l : List Int) : Prop := IsInts (fun k _ => ¬ F k ∧ ¬ G k) w v l

theorem off_keeps {F G F' G' : Nat → Prop} {w w' : World} {v : Value} {l : List Int} (h : Off F G w v l) (hk : Keeps (fun k _ => F k ∨ G k) w w') (hF : Wider w F F') (hG : Wider w G G') : Off F' G' w' v l := by
  obtain ⟨a, c, e, hm, hc⟩ := h
  refine ⟨a, c, e, hm, fun i hi => ?_⟩
  obtain ⟨b, off, o, e1, e2, e3, e4⟩ := hc i hi
  have hlt := lt_of_obj e2
  have e5 := hk.obj b o e2 (fun e => e.elim e3.1 e3.2)
  exact ⟨b, off, o, e1, e5, ⟨fun hf => (hF b hf).elim e3.1 (fun h => by omega), fun hg => (hG b hg).elim e3.2 (fun h => by omega)⟩, cell_of_obj e2 e5 e4⟩

theorem off_grew {F G : Nat → Prop} {w w' : World} {v : Value} {l : List Int} (h : Off F G w v l) (hg : Grew w w') : Off F G w' v l := Reads.grew h hg

theorem off_new {F G : Nat → Prop} {w w' : World} {v : Value} {l : List Int} {n : Nat} (h : Seg w' w.heap.size 3 1 v n (l.map (.int .i64))) (hF : ∀ k, F k → k < w.heap.size) (hG : ∀ k, G k → k < w.heap.size) : Off F G w' v l :=
  Reads.mono h.isInts fun k _ hs => ⟨fun e => by have := hF k e; have := hs.1; omega, fun e => by have := hG k e; have := hs.1; omega⟩

theorem off_list {F G : Nat → Prop} {w : World} {v : Value} {l : List Int} (h : IsInts (fun k _ => w.heap.size ≤ k) w v l) (hF : ∀ k, F k → k < w.heap.size) (hG : ∀ k, G k → k < w.heap.size) : Off F G w v l :=
  Reads.mono h fun k _ hs => ⟨fun e => by have := hF k e; omega, fun e => by have := hG k e; omega⟩

theorem LawQ.ltF {w wr : World} {bm bb : Nat} {M : Mem} {b : Bk} {F G : Nat → Prop} (h : LawQ w wr bm bb M b F G) : ∀ k, F k → k < wr.heap.size := h.mb.mem.ltF
theorem LawQ.ltG {w wr : World} {bm bb : Nat} {M : Mem} {b : Bk} {F G : Nat → Prop} (h : LawQ w wr bm bb M b F G) : ∀ k, G k → k < wr.heap.size := by obtain ⟨_, hb⟩ := h.mb.book; exact hb.lt

/-- The memory's blocks become more. -/
theorem LawQ.planned {w wr w' : World} {bm bb : Nat} {M M' : Mem} {b : Bk} {F G F' : Nat → Prop} (h : LawQ w wr bm bb M b F G) (hm : IsMem w' bm M' F') (hF : Wider wr F F') (hk : Keeps (InF F) wr w') : LawQ w w' bm bb M' b F' G :=
  ⟨grew_b h.grew (hk.below h.grew.size (fun k _ e => h.F k e)), ⟨hm, h.mb.book.keeps hk (fun k _ hG hF => h.mb.disj k hF hG), fun k hF' hG => (hF k hF').elim (fun e => h.mb.disj k e hG) (fun e => by have := h.ltG k hG; omega)⟩,
    fun k e => (hF k e).elim (h.F k) (fun e => Nat.le_trans h.grew.size e), h.G⟩

/-- Another book is opened, and takes the place of the first one. -/
theorem LawQ.newBook {w wr w' : World} {bm bb bb' : Nat} {M M' : Mem} {b b' : Bk} {F G G' : Nat → Prop} (h : LawQ w wr bm bb M b F G) (hm : IsMem w' bm M' F) (hk : Keeps (InF F) wr w') (hb : IsBook w' bb' bm b' G') (hG : ∀ k, G' k → wr.heap.size ≤ k) : LawQ w w' bm bb' M' b' F G' :=
  ⟨grew_b h.grew (hk.below h.grew.size (fun k _ e => h.F k e)), ⟨hm, hb, fun k hF hG' => by have := h.ltF k hF; have := hG k hG'; omega⟩, h.F, fun k e => Nat.le_trans h.grew.size (hG k e)⟩

/-- A block apart from a memory and a book. -/
structure Aside (F G : Nat → Prop) (w : World) (b : Nat) (o : Obj) : Prop where
  obj : w.heap[b]? = some o
  F : ¬ F b
  G : ¬ G b

theorem Aside.keeps {F G F' G' : Nat → Prop} {w w' : World} {b : Nat} {o : Obj} (h : Aside F G w b o) (hk : Keeps (fun k _ => F k ∨ G k) w w') (hF : Wider w F F') (hG : Wider w G G') : Aside F' G' w' b o :=
  ⟨hk.obj b o h.obj (fun e => e.elim h.F h.G), fun e => (hF b e).elim h.F (fun e => by have := lt_of_obj h.obj; omega), fun e => (hG b e).elim h.G (fun e => by have := lt_of_obj h.obj; omega)⟩
theorem Aside.grew {F G : Nat → Prop} {w w' : World} {b : Nat} {o : Obj} (h : Aside F G w b o) (hg : Grew w w') : Aside F G w' b o := ⟨(hg.block _ (lt_of_obj h.obj)).trans h.obj, h.F, h.G⟩

theorem keeps_inF {F G : Nat → Prop} {w w' : World} (h : Keeps (InF F) w w') : Keeps (fun k _ => F k ∨ G k) w w' := h.mono fun _ _ e => .inl e
theorem wider_refl {w : World} {F : Nat → Prop} : Wider w F F := fun _ h => .inl h

/-- A block apart is written. -/
theorem LawS.aside {w wr w' : World} {bm bb q : Nat} {M : Mem} {b : Bk} {F G : Nat → Prop} {l : List Int} (h : LawS w wr bm bb M b F G l) (hk : Keeps (fun k _ => k = q) wr w') (hF : ¬ F q) (hG : ¬ G q) (hq : w.heap.size ≤ q) : LawS w w' bm bb M b F G l :=
  ⟨grew_b h.grew (hk.below h.grew.size (fun k _ e => by rw [e]; exact hq)), ⟨h.mb.mem.keeps hk (fun k _ e e2 => hF (e2 ▸ e)), h.mb.book.keeps hk (fun k _ e e2 => hG (e2 ▸ e)), h.mb.disj⟩, h.F, h.G, h.fine⟩

/-- A block of five cells is written anew. -/
theorem store5 {w : World} {q : Nat} {c0 c1 c2 c3 c4 : Value} {t : TypeId} (h : w.heap[q]? = some (.cells #[c0, c1, c2, c3, c4] t (0, 0))) (a0 a1 a2 a3 a4 : Value) :
    ∃ W, ((((w.setCell ⟨q, 0, none⟩ a0).setCell ⟨q, 1, none⟩ a1).setCell ⟨q, 2, none⟩ a2).setCell ⟨q, 3, none⟩ a3).setCell ⟨q, 4, none⟩ a4 = W ∧ W.heap[q]? = some (.cells #[a0, a1, a2, a3, a4] t (0, 0)) ∧ Keeps (fun k _ => k = q) w W := by
  have hk : ∀ (i : Nat) (u : Value) (x : World), Keeps (fun k _ => k = q) x (x.setCell ⟨q, i, none⟩ u) := fun i u x => keeps_set1 u _ (fun _ => rfl)
  have h1 := heap_setCell_same w q 0 _ _ a0 h
  have h2 := heap_setCell_same _ q 1 _ _ a1 h1
  have h3 := heap_setCell_same _ q 2 _ _ a2 h2
  have h4 := heap_setCell_same _ q 3 _ _ a3 h3
  have h5 := heap_setCell_same _ q 4 _ _ a4 h4
  exact ⟨_, rfl, by simpa using h5, ((((hk _ _ _).trans (hk _ _ _)).trans (hk _ _ _)).trans (hk _ _ _)).trans (hk _ _ _)⟩

end Go.Proofs.YtmohnddglmolgaaGreatDoor
