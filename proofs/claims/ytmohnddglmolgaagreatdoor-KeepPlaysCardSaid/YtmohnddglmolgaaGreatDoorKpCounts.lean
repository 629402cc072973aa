/- Law: KeepCounts (5). Printed by gen_kpcounts.py. -/
import Derived.Test.YtmohnddglmolgaaGreatDoorKpDoA
import Derived.Test.YtmohnddglmolgaaGreatDoorKpSane
namespace Go.Proofs.YtmohnddglmolgaaGreatDoor
open Go Go.RowKit Go.Lin Go.Lin.Kp

/-- A slice of deeds. -/
def IsDeeds (w : World) (v : Value) (ds : List (Int × Int)) : Prop := ∃ a cap, v = .slice a ds.length cap ∧ ds.length ≤ 9223372036854775807 ∧ ∀ i x, ds[i]? = some x → ∃ b off, a = some ⟨b, off, none⟩ ∧ b < w.heap.size ∧
  w.cell? ⟨b, off + i * 2, none⟩ = some (.int .i64 x.1) ∧ w.cell? ⟨b, off + (i * 2 + 1), none⟩ = some (.int .i64 x.2)

theorem block_new (w : World) (c : Array Value) (t : TypeId) : ∃ W0, w.alloc (.cells c t) = W0 ∧ Grew w W0 ∧ W0.heap[w.heap.size]? = some (.cells c t (0, 0)) ∧ W0.heap.size = w.heap.size + 1 :=
  ⟨_, rfl, grew_alloc (grew_refl w) _, heap_alloc_new w _, by simp⟩

/-- What holds in the law's loops: a block that came first, a memory and a book in new blocks. -/
structure LawAt (w wr : World) (nb bm bb : Nat) (o : Obj) (M : Mem) (b : Bk) (F G : Nat → Prop) : Prop where
  grew : Grew w wr
  mb : MBk wr bm bb M b F G
  obj : wr.heap[nb]? = some o
  low : w.heap.size ≤ nb
  F : ∀ k, F k → w.heap.size ≤ k ∧ k ≠ nb
  G : ∀ k, G k → w.heap.size ≤ k ∧ k ≠ nb
  live : Live M b

theorem LawAt.grown {w wr w' : World} {nb bm bb : Nat} {o : Obj} {M : Mem} {b : Bk} {F G : Nat → Prop} (h : LawAt w wr nb bm bb o M b F G) (hg : Grew wr w') : LawAt w w' nb bm bb o M b F G :=
  ⟨grew_trans h.grew hg, h.mb.grew hg, (hg.block _ (lt_of_obj h.obj)).trans h.obj, h.low, h.F, h.G, h.live⟩

theorem LawAt.did {w wr w' : World} {nb bm bb : Nat} {o : Obj} {M M' : Mem} {b b' : Bk} {F G G' : Nat → Prop} (h : LawAt w wr nb bm bb o M b F G) (hm : MBk w' bm bb M' b' F G') (hG : Wider wr G G') (hk : Keeps (fun k _ => F k ∨ G k) wr w') (hl : Live M' b') : LawAt w w' nb bm bb o M' b' F G' := by
  have hn := lt_of_obj h.obj
  have hz := h.grew.size
  refine ⟨grew_b h.grew (hk.below hz (fun k _ e => e.elim (fun e => (h.F k e).1) (fun e => (h.G k e).1))), hm, hk.obj _ _ h.obj (fun e => e.elim (fun e => (h.F _ e).2 rfl) (fun e => (h.G _ e).2 rfl)), h.low, h.F, fun k e => ?_, hl⟩
  rcases hG k e with e | e
  · exact h.G k e
  · exact ⟨by omega, by omega⟩

theorem LawAt.wrote {w wr w' : World} {nb bm bb : Nat} {o : Obj} {M M' : Mem} {b : Bk} {F G : Nat → Prop} (h : LawAt w wr nb bm bb o M b F G) (hm : IsMem w' bm M' F) (hk : Keeps (InF F) wr w') (hl : Live M' b) : LawAt w w' nb bm bb o M' b F G :=
  h.did ⟨hm, h.mb.book.keeps hk (fun k _ hG hF => h.mb.disj k hF hG), h.mb.disj⟩ (fun _ e => .inl e) (hk.mono (fun _ _ e => .inl e)) hl

/-- Another block of ours is written. -/
theorem LawAt.set {w wr : World} {nb bm bb : Nat} {o : Obj} {M : Mem} {b : Bk} {F G : Nat → Prop} (h : LawAt w wr nb bm bb o M b F G) {lb : Nat} (i : Nat) (v : Value) (hF : ¬ F lb) (hG : ¬ G lb) (hn : lb ≠ nb) (hl : w.heap.size ≤ lb) : LawAt w (wr.setCell ⟨lb, i, none⟩ v) nb bm bb o M b F G := by
  have hk : Keeps (fun k _ => k = lb) wr (wr.setCell ⟨lb, i, none⟩ v) := keeps_set1 _ _ (fun _ => rfl)
  refine ⟨grew_b h.grew (hk.below h.grew.size (fun k _ e => by rw [e]; exact hl)), ⟨h.mb.mem.keeps hk (fun k _ e e2 => hF (e2 ▸ e)), h.mb.book.keeps hk (fun k _ e e2 => hG (e2 ▸ e)), h.mb.disj⟩, hk.obj _ _ h.obj (fun e => hn e.symm), h.low, h.F, h.G, h.live⟩

set_option maxHeartbeats 4000000 in
set_option maxRecDepth 20000 in
theorem counts5_any (v : Value) (ds : List (Int × Int)) (x0 x1 x2 : Int) (w : World) (hv : IsDeeds w v ds) (h0 : 0 ≤ x0 ∧ x0 ≤ 65535) (h1 : 0 ≤ x1 ∧ x1 ≤ 65535) (h2 : 0 ≤ x2 ∧ x2 ≤ 65535) (hL : Lay w) :
    Calls Tryz.prog 5 #[v, .agg #[.int .u16 x0, .int .u16 x1, .int .u16 x2]] w fun e w' => e = .returned (.bool true) ∧ Grew w w' := by
  obtain ⟨a, cap, rfl, hm, hc⟩ := hv
  have HC := hid hc; have HLA := hid hL
  clear hc hL
  have HSANE := hid (fun (W : World) (h : Grew w W) => sane12_any W (HLA.out.grew h))
  obtain ⟨n, hnn⟩ : ∃ n, ds.length = n := ⟨_, rfl⟩
  rw [hnn] at hm ⊢
  have HN := hid hnn
  clear hnn
  obtain ⟨w0, hw0, g1, ho0, hz1⟩ := block_new w #[.int .u16 x0, .int .u16 x1, .int .u16 x2] 54
  have HO0 := hid ho0; have HZ1 := hid hz1
  clear ho0 hz1
  have HG1 := hid g1
  clear g1
  by_cases hn40 : 40 < n
  · have h40 : decide (40 < (n : Int)) = true := by simp; omega
    clear hn40
    go_enter Tryz.func5, Tryz.ntmps5
    go_wp2_with (go_at_call 12; (with_reducible refine (HSANE.out _ HG1.out).mono ?_); rintro e w1 ⟨rfl, hg⟩; have HG2 := hid hg; clear hg)
    go_ret
    exact ⟨rfl, grew_trans HG1.out HG2.out⟩
  have h40 : decide (40 < (n : Int)) = false := by simp; omega
  have HNEW := hid (fun W => new17_any W)
  have HOPN := hid (fun (W : World) (bm : Nat) (F : Nat → Prop) (h : IsMem W bm Mem.new F) => (by have := opened18_any bm Mem.new F W h Ok.new (by decide); rw [live_new.1] at this; exact this : Calls Tryz.prog 18 #[ptr bm] W (TryLeft W bm F (some ⟨0, 1, []⟩, { Mem.new with opened := 1 }))))
  have HST := hid (fun (W : World) (bm : Nat) (M : Mem) (F : Nat → Prop) (h : IsMem W bm M F) => steps27_mem bm M F W h)
  have hn41 : n ≤ 40 := by omega
  clear hn40
  go_enter Tryz.func5, Tryz.ntmps5
  go_wp2_with (first
    | (go_at_call 17; (with_reducible refine (HNEW.out _).mono ?_); rintro e w1 ⟨rfl, hm1, hg1⟩; have HM1 := hid hm1; have HG2 := hid hg1; clear hm1 hg1)
    | (go_at_call 18; (with_reducible refine (HOPN.out _ _ _ HM1.out).mono ?_); rintro e w2 ⟨hm2, hk2, bb, G, rfl, hb2, hG2⟩; have HM2 := hid hm2; have HK2 := hid hk2; have HB2 := hid hb2; have HGL := hid hG2; clear hm2 hk2 hb2 hG2)
    | (go_at_call 27; (with_reducible refine (HST.out _ _ _ _ HM2.out).mono ?_); rintro e w3 ⟨rfl, rfl⟩; simp only [Mem.new]))
  have hP0 : LawAt w w2 w.heap.size (w0.heap.size + 1) bb (.cells #[.int .u16 x0, .int .u16 x1, .int .u16 x2] 54 (0, 0)) { Mem.new with opened := 1 } ⟨0, 1, []⟩ (fun k => k = w0.heap.size ∨ k = w0.heap.size + 1) G := by
    have hz := HZ1.out
    have h1s := HG2.out.size
    have hk := HK2.out
    have hm1 := HM1.out.lt
    have hg2 : Grew w w2 := grew_b (grew_trans HG1.out HG2.out) (hk.below (grew_trans HG1.out HG2.out).size (fun k _ e => by rcases e with rfl | rfl <;> omega))
    refine ⟨hg2, ⟨HM2.out, HB2.out, ?_⟩, ?_, Nat.le_refl _, ?_, ?_, live_new.2⟩
    · rintro k (e | e) hG <;> (have := HGL.out k hG; omega)
    · exact hk.obj _ _ ((HG2.out.block _ (by omega)).trans HO0.out) (fun e => by rcases e with e | e <;> omega)
    · rintro k (e | e) <;> exact ⟨by omega, by omega⟩
    · intro k e; have := HGL.out k e; exact ⟨by omega, by omega⟩
  have HP0 := hid hP0
  obtain ⟨F, hF⟩ : ∃ F : Nat → Prop, (fun k => k = w0.heap.size ∨ k = w0.heap.size + 1) = F := ⟨_, rfl⟩
  obtain ⟨bm, hbm⟩ : ∃ x, w0.heap.size + 1 = x := ⟨_, rfl⟩
  obtain ⟨nb, hnb⟩ : ∃ x, w.heap.size = x := ⟨_, rfl⟩
  rw [hF, hbm, hnb] at HP0
  rw [hbm, hnb]
  clear hP0 hbm hF HM1 HM2 HK2 HB2 HGL HG2 HO0 HZ1 HNEW HOPN
  obtain ⟨ob, hob⟩ : ∃ o : Obj, (.cells #[.int .u16 x0, .int .u16 x1, .int .u16 x2] 54 (0, 0)) = o := ⟨_, rfl⟩
  rw [hob] at HP0
  have HOB := hid hob
  clear hob
  go_loopg [7, 8, 9, 10] n (fun gk iv _ _ _ wr => ∃ (j : Nat) (M : Mem) (b : Bk) (G : Nat → Prop), j ≤ n ∧ iv = .int .i64 (j : Int) ∧ Hid (gk = n - j) ∧ Hid (M.size ≤ 1 + 14 * j) ∧ Hid (LawAt w wr nb bm bb ob M b F G))
  case atStart => exact ⟨0, _, _, G, Nat.zero_le _, rfl, hid rfl, hid (by decide), HP0⟩
  case round =>
    obtain ⟨j, M, b, G, hj, rfl, HGK, HSZ, HP⟩ := hrel
    rename World => wr
    by_cases hlt : j < n
    · have hjl : j < ds.length := by rw [HN.out]; exact hlt
      obtain ⟨⟨k, m⟩, hx⟩ : ∃ x, ds[j] = x := ⟨_, rfl⟩
      obtain ⟨b1, off, rfl, hbl, hc0, hc1⟩ := HC.out j (k, m) (by rw [List.getElem?_eq_getElem hjl, hx])
      have d0 := (HP.out.grew.cell (p := ⟨b1, off + j * 2, none⟩) hbl).trans hc0
      have d1 := (HP.out.grew.cell (p := ⟨b1, off + j * 2 + 1, none⟩) hbl).trans hc1
      simp only at d0 d1
      have HD0 := hid hc0
      have hlv := live_doD HP.out.live k m
      have hsz := size_doD M b k m
      have HDO := hid (do23_any bm bb M b F G k m wr HP.out.mb HP.out.live.ok HP.out.live.bk (by have := HSZ.out; omega))
      have HS1 := hid (HST.out wr bm M F HP.out.mb.mem)
      obtain ⟨⟨er, b', M'⟩, hr⟩ : ∃ x, doD M b k m = x := ⟨_, rfl⟩
      rw [hr] at hlv hsz HDO
      obtain ⟨hlv, hst⟩ := hlv
      simp only at hlv hst hsz
      have hms : M.steps ≤ M.size := by unfold Mem.size; omega
      obtain ⟨x, hx'⟩ : ∃ x : Int, (M.steps : Int) = x := ⟨_, rfl⟩
      obtain ⟨y, hy'⟩ : ∃ y : Int, (M'.steps : Int) = y := ⟨_, rfl⟩
      have hxb : 0 ≤ x ∧ x ≤ 1000000 := by have := HSZ.out; omega
      have HLV := hid hlv; have HSZ2 := hid hsz
      have hrd : ∀ W', (e : LawAt w W' nb bm bb ob M' b' F G → True) → True := fun _ _ => trivial
      clear hrd
      rw [hx'] at HS1
      have HY := hid hy'
      clear hr hx hbl hc0 hc1 hlv hsz
      by_cases h0 : er = 0
      · subst h0
        rw [if_pos rfl] at hst
        by_cases hk : k = 0
        · subst hk
          rw [if_pos rfl] at hst
          have hyx : (y - x != 6) = false := by rw [bne_eq_false_iff_eq]; omega
          have hyb : 0 ≤ y ∧ y ≤ 1000014 := by omega
          clear hst hms hx' hy'
          go_wp2_with (first
            | (go_at_call 27; (with_reducible refine HS1.out.mono ?_); rintro e w3 ⟨rfl, rfl⟩)
            | (go_at_call 23; (with_reducible refine HDO.out.mono ?_); rintro e w4 ⟨rfl, ⟨G', hm4, hG4⟩, hk4⟩; have hp4 := HP.out.did hm4 hG4 hk4 HLV.out; have HP4 := hid hp4; have f0 := (hp4.grew.cell (p := ⟨b1, off + j * 2, none⟩) (World.block_lt_of_cell? _ _ HD0.out)).trans HD0.out; have HS2 := HST.out w4 bm M' F hm4.mem; rw [HY.out] at HS2; have HS2 := hid HS2; clear hm4 hG4 hk4 hp4)
            | (go_at_call 27; (with_reducible refine HS2.out.mono ?_); rintro e w5 ⟨rfl, rfl⟩))
          go_roundg (n - (j + 1))
          case measure => have := HGK.out; omega
          case rel => exact ⟨j + 1, M', b', G', by omega, by go_num, hid rfl, hid (by have := HSZ.out; have := HSZ2.out; omega), HP4⟩
        · rw [if_neg hk] at hst
          have ek : (k == 0) = false := by rw [beq_eq_false_iff_ne]; exact hk
          have hyx : (y - x != 14) = false := by rw [bne_eq_false_iff_eq]; omega
          have hyb : 0 ≤ y ∧ y ≤ 1000014 := by omega
          clear hst hms hx' hy' hk
          go_wp2_with (first
            | (go_at_call 27; (with_reducible refine HS1.out.mono ?_); rintro e w3 ⟨rfl, rfl⟩)
            | (go_at_call 23; (with_reducible refine HDO.out.mono ?_); rintro e w4 ⟨rfl, ⟨G', hm4, hG4⟩, hk4⟩; have hp4 := HP.out.did hm4 hG4 hk4 HLV.out; have HP4 := hid hp4; have f0 := (hp4.grew.cell (p := ⟨b1, off + j * 2, none⟩) (World.block_lt_of_cell? _ _ HD0.out)).trans HD0.out; have HS2 := HST.out w4 bm M' F hm4.mem; rw [HY.out] at HS2; have HS2 := hid HS2; clear hm4 hG4 hk4 hp4)
            | (go_at_call 27; (with_reducible refine HS2.out.mono ?_); rintro e w5 ⟨rfl, rfl⟩))
          go_roundg (n - (j + 1))
          case measure => have := HGK.out; omega
          case rel => exact ⟨j + 1, M', b', G', by omega, by go_num, hid rfl, hid (by have := HSZ.out; have := HSZ2.out; omega), HP4⟩
      · rw [if_neg h0] at hst
        have e0 : (er == 0) = false := by rw [beq_eq_false_iff_ne]; exact h0
        have hyx : (y - x != 0) = false := by rw [bne_eq_false_iff_eq]; omega
        have hyb : 0 ≤ y ∧ y ≤ 1000014 := by omega
        clear hst hms hx' hy' h0
        go_wp2_with (first
          | (go_at_call 27; (with_reducible refine HS1.out.mono ?_); rintro e w3 ⟨rfl, rfl⟩)
          | (go_at_call 23; (with_reducible refine HDO.out.mono ?_); rintro e w4 ⟨rfl, ⟨G', hm4, hG4⟩, hk4⟩; have hp4 := HP.out.did hm4 hG4 hk4 HLV.out; have HP4 := hid hp4; have f0 := (hp4.grew.cell (p := ⟨b1, off + j * 2, none⟩) (World.block_lt_of_cell? _ _ HD0.out)).trans HD0.out; have HS2 := HST.out w4 bm M' F hm4.mem; rw [HY.out] at HS2; have HS2 := hid HS2; clear hm4 hG4 hk4 hp4)
          | (go_at_call 27; (with_reducible refine HS2.out.mono ?_); rintro e w5 ⟨rfl, rfl⟩))
        go_roundg (n - (j + 1))
        case measure => have := HGK.out; omega
        case rel => exact ⟨j + 1, M', b', G', by omega, by go_num, hid rfl, hid (by have := HSZ.out; have := HSZ2.out; omega), HP4⟩
    · obtain rfl : j = n := by omega
      have hnl := HP.out.live.bk.1
      have hml := HSZ.out
      have HEN := hid (entries19_any bb bm b G wr HP.out.mb.book (by omega))
      obtain ⟨y0, hy0⟩ : ∃ y, x0.tmod 1000 = y := ⟨_, rfl⟩
      obtain ⟨y1, hy1⟩ : ∃ y, x1.tmod 1000 = y := ⟨_, rfl⟩
      obtain ⟨y2, hy2⟩ : ∃ y, x2.tmod 1000 = y := ⟨_, rfl⟩
      have hb0 : 0 ≤ y0 ∧ y0 ≤ 999 := by rw [← hy0, Int.tmod_eq_emod_of_nonneg h0.1]; omega
      have hb1 : 0 ≤ y1 ∧ y1 ≤ 999 := by rw [← hy1, Int.tmod_eq_emod_of_nonneg h1.1]; omega
      have hb2 : 0 ≤ y2 ∧ y2 ≤ 999 := by rw [← hy2, Int.tmod_eq_emod_of_nonneg h2.1]; omega
      obtain ⟨nE, hnE⟩ : ∃ n, b.list.length = n := ⟨_, rfl⟩
      rw [hnE] at HEN hnl
      have HNE := hid hnE
      clear hnE
      go_wp2_with (go_at_call 19; (with_reducible refine HEN.out.mono ?_); rintro e w5 ⟨u, rfl, hsu, hg5⟩; obtain ⟨ua, uc, rfl, _⟩ := hsu.shape; have HP5 := hid (HP.out.grown hg5); clear hsu hg5)
      have hpl := HP5.out.grown (grew_alloc (grew_refl w5) (.cells #[.int .i64 0, .int .i64 0, .int .i64 0] 56))
      have hlF : ¬ F w5.heap.size := fun e => by have := HP5.out.mb.mem.ltF _ e; omega
      have hlG : ¬ G w5.heap.size := fun e => by obtain ⟨_, hb⟩ := HP5.out.mb.book; have := hb.lt _ e; omega
      have hln : w5.heap.size ≠ nb := fun e => by have := lt_of_obj HP5.out.obj; omega
      have hlw : w.heap.size ≤ w5.heap.size := HP5.out.grew.size
      have hlo := heap_alloc_new w5 (.cells #[.int .i64 0, .int .i64 0, .int .i64 0] 56)
      obtain ⟨lb, hlb⟩ : ∃ x, w5.heap.size = x := ⟨_, rfl⟩
      obtain ⟨w6, hw6⟩ : ∃ x, w5.alloc (.cells #[.int .i64 0, .int .i64 0, .int .i64 0] 56) = x := ⟨_, rfl⟩
      rw [hlb] at hlF hlG hln hlw hlo
      rw [hw6] at hpl hlo
      rw [hlb, hw6]
      have HPL := hid hpl; have HLO := hid hlo; have HLF := hid hlF; have HLG := hid hlG; have HLN := hid hln; have HLW := hid hlw
      clear hpl hlo hlF hlG hln hlw hlb hw6 HEN
      go_loopg [13] 3 (fun gk iv wq => ∃ (i : Nat) (M2 : Mem), i ≤ 3 ∧ iv = .int .i64 (i : Int) ∧ Hid (gk = 3 - i) ∧ Hid (M2.size ≤ M.size + i) ∧ Hid ((1 ≤ i → M2.fresh 40 = y0) ∧ (2 ≤ i → M2.fresh 41 = y1)) ∧ Hid (LawAt w wq nb bm bb ob M2 b F G) ∧ Hid (wq.heap[lb]? = some (.cells #[.int .i64 (if 1 ≤ i then y0 else 0), .int .i64 (if 2 ≤ i then y1 else 0), .int .i64 (if 3 ≤ i then y2 else 0)] 56 (0, 0))))
      case atStart => exact ⟨0, M, by omega, rfl, hid rfl, hid (Nat.le_refl _), hid ⟨fun h => by omega, fun h => by omega⟩, HPL, HLO⟩
      case round =>
        obtain ⟨i, M2, hi, rfl, HGK2, HZ2, HF2, HP2, HL2⟩ := hrel
        rename World => wq
        have hw3 := HP2.out.obj
        rw [← HOB.out] at hw3
        have hl3 := HL2.out
        have c0 := cell_of_row wq nb 0 _ _ _ hw3
        have c1 := cell_of_row wq nb 1 _ _ _ hw3
        have c2 := cell_of_row wq nb 2 _ _ _ hw3
        rcases (show i = 0 ∨ i = 1 ∨ i = 2 ∨ i = 3 by omega) with rfl | rfl | rfl | rfl
        · have hl4 : wq.heap[lb]? = some (.cells #[.int .i64 0, .int .i64 0, .int .i64 0] 56 (0, 0)) := hl3
          have HL4 := hid hl4
          have l0 := cell_of_row wq lb 0 _ _ _ hl4
          have l1 := cell_of_row wq lb 1 _ _ _ hl4
          have l2 := cell_of_row wq lb 2 _ _ _ hl4
          have lf := frozen_of_row wq lb 0 _ _ hl4
          simp only [List.getElem?_toArray, List.getElem?_cons_zero, List.getElem?_cons_succ] at c0 c1 c2 l0 l1 l2
          have hp3 := HP2.out.set 0 (.int .i64 y0) HLF.out HLG.out HLN.out HLW.out
          obtain ⟨hw0, hlive, hfr⟩ := live_write HP2.out.live (c := 40) (n := y0) (by omega) (isNum_iff.2 hb0)
          have hsz := size_write M2 40 y0
          have HWR := hid (write28_any bm M2 F 40 y0 (wq.setCell ⟨lb, 0, none⟩ (.int .i64 y0)) hp3.mb.mem hp3.live.ok (by have := HZ2.out; omega))
          have hl5 : (wq.setCell ⟨lb, 0, none⟩ (.int .i64 y0)).heap[lb]? = some (.cells #[.int .i64 y0, .int .i64 0, .int .i64 0] 56 (0, 0)) := by
            rw [heap_setCell_same wq lb 0 _ _ _ HL4.out]; rfl
          have HL5 := hid hl5
          obtain ⟨⟨er, M3⟩, hr⟩ : ∃ x, M2.write 40 y0 = x := ⟨_, rfl⟩
          rw [hr] at hw0 hlive hfr hsz HWR
          simp only at hw0 hlive hfr hsz
          subst hw0
          have HP3 := hid hp3; have HLI := hid hlive; have HFR := hid hfr; have HS3 := hid hsz
          clear hp3 hr hlive hfr hsz hl3 hl4 hl5 hw3
          go_wp2_with (go_at_call 28; (with_reducible refine HWR.out.mono ?_); rintro e w7 ⟨rfl, hm7, hk7⟩; have HP7 := hid (HP3.out.wrote hm7 hk7 HLI.out); have HL7 := hid (hk7.obj _ _ HL5.out HLF.out); clear hm7 hk7)
          have hfr := HFR.out
          go_roundg (3 - (0 + 1))
          case measure => have := HGK2.out; omega
          case rel => exact ⟨1, M3, by omega, by go_num, hid rfl, hid (by have := HZ2.out; have := HS3.out; omega), hid ⟨fun _ => by rw [hfr]; simp, fun h => by omega⟩, HP7, HL7⟩
        · have hl4 : wq.heap[lb]? = some (.cells #[.int .i64 y0, .int .i64 0, .int .i64 0] 56 (0, 0)) := hl3
          have HL4 := hid hl4
          have l0 := cell_of_row wq lb 0 _ _ _ hl4
          have l1 := cell_of_row wq lb 1 _ _ _ hl4
          have l2 := cell_of_row wq lb 2 _ _ _ hl4
          have lf := frozen_of_row wq lb 1 _ _ hl4
          simp only [List.getElem?_toArray, List.getElem?_cons_zero, List.getElem?_cons_succ] at c0 c1 c2 l0 l1 l2
          have hp3 := HP2.out.set 1 (.int .i64 y1) HLF.out HLG.out HLN.out HLW.out
          obtain ⟨hw0, hlive, hfr⟩ := live_write HP2.out.live (c := 41) (n := y1) (by omega) (isNum_iff.2 hb1)
          have hsz := size_write M2 41 y1
          have HWR := hid (write28_any bm M2 F 41 y1 (wq.setCell ⟨lb, 1, none⟩ (.int .i64 y1)) hp3.mb.mem hp3.live.ok (by have := HZ2.out; omega))
          have hl5 : (wq.setCell ⟨lb, 1, none⟩ (.int .i64 y1)).heap[lb]? = some (.cells #[.int .i64 y0, .int .i64 y1, .int .i64 0] 56 (0, 0)) := by
            rw [heap_setCell_same wq lb 1 _ _ _ HL4.out]; rfl
          have HL5 := hid hl5
          obtain ⟨⟨er, M3⟩, hr⟩ : ∃ x, M2.write 41 y1 = x := ⟨_, rfl⟩
          rw [hr] at hw0 hlive hfr hsz HWR
          simp only at hw0 hlive hfr hsz
          subst hw0
          have HP3 := hid hp3; have HLI := hid hlive; have HFR := hid hfr; have HS3 := hid hsz
          clear hp3 hr hlive hfr hsz hl3 hl4 hl5 hw3
          go_wp2_with (go_at_call 28; (with_reducible refine HWR.out.mono ?_); rintro e w7 ⟨rfl, hm7, hk7⟩; have HP7 := hid (HP3.out.wrote hm7 hk7 HLI.out); have HL7 := hid (hk7.obj _ _ HL5.out HLF.out); clear hm7 hk7)
          have hfr := HFR.out
          go_roundg (3 - (1 + 1))
          case measure => have := HGK2.out; omega
          case rel => exact ⟨2, M3, by omega, by go_num, hid rfl, hid (by have := HZ2.out; have := HS3.out; omega), hid ⟨fun _ => by rw [hfr, upd_other _ _ (by decide)]; exact HF2.out.1 (by omega), fun _ => by rw [hfr]; simp⟩, HP7, HL7⟩
        · have hl4 : wq.heap[lb]? = some (.cells #[.int .i64 y0, .int .i64 y1, .int .i64 0] 56 (0, 0)) := hl3
          have HL4 := hid hl4
          have l0 := cell_of_row wq lb 0 _ _ _ hl4
          have l1 := cell_of_row wq lb 1 _ _ _ hl4
          have l2 := cell_of_row wq lb 2 _ _ _ hl4
          have lf := frozen_of_row wq lb 2 _ _ hl4
          simp only [List.getElem?_toArray, List.getElem?_cons_zero, List.getElem?_cons_succ] at c0 c1 c2 l0 l1 l2
          have hp3 := HP2.out.set 2 (.int .i64 y2) HLF.out HLG.out HLN.out HLW.out
          obtain ⟨hw0, hlive, hfr⟩ := live_write HP2.out.live (c := 42) (n := y2) (by omega) (isNum_iff.2 hb2)
          have hsz := size_write M2 42 y2
          have HWR := hid (write28_any bm M2 F 42 y2 (wq.setCell ⟨lb, 2, none⟩ (.int .i64 y2)) hp3.mb.mem hp3.live.ok (by have := HZ2.out; omega))
          have hl5 : (wq.setCell ⟨lb, 2, none⟩ (.int .i64 y2)).heap[lb]? = some (.cells #[.int .i64 y0, .int .i64 y1, .int .i64 y2] 56 (0, 0)) := by
            rw [heap_setCell_same wq lb 2 _ _ _ HL4.out]; rfl
          have HL5 := hid hl5
          obtain ⟨⟨er, M3⟩, hr⟩ : ∃ x, M2.write 42 y2 = x := ⟨_, rfl⟩
          rw [hr] at hw0 hlive hfr hsz HWR
          simp only at hw0 hlive hfr hsz
          subst hw0
          have HP3 := hid hp3; have HLI := hid hlive; have HFR := hid hfr; have HS3 := hid hsz
          clear hp3 hr hlive hfr hsz hl3 hl4 hl5 hw3
          go_wp2_with (go_at_call 28; (with_reducible refine HWR.out.mono ?_); rintro e w7 ⟨rfl, hm7, hk7⟩; have HP7 := hid (HP3.out.wrote hm7 hk7 HLI.out); have HL7 := hid (hk7.obj _ _ HL5.out HLF.out); clear hm7 hk7)
          have hfr := HFR.out
          go_roundg (3 - (2 + 1))
          case measure => have := HGK2.out; omega
          case rel => exact ⟨3, M3, by omega, by go_num, hid rfl, hid (by have := HZ2.out; have := HS3.out; omega), hid ⟨fun _ => by rw [hfr, upd_other _ _ (by decide)]; exact HF2.out.1 (by omega), fun _ => by rw [hfr, upd_other _ _ (by decide)]; exact HF2.out.2 (by omega)⟩, HP7, HL7⟩
        · have hl4 : wq.heap[lb]? = some (.cells #[.int .i64 y0, .int .i64 y1, .int .i64 y2] 56 (0, 0)) := hl3
          have HL4 := hid hl4
          obtain ⟨b', M', hto, hlv, hbl, hst⟩ := live_open HP2.out.live
          have hop := opened18_any bm M2 F wq HP2.out.mb.mem HP2.out.live.ok (by have := HZ2.out; omega)
          rw [hto] at hop
          have HOP := hid hop
          have HS1 := hid (HST.out wq bm M2 F HP2.out.mb.mem)
          have hms : M2.steps ≤ 1000000 := by have := HZ2.out; unfold Mem.size at *; omega
          obtain ⟨xs, hxs⟩ : ∃ x : Int, (M2.steps : Int) = x := ⟨_, rfl⟩
          obtain ⟨ys, hys⟩ : ∃ y : Int, (M'.steps : Int) = y := ⟨_, rfl⟩
          have hxb : 0 ≤ xs ∧ xs ≤ 1000000 := by omega
          rw [hxs] at HS1
          have HYS := hid hys
          rw [HNE.out] at hbl hst
          have HBL := hid hbl; have HLV := hid hlv
          have hf40 := HF2.out.1 (by omega)
          have hf41 := HF2.out.2 (by omega)
          unfold wantOpen at hst
          rw [hf40, hf41] at hst
          clear hop hto hl3 hl4 hbl hlv hw3 hf40 hf41 c0 c1 c2
          by_cases q0 : y0 = 0
          · rw [if_pos q0] at hst
            have e0 : (y0 != 0) = false := by rw [bne_eq_false_iff_eq]; exact q0
            have e1 : (y0 == 1) = false := by rw [beq_eq_false_iff_ne]; omega
            have hyx : (ys - xs == 0) = true := by rw [beq_iff_eq]; omega
            have hyb : 0 ≤ ys ∧ ys ≤ 1000014 := by omega
            clear hst hms hxs hys
            have l0 := cell_of_row wq lb 0 _ _ _ HL4.out
            have l1 := cell_of_row wq lb 1 _ _ _ HL4.out
            go_wp2_with (first
              | (go_at_call 27; (with_reducible refine HS1.out.mono ?_); rintro e w8 ⟨rfl, rfl⟩)
              | (go_at_call 18; (with_reducible refine HOP.out.mono ?_); rintro e w9 ⟨hm9, hk9, bb9, G9, rfl, hb9, _⟩; have hl9 := hk9.obj _ _ HL4.out HLF.out; have m0 := cell_of_row w9 lb 0 _ _ _ hl9; have m1 := cell_of_row w9 lb 1 _ _ _ hl9; simp only [List.getElem?_toArray, List.getElem?_cons_zero, List.getElem?_cons_succ] at m0 m1; have HM9 := hid hm9; have hs9 := HST.out w9 bm M' F hm9; rw [HYS.out] at hs9; have HS9 := hid hs9; have he9 := entries19_any bb9 bm b' G9 w9 hb9 (by rw [HBL.out]; omega); rw [HBL.out] at he9; have HE9 := hid he9; have HG9 := hid (grew_b HP2.out.grew (hk9.below HP2.out.grew.size (fun k _ e => (HP2.out.F k e).1))); clear hm9 hk9 hb9 hl9 hs9 he9)
              | (go_at_call 27; (with_reducible refine HS9.out.mono ?_); rintro e w10 ⟨rfl, rfl⟩)
              | (go_at_call 19; (with_reducible refine HE9.out.mono ?_); rintro e w11 ⟨u9, rfl, hsu9, hg11⟩; obtain ⟨ua9, uc9, rfl, _⟩ := hsu9.shape; have HG11 := hid (grew_trans HG9.out hg11); clear hsu9 hg11)
              | (go_at_call 12; (with_reducible refine (HSANE.out _ HG11.out).mono ?_); rintro e w12 ⟨rfl, hg12⟩; have HG12 := hid hg12; clear hg12))
            go_ret
            exact ⟨rfl, grew_trans HG11.out HG12.out⟩
          · rw [if_neg q0] at hst
            have e0 : (y0 != 0) = true := by rw [bne_iff_ne]; exact q0
            by_cases q1 : y0 = 1
            · have e1 : (y0 == 1) = true := by rw [beq_iff_eq]; exact q1
              by_cases q2 : 1 ≤ y1
              · have e2 : decide (1 ≤ y1) = true := decide_eq_true q2
                by_cases q3 : y1 ≤ nE
                · rw [if_pos ⟨q1, q2, q3⟩] at hst
                  have e3 : decide (y1 ≤ (nE : Int)) = true := decide_eq_true q3
                  have hyx : (ys - xs == 6) = true := by rw [beq_iff_eq]; omega
                  have hyb : 0 ≤ ys ∧ ys ≤ 1000014 := by omega
                  clear hst hms hxs hys
                  have l0 := cell_of_row wq lb 0 _ _ _ HL4.out
                  have l1 := cell_of_row wq lb 1 _ _ _ HL4.out
                  go_wp2_with (first
                    | (go_at_call 27; (with_reducible refine HS1.out.mono ?_); rintro e w8 ⟨rfl, rfl⟩)
                    | (go_at_call 18; (with_reducible refine HOP.out.mono ?_); rintro e w9 ⟨hm9, hk9, bb9, G9, rfl, hb9, _⟩; have hl9 := hk9.obj _ _ HL4.out HLF.out; have m0 := cell_of_row w9 lb 0 _ _ _ hl9; have m1 := cell_of_row w9 lb 1 _ _ _ hl9; simp only [List.getElem?_toArray, List.getElem?_cons_zero, List.getElem?_cons_succ] at m0 m1; have HM9 := hid hm9; have hs9 := HST.out w9 bm M' F hm9; rw [HYS.out] at hs9; have HS9 := hid hs9; have he9 := entries19_any bb9 bm b' G9 w9 hb9 (by rw [HBL.out]; omega); rw [HBL.out] at he9; have HE9 := hid he9; have HG9 := hid (grew_b HP2.out.grew (hk9.below HP2.out.grew.size (fun k _ e => (HP2.out.F k e).1))); clear hm9 hk9 hb9 hl9 hs9 he9)
                    | (go_at_call 27; (with_reducible refine HS9.out.mono ?_); rintro e w10 ⟨rfl, rfl⟩)
                    | (go_at_call 19; (with_reducible refine HE9.out.mono ?_); rintro e w11 ⟨u9, rfl, hsu9, hg11⟩; obtain ⟨ua9, uc9, rfl, _⟩ := hsu9.shape; have HG11 := hid (grew_trans HG9.out hg11); clear hsu9 hg11)
                    | (go_at_call 12; (with_reducible refine (HSANE.out _ HG11.out).mono ?_); rintro e w12 ⟨rfl, hg12⟩; have HG12 := hid hg12; clear hg12))
                  go_ret
                  exact ⟨rfl, grew_trans HG11.out HG12.out⟩
                · rw [if_neg (fun h => q3 h.2.2)] at hst
                  have e3 : decide (y1 ≤ (nE : Int)) = false := decide_eq_false q3
                  have hyx : (ys - xs == 3) = true := by rw [beq_iff_eq]; omega
                  have hyb : 0 ≤ ys ∧ ys ≤ 1000014 := by omega
                  clear hst hms hxs hys
                  have l0 := cell_of_row wq lb 0 _ _ _ HL4.out
                  have l1 := cell_of_row wq lb 1 _ _ _ HL4.out
                  go_wp2_with (first
                    | (go_at_call 27; (with_reducible refine HS1.out.mono ?_); rintro e w8 ⟨rfl, rfl⟩)
                    | (go_at_call 18; (with_reducible refine HOP.out.mono ?_); rintro e w9 ⟨hm9, hk9, bb9, G9, rfl, hb9, _⟩; have hl9 := hk9.obj _ _ HL4.out HLF.out; have m0 := cell_of_row w9 lb 0 _ _ _ hl9; have m1 := cell_of_row w9 lb 1 _ _ _ hl9; simp only [List.getElem?_toArray, List.getElem?_cons_zero, List.getElem?_cons_succ] at m0 m1; have HM9 := hid hm9; have hs9 := HST.out w9 bm M' F hm9; rw [HYS.out] at hs9; have HS9 := hid hs9; have he9 := entries19_any bb9 bm b' G9 w9 hb9 (by rw [HBL.out]; omega); rw [HBL.out] at he9; have HE9 := hid he9; have HG9 := hid (grew_b HP2.out.grew (hk9.below HP2.out.grew.size (fun k _ e => (HP2.out.F k e).1))); clear hm9 hk9 hb9 hl9 hs9 he9)
                    | (go_at_call 27; (with_reducible refine HS9.out.mono ?_); rintro e w10 ⟨rfl, rfl⟩)
                    | (go_at_call 19; (with_reducible refine HE9.out.mono ?_); rintro e w11 ⟨u9, rfl, hsu9, hg11⟩; obtain ⟨ua9, uc9, rfl, _⟩ := hsu9.shape; have HG11 := hid (grew_trans HG9.out hg11); clear hsu9 hg11)
                    | (go_at_call 12; (with_reducible refine (HSANE.out _ HG11.out).mono ?_); rintro e w12 ⟨rfl, hg12⟩; have HG12 := hid hg12; clear hg12))
                  go_ret
                  exact ⟨rfl, grew_trans HG11.out HG12.out⟩
              · rw [if_neg (fun h => q2 h.2.1)] at hst
                have e2 : decide (1 ≤ y1) = false := decide_eq_false q2
                have hyx : (ys - xs == 3) = true := by rw [beq_iff_eq]; omega
                have hyb : 0 ≤ ys ∧ ys ≤ 1000014 := by omega
                clear hst hms hxs hys
                have l0 := cell_of_row wq lb 0 _ _ _ HL4.out
                have l1 := cell_of_row wq lb 1 _ _ _ HL4.out
                go_wp2_with (first
                  | (go_at_call 27; (with_reducible refine HS1.out.mono ?_); rintro e w8 ⟨rfl, rfl⟩)
                  | (go_at_call 18; (with_reducible refine HOP.out.mono ?_); rintro e w9 ⟨hm9, hk9, bb9, G9, rfl, hb9, _⟩; have hl9 := hk9.obj _ _ HL4.out HLF.out; have m0 := cell_of_row w9 lb 0 _ _ _ hl9; have m1 := cell_of_row w9 lb 1 _ _ _ hl9; simp only [List.getElem?_toArray, List.getElem?_cons_zero, List.getElem?_cons_succ] at m0 m1; have HM9 := hid hm9; have hs9 := HST.out w9 bm M' F hm9; rw [HYS.out] at hs9; have HS9 := hid hs9; have he9 := entries19_any bb9 bm b' G9 w9 hb9 (by rw [HBL.out]; omega); rw [HBL.out] at he9; have HE9 := hid he9; have HG9 := hid (grew_b HP2.out.grew (hk9.below HP2.out.grew.size (fun k _ e => (HP2.out.F k e).1))); clear hm9 hk9 hb9 hl9 hs9 he9)
                  | (go_at_call 27; (with_reducible refine HS9.out.mono ?_); rintro e w10 ⟨rfl, rfl⟩)
                  | (go_at_call 19; (with_reducible refine HE9.out.mono ?_); rintro e w11 ⟨u9, rfl, hsu9, hg11⟩; obtain ⟨ua9, uc9, rfl, _⟩ := hsu9.shape; have HG11 := hid (grew_trans HG9.out hg11); clear hsu9 hg11)
                  | (go_at_call 12; (with_reducible refine (HSANE.out _ HG11.out).mono ?_); rintro e w12 ⟨rfl, hg12⟩; have HG12 := hid hg12; clear hg12))
                go_ret
                exact ⟨rfl, grew_trans HG11.out HG12.out⟩
            · rw [if_neg (fun h => q1 h.1)] at hst
              have e1 : (y0 == 1) = false := by rw [beq_eq_false_iff_ne]; exact q1
              have hyx : (ys - xs == 3) = true := by rw [beq_iff_eq]; omega
              have hyb : 0 ≤ ys ∧ ys ≤ 1000014 := by omega
              clear hst hms hxs hys
              have l0 := cell_of_row wq lb 0 _ _ _ HL4.out
              have l1 := cell_of_row wq lb 1 _ _ _ HL4.out
              go_wp2_with (first
                | (go_at_call 27; (with_reducible refine HS1.out.mono ?_); rintro e w8 ⟨rfl, rfl⟩)
                | (go_at_call 18; (with_reducible refine HOP.out.mono ?_); rintro e w9 ⟨hm9, hk9, bb9, G9, rfl, hb9, _⟩; have hl9 := hk9.obj _ _ HL4.out HLF.out; have m0 := cell_of_row w9 lb 0 _ _ _ hl9; have m1 := cell_of_row w9 lb 1 _ _ _ hl9; simp only [List.getElem?_toArray, List.getElem?_cons_zero, List.getElem?_cons_succ] at m0 m1; have HM9 := hid hm9; have hs9 := HST.out w9 bm M' F hm9; rw [HYS.out] at hs9; have HS9 := hid hs9; have he9 := entries19_any bb9 bm b' G9 w9 hb9 (by rw [HBL.out]; omega); rw [HBL.out] at he9; have HE9 := hid he9; have HG9 := hid (grew_b HP2.out.grew (hk9.below HP2.out.grew.size (fun k _ e => (HP2.out.F k e).1))); clear hm9 hk9 hb9 hl9 hs9 he9)
                | (go_at_call 27; (with_reducible refine HS9.out.mono ?_); rintro e w10 ⟨rfl, rfl⟩)
                | (go_at_call 19; (with_reducible refine HE9.out.mono ?_); rintro e w11 ⟨u9, rfl, hsu9, hg11⟩; obtain ⟨ua9, uc9, rfl, _⟩ := hsu9.shape; have HG11 := hid (grew_trans HG9.out hg11); clear hsu9 hg11)
                | (go_at_call 12; (with_reducible refine (HSANE.out _ HG11.out).mono ?_); rintro e w12 ⟨rfl, hg12⟩; have HG12 := hid hg12; clear hg12))
              go_ret
              exact ⟨rfl, grew_trans HG11.out HG12.out⟩

end Go.Proofs.YtmohnddglmolgaaGreatDoor
