/- Walks: opened (18), do (23). Plain: steps of a memory whose power cannot fail. -/
import Derived.Test.YtmohnddglmolgaaGreatDoorKpDeskA
namespace Go.Lin.Kp
open Go Go.Lin

/-- Opening, again and again. -/
def tryOpen : Nat → Mem → Option Bk × Mem
  | 0, M => (none, M)
  | k + 1, M => match M.open_ with
    | (some b, _, M') => (some b, M')
    | (none, e, M') => if e = 101 then tryOpen k M' else (none, M')

theorem ok_tryOpen : ∀ (k : Nat) {M : Mem}, Ok M → Ok (tryOpen k M).2
  | 0, M, h => h
  | k + 1, M, h => by
    have h1 := ok_open h
    unfold tryOpen
    obtain ⟨⟨ob, e, M'⟩, hr⟩ : ∃ x, M.open_ = x := ⟨_, rfl⟩
    rw [hr] at h1 ⊢
    cases ob with
    | some b => exact h1
    | none =>
      simp only
      split
      · exact ok_tryOpen k h1
      · exact h1

theorem size_tryOpen : ∀ (k : Nat) (M : Mem), (tryOpen k M).2.size ≤ M.size + 7 * k
  | 0, M => Nat.le_refl _
  | k + 1, M => by
    have h1 := size_open M
    unfold tryOpen
    obtain ⟨⟨ob, e, M'⟩, hr⟩ : ∃ x, M.open_ = x := ⟨_, rfl⟩
    rw [hr] at h1 ⊢
    cases ob with
    | some b => simp only at h1 ⊢; omega
    | none =>
      simp only at h1 ⊢
      split
      · have := size_tryOpen k M'; omega
      · simp only; omega

theorem bkOk_tryOpen : ∀ (k : Nat) {M : Mem}, Ok M → ∀ b, (tryOpen k M).1 = some b → BkOk b
  | 0, M, h => fun b hb => by cases hb
  | k + 1, M, h => fun b hb => by
    have h1 := ok_open h
    have h2 := @bkOk_open M h
    unfold tryOpen at hb
    obtain ⟨⟨ob, e, M'⟩, hr⟩ : ∃ x, M.open_ = x := ⟨_, rfl⟩
    rw [hr] at h1 h2 hb
    cases ob with
    | some b' => simp only [Option.some.injEq] at hb; subst hb; exact h2 rfl
    | none =>
      simp only at hb
      split at hb
      · exact bkOk_tryOpen k h1 b hb
      · cases hb

/-- What a deed does: number 0 adds. -/
def doD (M : Mem) (b : Bk) (k n : Int) : Int × Bk × Mem := if k = 0 then M.add b n else M.change b k n

theorem ok_doD {M : Mem} (h : Ok M) (b : Bk) (k n : Int) : Ok (doD M b k n).2.2 := by unfold doD; split; exact ok_add h _ _; exact ok_change h _ _ _
theorem bkOk_doD {M : Mem} {b : Bk} (h : BkOk b) (k n : Int) : BkOk (doD M b k n).2.1 := by unfold doD; split; exact bkOk_add h; exact bkOk_change h
theorem size_doD (M : Mem) (b : Bk) (k n : Int) : (doD M b k n).2.2.size ≤ M.size + 14 := by
  unfold doD; split
  · have := size_add M b n; omega
  · exact size_change M b k n

end Go.Lin.Kp
namespace Go.Proofs.YtmohnddglmolgaaGreatDoor
open Go Go.RowKit Go.Lin Go.Lin.Kp

/-- What trying to open leaves. -/
def TryLeft (w : World) (bm : Nat) (F : Nat → Prop) (r : Option Bk × Mem) (e : Ending) (w' : World) : Prop :=
  IsMem w' bm r.2 F ∧ Keeps (InF F) w w' ∧ match r.1 with
  | some b => ∃ bb G, e = .returned (ptr bb) ∧ IsBook w' bb bm b G ∧ ∀ k, G k → w.heap.size ≤ k
  | none => e = .returned (.pointer none)

theorem Keeps.refl' {may : Nat → Obj → Prop} (w : World) : Keeps may w w := (grew_refl w).keeps

set_option maxHeartbeats 2000000 in
theorem opened18_any (bm : Nat) (M : Mem) (F : Nat → Prop) (w : World) (h : IsMem w bm M F) (hok : Ok M) (hsz : M.size + 40 < 1000000000) :
    Calls Tryz.prog 18 #[ptr bm] w (TryLeft w bm F (tryOpen 3 M)) := by
  have HM0 := hid h
  obtain ⟨R, hR⟩ : ∃ R, tryOpen 3 M = R := ⟨_, rfl⟩
  have HR := hid hR
  rw [hR]
  clear hR
  go_enter Tryz.func18, Tryz.ntmps18
  go_wp2
  go_loopg [3, 4, 5] 3 (fun gk iv _ _ wr => ∃ (j : Nat) (Mj : Mem), j ≤ 3 ∧ iv = .int .i64 (j : Int) ∧ Hid (gk = 3 - j) ∧ Hid (tryOpen (3 - j) Mj = R) ∧ Hid (IsMem wr bm Mj F) ∧ Hid (Ok Mj) ∧ Hid (Mj.size ≤ M.size + 7 * j) ∧ Hid (Keeps (InF F) w wr))
  case atStart => exact ⟨0, M, by omega, rfl, hid rfl, HR, HM0, hid hok, hid (by omega), hid (Keeps.refl' _)⟩
  case round =>
    obtain ⟨j, Mj, hj, rfl, HGK, HT, HM, HO, HZ, HK⟩ := hrel
    rename World => wr
    by_cases hlt : j < 3
    · have hop := open41_mem bm Mj F wr HM.out HO.out (by have := HZ.out; omega)
      have her := open_err (M := Mj)
      have hok2 := ok_open HO.out
      have hz2 := size_open Mj
      have ht := HT.out
      rw [show 3 - j = (3 - (j + 1)) + 1 by omega] at ht
      unfold tryOpen at ht
      obtain ⟨⟨ob, er, M'⟩, hr⟩ : ∃ x, Mj.open_ = x := ⟨_, rfl⟩
      rw [hr] at hop her hok2 hz2 ht
      have HOP := hid hop
      cases ob with
      | some b =>
        obtain rfl : er = 0 := her.1 b rfl
        have HT2 := hid ht
        clear her hok2 hz2 ht hop hr
        go_wp2_with (go_at_call 41; (with_reducible refine HOP.out.mono ?_); rintro e w1 ⟨hm, hk, bb, G, rfl, hb, hG⟩; have HM1 := hid hm; have HK1 := hid hk; have HB1 := hid hb; have HG1 := hid hG; clear hm hk hb hG)
        go_ret
        show TryLeft w bm F R _ _
        rw [← HT2.out]
        exact ⟨HM1.out, HK.out.trans HK1.out, bb, G, rfl, HB1.out, fun k e => Nat.le_trans HK.out.size (HG1.out k e)⟩
      | none =>
        have hne : er ≠ 0 := her.2 rfl
        have e0 : (er == 0) = false := by rw [beq_eq_false_iff_ne]; exact hne
        simp only at ht
        by_cases h101 : er = 101
        · subst h101
          rw [if_pos rfl] at ht
          have HT2 := hid ht; have HO2 := hid hok2; have HZ2 := hid hz2
          clear her hok2 hz2 ht hop hr hne e0
          go_wp2_with (go_at_call 41; (with_reducible refine HOP.out.mono ?_); rintro e w1 ⟨hm, hk, rfl⟩; have HM1 := hid hm; have HK1 := hid hk; clear hm hk)
          go_roundg (3 - (j + 1))
          case measure => have := HGK.out; omega
          case rel => exact ⟨j + 1, M', by omega, by go_num, hid rfl, HT2, HM1, HO2, hid (by have := HZ.out; have h2 := HZ2.out; change M'.size ≤ _ at h2; omega), hid (HK.out.trans HK1.out)⟩
        · have e1 : (er != 101) = true := by rw [bne_iff_ne]; exact h101
          rw [if_neg h101] at ht
          have HT2 := hid ht
          clear her hok2 hz2 ht hop hr hne h101
          go_wp2_with (go_at_call 41; (with_reducible refine HOP.out.mono ?_); rintro e w1 ⟨hm, hk, rfl⟩; have HM1 := hid hm; have HK1 := hid hk; clear hm hk)
          go_ret
          show TryLeft w bm F R _ _
          rw [← HT2.out]
          exact ⟨HM1.out, HK.out.trans HK1.out, rfl⟩
    · obtain rfl : j = 3 := by omega
      have HT2 := hid (show ((none, Mj) : Option Bk × Mem) = R from (by have := HT.out; rw [Nat.sub_self] at this; exact this))
      go_wp2
      go_ret
      show TryLeft w bm F R _ _
      rw [← HT2.out]
      exact ⟨HM.out, HK.out, rfl⟩

/-- A memory and a book on it. -/
structure MBk (w : World) (bm bb : Nat) (M : Mem) (b : Bk) (F G : Nat → Prop) : Prop where
  mem : IsMem w bm M F
  book : IsBook w bb bm b G
  disj : ∀ k, F k → ¬ G k

theorem MBk.grew {w w' : World} {bm bb : Nat} {M : Mem} {b : Bk} {F G : Nat → Prop} (h : MBk w bm bb M b F G) (hg : Grew w w') : MBk w' bm bb M b F G := ⟨h.mem.grew hg, h.book.grew hg, h.disj⟩
theorem IsMem.ltF {w : World} {bm : Nat} {M : Mem} {F : Nat → Prop} (h : IsMem w bm M F) : ∀ k, F k → k < w.heap.size := by obtain ⟨_, _, hm⟩ := h; exact hm.lt

/-- What a deed leaves of both. -/
def DidLeft (w : World) (bm bb : Nat) (F G : Nat → Prop) (r : Int × Bk × Mem) (e : Ending) (w' : World) : Prop :=
  e = .returned (.int .i64 r.1) ∧ (∃ G', MBk w' bm bb r.2.2 r.2.1 F G' ∧ Wider w G G') ∧ Keeps (fun k _ => F k ∨ G k) w w'

theorem did_of {w w' : World} {bm bb : Nat} {M : Mem} {b : Bk} {F G : Nat → Prop} {r : Int × Bk × Mem} {e : Ending} (h : MBk w bm bb M b F G) (hd : DeedLeft w bb bm F G r e w') : DidLeft w bm bb F G r e w' := by
  obtain ⟨h1, h2, ⟨G', h3, h4⟩, h5⟩ := hd
  exact ⟨h1, ⟨G', ⟨h2, h3, fun k hF hG => (h4 k hG).elim (h.disj k hF) (fun e => by have := h.mem.ltF k hF; omega)⟩, h4⟩, h5⟩

theorem did_box {w w0 w' : World} {bm bb : Nat} {F G : Nat → Prop} {r : Int × Bk × Mem} {e : Ending} (hg : Grew w w0) (hd : DidLeft w0 bm bb F G r e w') : DidLeft w bm bb F G r e w' := by
  obtain ⟨h1, ⟨G', h3, h4⟩, h5⟩ := hd
  exact ⟨h1, ⟨G', h3, fun k hG => (h4 k hG).elim .inl (fun e => .inr (Nat.le_trans hg.size e))⟩, hg.keeps.trans h5⟩

set_option maxHeartbeats 1000000 in
theorem do23_any (bm bb : Nat) (M : Mem) (b : Bk) (F G : Nat → Prop) (k n : Int) (w : World) (h : MBk w bm bb M b F G) (hok : Ok M) (hb : BkOk b) (hsz : M.size + 20 < 1000000000) :
    Calls Tryz.prog 23 #[ptr bb, .agg #[.int .i64 k, .int .i64 n]] w (DidLeft w bm bb F G (doD M b k n)) := by
  obtain ⟨w1, hw1, g1, k0, k1, hz1⟩ := box2 w (.int .i64 k) (.int .i64 n) 49
  have h1 := h.grew g1
  have HA := hid (add31_any bb bm b M F G n w1 h1.book h1.mem h.disj hok (by omega) hb.1)
  have HC := hid (change32_any bb bm b M F G k n w1 h1.book h1.mem h.disj hok (by omega) hb.1)
  have HH := hid h1; have HG := hid g1
  unfold doD
  clear h1 g1 hok hb hsz h
  by_cases h0 : k = 0
  · subst h0
    rw [if_pos rfl]
    go_enter Tryz.func23, Tryz.ntmps23
    go_wp2_with (go_at_call 31; (with_reducible refine HA.out.mono ?_); intro e w2 hd; have hd2 := did_box HG.out (did_of HH.out hd); have HD := hid hd2; obtain ⟨rfl, _⟩ := hd; clear hd2)
    go_ret
    exact HD.out
  · rw [if_neg h0]
    have e0 : (k == 0) = false := by rw [beq_eq_false_iff_ne]; exact h0
    clear h0
    go_enter Tryz.func23, Tryz.ntmps23
    go_wp2_with (go_at_call 32; (with_reducible refine HC.out.mono ?_); intro e w2 hd; have hd2 := did_box HG.out (did_of HH.out hd); have HD := hid hd2; obtain ⟨rfl, _⟩ := hd; clear hd2)
    go_ret
    exact HD.out

end Go.Proofs.YtmohnddglmolgaaGreatDoor
namespace Go.Lin.Kp
open Go Go.Lin

/-- Steps that have been done, none failed: the fresh numbers behind them. -/
structure Sure (M : Mem) (o : Ord) (k : Nat) (f : Nat → Int) : Prop where
  res : o.1 = 0
  ok : Ok o.2
  on : o.2.on = true
  plan : o.2.plan = 0
  steps : o.2.steps = M.steps + k
  fails : o.2.fails = M.fails
  opened : o.2.opened = M.opened
  fresh : o.2.fresh = f

theorem Sure.refl {M : Mem} (h : Ok M) (hon : M.on = true) (hp : M.plan = 0) : Sure M (0, M) 0 M.fresh := ⟨rfl, h, hon, hp, rfl, rfl, rfl, rfl⟩

theorem sure_done {M M' : Mem} {k : Nat} {f : Nat → Int} (h : Sure M (0, M') k f) {g : Mem → Mem} (hg : Steps g) (hpl : ∀ M, (g M).plan = M.plan) {f' : Nat → Int} (hf : ∀ M2 : Mem, M2.fresh = f → (g M2).fresh = f') : Sure M (M'.done true g) (k + 1) f' := by
  have hp : M'.plan = 0 := h.plan
  unfold Mem.done
  rw [if_pos rfl, if_pos h.on]
  unfold Mem.step
  rw [if_neg (by rw [hp]; decide)]
  have ht : Ok { M' with plan := M'.plan - 1, steps := M'.steps + 1 } := Ok.tick h.ok
  obtain ⟨a, b, c, d, e⟩ := hg _ ht h.on
  exact ⟨rfl, a, e, by dsimp only; rw [hpl]; dsimp only; rw [hp], by dsimp only at b ⊢; rw [b]; have := h.steps; dsimp only at this; omega, c.trans h.fails, d.trans h.opened, hf _ h.fresh⟩

theorem sure_write {M : Mem} {o : Ord} {k : Nat} {f : Nat → Int} (h : Sure M o k f) {c n : Int} (hc : isCell c = true) (hn : isNum n = true) : Sure M (Ord.write o c n) (k + 1) (upd f c.toNat n) := by
  obtain ⟨e, M'⟩ := o
  obtain rfl : e = 0 := h.res
  unfold Ord.write Mem.write
  rw [if_pos rfl, hc, hn]
  exact sure_done h (Steps.setF hc hn) (fun _ => rfl) (fun M2 e => by unfold Mem.setF; dsimp only; rw [e])
theorem sure_flush {M : Mem} {o : Ord} {k : Nat} {f : Nat → Int} (h : Sure M o k f) {c : Int} (hc : isCell c = true) : Sure M (Ord.flush o c) (k + 1) f := by
  obtain ⟨e, M'⟩ := o
  obtain rfl : e = 0 := h.res
  unfold Ord.flush Mem.flush
  rw [if_pos rfl, hc]
  exact sure_done h (Steps.noteF hc) (fun _ => rfl) (fun M2 e => e)
theorem sure_fence {M : Mem} {o : Ord} {k : Nat} {f : Nat → Int} (h : Sure M o k f) : Sure M (Ord.fence o) (k + 1) f := by
  obtain ⟨e, M'⟩ := o
  obtain rfl : e = 0 := h.res
  unfold Ord.fence Mem.fence
  rw [if_pos rfl]
  exact sure_done h Steps.fenceF (fun _ => rfl) (fun M2 e => e)
theorem sure_put {M : Mem} {o : Ord} {k : Nat} {f : Nat → Int} (h : Sure M o k f) {c n : Int} (hc : isCell c = true) (hn : isNum n = true) : Sure M (Ord.put o c n) (k + 3) (upd f c.toNat n) :=
  sure_fence (sure_flush (sure_write h hc hn) hc)

/-- A memory with power and no plan, and a book whose length it holds. -/
structure Live (M : Mem) (b : Bk) : Prop where
  ok : Ok M
  bk : BkOk b
  on : M.on = true
  plan : M.plan = 0
  len : M.fresh 0 = b.list.length

theorem live_sure {M : Mem} {b' : Bk} {o : Ord} {k : Nat} {f : Nat → Int} (h : Sure M o k f) (hb : BkOk b') (hl : f 0 = b'.list.length) : Live o.2 b' := ⟨h.ok, hb, h.on, h.plan, by rw [h.fresh]; exact hl⟩

theorem cell_of {n : Int} (h0 : 0 ≤ n) (h1 : n ≤ 63) : isCell n = true := isCell_iff.2 ⟨h0, h1⟩
theorem num_of {n : Int} (h0 : 0 ≤ n) (h1 : n ≤ 999) : isNum n = true := isNum_iff.2 ⟨h0, h1⟩

theorem live_add {M : Mem} {b : Bk} (h : Live M b) (n : Int) : Live (M.add b n).2.2 (M.add b n).2.1 ∧ (M.add b n).2.2.steps = M.steps + (if (M.add b n).1 = 0 then 6 else 0) := by
  have hb := bkOk_add (M := M) (n := n) h.bk
  unfold Mem.add at hb ⊢
  by_cases h0 : askedB M b n = 0
  · rw [if_pos h0] at hb ⊢
    by_cases h20 : b.list.length = 20
    · rw [if_pos h20]; exact ⟨h, rfl⟩
    · rw [if_neg h20] at hb ⊢
      have hn := (askedB_num h0).1
      have hl := h.bk.1
      have hs := sure_put (sure_put (Sure.refl h.ok h.on h.plan) (c := b.list.length + 1) (n := n) (cell_of (by omega) (by omega)) hn) (c := 0) (n := b.list.length + 1) (by decide) (num_of (by omega) (by omega))
      dsimp only at hb ⊢
      have hr : (addO M b n).1 = 0 := hs.res
      rw [if_pos hr] at hb ⊢
      rw [if_pos hr]
      exact ⟨live_sure hs hb (by simp), hs.steps⟩
  · rw [if_neg h0]
    exact ⟨h, by rw [if_neg h0]; rfl⟩

theorem live_change {M : Mem} {b : Bk} (h : Live M b) (i n : Int) : Live (M.change b i n).2.2 (M.change b i n).2.1 ∧ (M.change b i n).2.2.steps = M.steps + (if (M.change b i n).1 = 0 then 14 else 0) := by
  have hb := bkOk_change (M := M) (i := i) (n := n) h.bk
  unfold Mem.change at hb ⊢
  by_cases h0 : askedB M b n = 0
  · rw [if_pos h0] at hb ⊢
    by_cases hi : 1 ≤ i ∧ i ≤ b.list.length
    · rw [if_pos hi] at hb ⊢
      have hn := (askedB_num h0).1
      have hl := h.bk.1
      have hw : isNum (nth b.list (i - 1).toNat) = true := by
        have hj : (i - 1).toNat < b.list.length := by omega
        rw [nth_lt hj]; exact h.bk.2 _ (List.getElem_mem hj)
      have s1 := sure_write (Sure.refl h.ok h.on h.plan) (c := 41) (n := i) (by decide) (num_of (by omega) (by omega))
      have s2 := sure_write s1 (c := 42) (by decide) hw
      have s3 := sure_fence (sure_flush (sure_flush s2 (c := 41) (by decide)) (c := 42) (by decide))
      have s4 := sure_put s3 (c := 40) (n := 1) (by decide) (by decide)
      have s5 := sure_put s4 (c := i) (n := n) (cell_of (by omega) (by omega)) hn
      have hs := sure_put s5 (c := 40) (n := 0) (by decide) (by decide)
      dsimp only at hb ⊢
      have hr : (changeO M i (nth b.list (i - 1).toNat) n).1 = 0 := hs.res
      rw [if_pos hr] at hb ⊢
      rw [if_pos hr]
      refine ⟨live_sure hs hb ?_, hs.steps⟩
      rw [List.length_set, upd_other _ _ (by decide), upd_other _ _ (by omega), upd_other _ _ (by decide), upd_other _ _ (by decide), upd_other _ _ (by decide)]
      exact h.len
    · rw [if_neg hi]; exact ⟨h, rfl⟩
  · rw [if_neg h0]
    exact ⟨h, by rw [if_neg h0]; rfl⟩

theorem live_doD {M : Mem} {b : Bk} (h : Live M b) (k n : Int) : Live (doD M b k n).2.2 (doD M b k n).2.1 ∧ (doD M b k n).2.2.steps = M.steps + (if (doD M b k n).1 = 0 then (if k = 0 then 6 else 14) else 0) := by
  unfold doD
  by_cases hk : k = 0
  · rw [if_pos hk, if_pos hk]; exact live_add h n
  · rw [if_neg hk, if_neg hk]; exact live_change h k n

/-- A number is written into a cell behind the entries. -/
theorem live_write {M : Mem} {b : Bk} (h : Live M b) {c n : Int} (hc : 40 ≤ c ∧ c ≤ 63) (hn : isNum n = true) : (M.write c n).1 = 0 ∧ Live (M.write c n).2 b ∧ (M.write c n).2.fresh = upd M.fresh c.toNat n := by
  have hs := sure_write (Sure.refl h.ok h.on h.plan) (c := c) (n := n) (cell_of (by omega) (by omega)) hn
  exact ⟨hs.res, live_sure hs h.bk (by rw [upd_other _ _ (by omega)]; exact h.len), hs.fresh⟩

/-- What opening takes. -/
def wantOpen (f : Nat → Int) (n : Nat) : Nat := if f 40 = 0 then 0 else if f 40 = 1 ∧ 1 ≤ f 41 ∧ f 41 ≤ n then 6 else 3

theorem live_open {M : Mem} {b : Bk} (h : Live M b) : ∃ b' M', tryOpen 3 M = (some b', M') ∧ Live M' b' ∧ b'.list.length = b.list.length ∧ M'.steps = M.steps + wantOpen M.fresh b.list.length := by
  have hst : M.start = M := by unfold Mem.start; rw [if_pos h.on]
  have hl := h.bk.1
  have hu : ∃ k f, Sure M (unnote (undo M)) k f ∧ f 0 = b.list.length ∧ k = wantOpen M.fresh b.list.length := by
    unfold undo wantOpen
    by_cases h1 : M.fresh 40 = 1 ∧ 1 ≤ M.fresh 41 ∧ M.fresh 41 ≤ M.fresh 0
    · have h2 := h.len
      rw [if_pos h1, if_neg (by rw [h1.1]; decide), if_pos ⟨h1.1, h1.2.1, by rw [← h.len]; exact h1.2.2⟩]
      have s1 := sure_put (Sure.refl h.ok h.on h.plan) (c := M.fresh 41) (n := M.fresh 42) (cell_of (by omega) (by omega)) (isNum_iff.2 (h.ok.fresh 42))
      unfold unnote
      rw [if_neg (by rw [s1.fresh, upd_other _ _ (by omega), h1.1]; decide)]
      exact ⟨_, _, sure_put s1 (c := 40) (n := 0) (by decide) (by decide), by rw [upd_other _ _ (by decide), upd_other _ _ (by omega)]; exact h.len, rfl⟩
    · rw [if_neg h1]
      unfold unnote
      dsimp only
      by_cases h4 : M.fresh 40 = 0
      · rw [if_pos h4, if_pos h4]
        exact ⟨0, _, Sure.refl h.ok h.on h.plan, h.len, rfl⟩
      · rw [if_neg h4, if_neg h4, if_neg (fun hh => h1 ⟨hh.1, hh.2.1, by rw [h.len]; exact hh.2.2⟩)]
        exact ⟨3, _, sure_put (Sure.refl h.ok h.on h.plan) (c := 40) (n := 0) (by decide) (by decide), by rw [upd_other _ _ (by decide)]; exact h.len, rfl⟩
  obtain ⟨k, f, hs, hf, hk⟩ := hu
  obtain ⟨o, ho⟩ : ∃ o, unnote (undo M) = o := ⟨_, rfl⟩
  rw [ho] at hs
  have hopen : M.open_ = (some ⟨o.2.fails, o.2.opened + 1, entriesOf o.2.fresh (M.fresh 0).toNat⟩, 0, { o.2 with opened := o.2.opened + 1 }) := by
    unfold Mem.open_
    rw [hst, if_neg (by rw [h.len]; omega), ho]
    exact if_pos hs.res
  have hbk := bkOk_open h.ok (b := ⟨o.2.fails, o.2.opened + 1, entriesOf o.2.fresh (M.fresh 0).toNat⟩) (by rw [hopen])
  have hle : (entriesOf o.2.fresh (M.fresh 0).toNat).length = b.list.length := by unfold entriesOf; rw [List.length_map, List.length_range, h.len]; omega
  refine ⟨⟨o.2.fails, o.2.opened + 1, entriesOf o.2.fresh (M.fresh 0).toNat⟩, { o.2 with opened := o.2.opened + 1 }, by unfold tryOpen; rw [hopen], ⟨ok_opened hs.ok _, hbk, hs.on, hs.plan, ?_⟩, hle, by rw [← hk]; exact hs.steps⟩
  show o.2.fresh 0 = ((entriesOf o.2.fresh (M.fresh 0).toNat).length : Int)
  rw [hs.fresh, hf]
  rw [hs.fresh] at hle
  rw [hle]

theorem live_new : tryOpen 3 Mem.new = (some ⟨0, 1, []⟩, { Mem.new with opened := 1 }) ∧ Live { Mem.new with opened := 1 } ⟨0, 1, []⟩ :=
  ⟨by unfold tryOpen; rw [open_new], ⟨dkOk_new.M, dkOk_new.b, rfl, rfl, rfl⟩⟩

end Go.Lin.Kp
