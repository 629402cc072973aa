/- Walks: the orders: write (66), flush (67), fence (68), put (65). Walks: a book: none (51), asked (64), Entries (19), Open (41). Walk: Open (41). Printed by gen_kpopen.py. Walk: Add (31). Walk: Change (32). -/
import Derived.Test.YtmohnddglmolgaaGreatDoorKpStA
import Derived.BigQuiet
import Derived.Deep.QuietTactic
import Derived.Deep.RegionHeld3
namespace Go.Proofs.YtmohnddglmolgaaGreatDoor
open Go Go.RowKit Go.Lin Go.Lin.Kp

/-- Block bo is an order to the memory bm, with its first error. -/
def OrdAt (w : World) (bo bm : Nat) (e : Int) : Prop := w.heap[bo]? = some (.cells #[ptr bm, .int .i64 e] 128 (0, 0))

theorem OrdAt.keeps {w w' : World} {bo bm : Nat} {e : Int} {may : Nat → Obj → Prop} (h : OrdAt w bo bm e) (hk : Keeps may w w') (hm : ∀ o, ¬ may bo o) : OrdAt w' bo bm e := hk.obj _ _ h (hm _)
theorem OrdAt.c0 {w : World} {bo bm : Nat} {e : Int} (h : OrdAt w bo bm e) : w.cell? ⟨bo, 0, none⟩ = some (ptr bm) := cell_of_row w bo 0 _ _ _ h
theorem OrdAt.c1 {w : World} {bo bm : Nat} {e : Int} (h : OrdAt w bo bm e) : w.cell? ⟨bo, 1, none⟩ = some (.int .i64 e) := cell_of_row w bo 1 _ _ _ h
theorem OrdAt.fr {w : World} {bo bm : Nat} {e : Int} (h : OrdAt w bo bm e) (i : Nat) : w.frozen? ⟨bo, i, none⟩ = false := frozen_of_row w bo i _ _ h
theorem OrdAt.set {w : World} {bo bm : Nat} {e : Int} (h : OrdAt w bo bm e) (e' : Int) : OrdAt (w.setCell ⟨bo, 1, none⟩ (.int .i64 e')) bo bm e' := by
  unfold OrdAt; rw [heap_setCell_same w bo 1 _ _ _ h]; rfl

/-- What a step of an order leaves. -/
abbrev LeftO (w : World) (bo bm : Nat) (o : Ord) (F : Nat → Prop) (e : Ending) (w' : World) : Prop :=
  e = .returned (.tuple #[]) ∧ IsMem w' bm o.2 F ∧ OrdAt w' bo bm o.1 ∧ Keeps (fun k _ => F k ∨ k = bo) w w'

theorem ord_left {w w1 : World} {bo bm : Nat} {e : Int} {o : Ord} {F : Nat → Prop} (hb : OrdAt w bo bm e) (hnF : ¬ F bo) (hm : IsMem w1 bm o.2 F) (hk : Keeps (InF F) w w1) :
    IsMem (w1.setCell ⟨bo, 1, none⟩ (.int .i64 o.1)) bm o.2 F ∧ OrdAt (w1.setCell ⟨bo, 1, none⟩ (.int .i64 o.1)) bo bm o.1 ∧ Keeps (fun k _ => F k ∨ k = bo) w (w1.setCell ⟨bo, 1, none⟩ (.int .i64 o.1)) :=
  ⟨hm.keeps (keeps_set1 _ (fun k _ => k = bo) (fun _ => rfl)) (fun _ _ hF e => hnF (e ▸ hF)), (hb.keeps hk (fun _ => hnF)).set o.1, (hk.mono (fun _ _ h => .inl h)).trans (keeps_set1 _ _ (fun _ => .inr rfl))⟩

section
variable (bo bm : Nat) (o : Ord) (F : Nat → Prop) (w : World)

theorem owrite66_any (c n : Int) (hb : OrdAt w bo bm o.1) (hnF : ¬ F bo) (h : IsMem w bm o.2 F) (hok : Ok o.2) (hsz : o.2.size < 1000000000) :
    Calls Tryz.prog 66 #[ptr bo, .int .i64 c, .int .i64 n] w (LeftO w bo bm (Ord.write o c n) F) := by
  have HB := hid hb; have HM := hid h
  have HW := hid (write28_any bm o.2 F c n w h hok hsz)
  have c0 := hb.c0; have c1 := hb.c1
  unfold Ord.write
  obtain ⟨e, M⟩ := o
  simp only at c1 HB HM HW ⊢
  clear hb h hok hsz
  by_cases h0 : e = 0
  · rw [if_pos h0]
    subst h0
    go_enter Tryz.func66, Tryz.ntmps66
    go_wp2_with (go_at_call 28; (with_reducible refine HW.out.mono ?_); rintro e w1 ⟨rfl, hm, hk⟩; have HM1 := hid hm; have HK1 := hid hk; have d1 := (HB.out.keeps hk (fun _ => hnF)).c1; have f1 := (HB.out.keeps hk (fun _ => hnF)).fr 1; clear hm hk)
    go_end0
    exact ⟨rfl, ord_left HB.out hnF HM1.out HK1.out⟩
  · rw [if_neg h0]
    have e1 : (e == 0) = false := by simpa using h0
    clear h0
    go_enter Tryz.func66, Tryz.ntmps66
    go_wp2
    go_end0
    exact ⟨rfl, HM.out, HB.out, Keeps.refl _ _⟩

theorem oflush67_any (c : Int) (hb : OrdAt w bo bm o.1) (hnF : ¬ F bo) (h : IsMem w bm o.2 F) (hok : Ok o.2) (hsz : o.2.size < 1000000000) :
    Calls Tryz.prog 67 #[ptr bo, .int .i64 c] w (LeftO w bo bm (Ord.flush o c) F) := by
  have HB := hid hb; have HM := hid h
  have HW := hid (flush42_any bm o.2 F c w h hok hsz)
  have c0 := hb.c0; have c1 := hb.c1
  unfold Ord.flush
  obtain ⟨e, M⟩ := o
  simp only at c1 HB HM HW ⊢
  clear hb h hok hsz
  by_cases h0 : e = 0
  · rw [if_pos h0]
    subst h0
    go_enter Tryz.func67, Tryz.ntmps67
    go_wp2_with (go_at_call 42; (with_reducible refine HW.out.mono ?_); rintro e w1 ⟨rfl, hm, hk⟩; have HM1 := hid hm; have HK1 := hid hk; have d1 := (HB.out.keeps hk (fun _ => hnF)).c1; have f1 := (HB.out.keeps hk (fun _ => hnF)).fr 1; clear hm hk)
    go_end0
    exact ⟨rfl, ord_left HB.out hnF HM1.out HK1.out⟩
  · rw [if_neg h0]
    have e1 : (e == 0) = false := by simpa using h0
    clear h0
    go_enter Tryz.func67, Tryz.ntmps67
    go_wp2
    go_end0
    exact ⟨rfl, HM.out, HB.out, Keeps.refl _ _⟩

theorem ofence68_any (hb : OrdAt w bo bm o.1) (hnF : ¬ F bo) (h : IsMem w bm o.2 F) (hok : Ok o.2) (hsz : o.2.size < 1000000000) :
    Calls Tryz.prog 68 #[ptr bo] w (LeftO w bo bm (Ord.fence o) F) := by
  have HB := hid hb; have HM := hid h
  have HW := hid (fence43_any bm o.2 F w h hok hsz)
  have c0 := hb.c0; have c1 := hb.c1
  unfold Ord.fence
  obtain ⟨e, M⟩ := o
  simp only at c1 HB HM HW ⊢
  clear hb h hok hsz
  by_cases h0 : e = 0
  · rw [if_pos h0]
    subst h0
    go_enter Tryz.func68, Tryz.ntmps68
    go_wp2_with (go_at_call 43; (with_reducible refine HW.out.mono ?_); rintro e w1 ⟨rfl, hm, hk⟩; have HM1 := hid hm; have HK1 := hid hk; have d1 := (HB.out.keeps hk (fun _ => hnF)).c1; have f1 := (HB.out.keeps hk (fun _ => hnF)).fr 1; clear hm hk)
    go_end0
    exact ⟨rfl, ord_left HB.out hnF HM1.out HK1.out⟩
  · rw [if_neg h0]
    have e1 : (e == 0) = false := by simpa using h0
    clear h0
    go_enter Tryz.func68, Tryz.ntmps68
    go_wp2
    go_end0
    exact ⟨rfl, HM.out, HB.out, Keeps.refl _ _⟩

theorem put65_any (c n : Int) (hb : OrdAt w bo bm o.1) (hnF : ¬ F bo) (h : IsMem w bm o.2 F) (hok : Ok o.2) (hsz : o.2.size + 2 < 1000000000) :
    Calls Tryz.prog 65 #[ptr bo, .int .i64 c, .int .i64 n] w (LeftO w bo bm (Ord.put o c n) F) := by
  have s1 := size_owrite o c n
  have s2 := size_oflush (Ord.write o c n) c
  have H1 := hid (owrite66_any bo bm o F w c n hb hnF h hok (by omega))
  have H2 := hid (fun (W : World) (hb : OrdAt W bo bm (Ord.write o c n).1) (h : IsMem W bm (Ord.write o c n).2 F) => oflush67_any bo bm (Ord.write o c n) F W c hb hnF h (ok_owrite hok c n) (by omega))
  have H3 := hid (fun (W : World) (hb : OrdAt W bo bm (Ord.flush (Ord.write o c n) c).1) (h : IsMem W bm (Ord.flush (Ord.write o c n) c).2 F) => ofence68_any bo bm (Ord.flush (Ord.write o c n) c) F W hb hnF h (ok_oflush (ok_owrite hok c n) c) (by omega))
  unfold Ord.put
  clear hb h hok hsz s1 s2
  go_enter Tryz.func65, Tryz.ntmps65
  go_wp2_with (first
    | (go_at_call 66; (with_reducible refine H1.out.mono ?_); rintro e w1 ⟨rfl, hm, ho, hk⟩; have HM1 := hid hm; have HO1 := hid ho; have HK1 := hid hk; clear hm ho hk)
    | (go_at_call 67; (with_reducible refine (H2.out _ HO1.out HM1.out).mono ?_); rintro e w2 ⟨rfl, hm, ho, hk⟩; have HM2 := hid hm; have HO2 := hid ho; have HK2 := hid hk; clear hm ho hk)
    | (go_at_call 68; (with_reducible refine (H3.out _ HO2.out HM2.out).mono ?_); rintro e w3 ⟨rfl, hm, ho, hk⟩; have HM3 := hid hm; have HO3 := hid ho; have HK3 := hid hk; clear hm ho hk))
  go_end0
  exact ⟨rfl, HM3.out, HO3.out, (HK1.out.trans HK2.out).trans HK3.out⟩
end

end Go.Proofs.YtmohnddglmolgaaGreatDoor
namespace Go.Proofs.YtmohnddglmolgaaGreatDoor
open Go Go.RowKit Go.Lin Go.Lin.Kp

/-- Block bb is the book b on the memory bm, its entries in the slice v. G: its blocks. -/
structure BookIs (w : World) (bb bm : Nat) (v : Value) (b : Bk) (G : Nat → Prop) : Prop where
  obj : w.heap[bb]? = some (.cells #[ptr bm, .int .i64 ((b.fails + b.opened : Nat) : Int), v] 96 (0, 0))
  list : Seg w 0 3 1 v b.list.length (b.list.map (.int .i64))
  inB : G bb
  inL : ∀ k, v.ownBlock = some k → G k
  lt : ∀ k, G k → k < w.heap.size

def IsBook (w : World) (bb bm : Nat) (b : Bk) (G : Nat → Prop) : Prop := ∃ v, BookIs w bb bm v b G

section
variable {w w' : World} {bb bm : Nat} {v : Value} {b : Bk} {G : Nat → Prop}
theorem BookIs.c0 (h : BookIs w bb bm v b G) : w.cell? ⟨bb, 0, none⟩ = some (ptr bm) := cell_of_row w bb 0 _ _ _ h.obj
theorem BookIs.c1 (h : BookIs w bb bm v b G) : w.cell? ⟨bb, 1, none⟩ = some (.int .i64 ((b.fails + b.opened : Nat) : Int)) := cell_of_row w bb 1 _ _ _ h.obj
theorem BookIs.c2 (h : BookIs w bb bm v b G) : w.cell? ⟨bb, 2, none⟩ = some v := cell_of_row w bb 2 _ _ _ h.obj
theorem BookIs.fr (h : BookIs w bb bm v b G) (i : Nat) : w.frozen? ⟨bb, i, none⟩ = false := frozen_of_row w bb i _ _ h.obj
theorem BookIs.keeps {may : Nat → Obj → Prop} (h : BookIs w bb bm v b G) (hk : Keeps may w w') (hm : ∀ k o, G k → ¬ may k o) : BookIs w' bb bm v b G :=
  ⟨hk.obj _ _ h.obj (hm _ _ h.inB), h.list.keeps hk (fun k o e _ => hm k o (h.inL k e)), h.inB, h.inL, fun k hG => Nat.lt_of_lt_of_le (h.lt k hG) hk.size⟩
theorem IsBook.keeps {may : Nat → Obj → Prop} (h : IsBook w bb bm b G) (hk : Keeps may w w') (hm : ∀ k o, G k → ¬ may k o) : IsBook w' bb bm b G := by
  obtain ⟨v, h⟩ := h; exact ⟨v, h.keeps hk hm⟩
theorem BookIs.grew (h : BookIs w bb bm v b G) (hg : Grew w w') : BookIs w' bb bm v b G := h.keeps (may := fun _ _ => False) hg.keeps (fun _ _ _ h => h)
theorem IsBook.grew (h : IsBook w bb bm b G) (hg : Grew w w') : IsBook w' bb bm b G := h.keeps (may := fun _ _ => False) hg.keeps (fun _ _ _ h => h)
end

theorem none51_book (bb bm : Nat) (b : Bk) (G : Nat → Prop) (w : World) (h : IsBook w bb bm b G) : Calls Tryz.prog 51 #[ptr bb] w fun e w' => e = .returned (.bool false) ∧ w = w' := by
  obtain ⟨v, h⟩ := h
  have c0 := h.c0
  clear h
  go_enter Tryz.func51, Tryz.ntmps51
  go_wp2
  go_ret
  exact ⟨rfl, rfl⟩

/-- No book: whatever asks it says so. -/
def NoBook (v : Value) : Prop := ∀ w, Calls Tryz.prog 51 #[v] w fun e w' => e = .returned (.bool true) ∧ w = w'

theorem noBook_nil : NoBook (.pointer none) := fun w => by
  go_enter Tryz.func51, Tryz.ntmps51
  go_wp2
  go_ret
  exact ⟨rfl, rfl⟩

theorem none51_zero (bb : Nat) (w : World) (c0 : w.cell? ⟨bb, 0, none⟩ = some (.pointer none)) : Calls Tryz.prog 51 #[ptr bb] w fun e w' => e = .returned (.bool true) ∧ w = w' := by
  go_enter Tryz.func51, Tryz.ntmps51
  go_wp2
  go_ret
  exact ⟨rfl, rfl⟩

theorem entries19_any (bb bm : Nat) (b : Bk) (G : Nat → Prop) (w : World) (h : IsBook w bb bm b G) (hl : b.list.length ≤ 1000000) :
    Calls Tryz.prog 19 #[ptr bb] w fun e w' => ∃ u, e = .returned u ∧ Seg w' w.heap.size 3 1 u b.list.length (b.list.map (.int .i64)) ∧ Grew w w' := by
  have HN := hid (none51_book bb bm b G w h)
  obtain ⟨v, h⟩ := h
  have HC := hid (clone_ints v b.list.length b.list w rfl hl h.list.isInts.any)
  have c2 := h.c2
  clear h hl
  go_enter Tryz.func19, Tryz.ntmps19
  go_wp2_with (first
    | (go_at_call 51; (with_reducible refine HN.out.mono ?_); rintro e w1 ⟨rfl, rfl⟩)
    | (go_at_call 52; (with_reducible refine HC.out.mono ?_); rintro e w1 ⟨u, rfl, hs, hg⟩; have HS := hid hs; have HG := hid hg; clear hs hg))
  go_ret
  exact ⟨u, rfl, HS.out, HG.out⟩

theorem entries19_none (v : Value) (w : World) (h : Calls Tryz.prog 51 #[v] w fun e w' => e = .returned (.bool true) ∧ w = w') :
    Calls Tryz.prog 19 #[v] w fun e w' => e = .returned (.slice none 0 0) ∧ w = w' := by
  have HN := hid h
  clear h
  go_enter Tryz.func19, Tryz.ntmps19
  go_wp2_with (go_at_call 51; (with_reducible refine HN.out.mono ?_); rintro e w1 ⟨rfl, rfl⟩)
  go_ret
  exact ⟨rfl, rfl⟩

theorem asked64_none (v : Value) (n : Int) (w : World) (h : Calls Tryz.prog 51 #[v] w fun e w' => e = .returned (.bool true) ∧ w = w') : Calls Tryz.prog 64 #[v, .int .i64 n] w fun e w' => e = .returned (.int .i64 102) ∧ w = w' := by
  have HN := hid h
  clear h
  go_enter Tryz.func64, Tryz.ntmps64
  go_wp2_with (go_at_call 51; (with_reducible refine HN.out.mono ?_); rintro e w1 ⟨rfl, rfl⟩)
  go_ret
  exact ⟨rfl, rfl⟩

set_option maxHeartbeats 1000000 in
theorem asked64_any (bb bm : Nat) (b : Bk) (G : Nat → Prop) (M : Mem) (F : Nat → Prop) (n : Int) (w : World) (hb : IsBook w bb bm b G) (h : IsMem w bm M F) :
    Calls Tryz.prog 64 #[ptr bb, .int .i64 n] w fun e w' => e = .returned (.int .i64 (askedB M b n)) ∧ Grew w w' := by
  have HN := hid (none51_book bb bm b G w hb)
  have HI := hid (isNumber60_any n)
  obtain ⟨v, hb⟩ := hb
  obtain ⟨bn, sv, h⟩ := h
  have c0 := hb.c0; have c1 := hb.c1
  have d0 := h.off; have d1 := h.cA
  unfold askedB
  obtain ⟨o, ho⟩ : ∃ o, M.on = o := ⟨_, rfl⟩
  obtain ⟨x, hx⟩ : ∃ x, b.fails + b.opened = x := ⟨_, rfl⟩
  obtain ⟨y, hy⟩ : ∃ y, M.fails + M.opened = y := ⟨_, rfl⟩
  obtain ⟨z, hz⟩ : ∃ z, isNum n = z := ⟨_, rfl⟩
  rw [ho] at d0 ⊢
  rw [hx] at c1 ⊢
  rw [hy] at d1 ⊢
  rw [hz] at HI ⊢
  clear hb h ho hx hy hz
  cases o with
  | false =>
    rw [if_pos (.inl rfl)]
    go_enter Tryz.func64, Tryz.ntmps64
    go_wp2_with (go_at_call 51; (with_reducible refine HN.out.mono ?_); rintro e w1 ⟨rfl, rfl⟩)
    go_quiet (fail)
    go_wp2
    go_ret
    exact ⟨rfl, grew_drewN (grew_refl _) _⟩
  | true =>
    by_cases he : x = y
    · subst he
      have e1 : ((x : Int) != (x : Int)) = false := by simp
      have e2 : (x != x) = false := by simp
      rw [if_neg (by simp)]
      cases z
      · rw [if_neg (by decide)]
        go_enter Tryz.func64, Tryz.ntmps64
        go_wp2_with (go_at_call 51; (with_reducible refine HN.out.mono ?_); rintro e w1 ⟨rfl, rfl⟩)
        go_quiet (fail)
        go_wp2_with (go_at_call 60; (with_reducible refine (HI.out _).mono ?_); rintro e w1 ⟨rfl, rfl⟩)
        go_ret
        exact ⟨rfl, grew_drewN (grew_refl _) _⟩
      · rw [if_pos rfl]
        go_enter Tryz.func64, Tryz.ntmps64
        go_wp2_with (go_at_call 51; (with_reducible refine HN.out.mono ?_); rintro e w1 ⟨rfl, rfl⟩)
        go_quiet (fail)
        go_wp2_with (go_at_call 60; (with_reducible refine (HI.out _).mono ?_); rintro e w1 ⟨rfl, rfl⟩)
        go_ret
        exact ⟨rfl, grew_drewN (grew_refl _) _⟩
    · have e1 : ((x : Int) != (y : Int)) = true := by rw [bne_iff_ne]; omega
      have e2 : (x != y) = true := by rw [bne_iff_ne]; exact he
      rw [if_pos (.inr he)]
      clear he
      go_enter Tryz.func64, Tryz.ntmps64
      go_wp2_with (go_at_call 51; (with_reducible refine HN.out.mono ?_); rintro e w1 ⟨rfl, rfl⟩)
      go_quiet (fail)
      go_wp2
      go_ret
      exact ⟨rfl, grew_drewN (grew_refl _) _⟩

end Go.Proofs.YtmohnddglmolgaaGreatDoor
namespace Go.Proofs.YtmohnddglmolgaaGreatDoor
open Go Go.RowKit Go.Lin Go.Lin.Kp

theorem later_both {W w' : World} (h : Grew W w') : Grew W w' ∧ ∀ b o, b < W.heap.size → w'.cell? ⟨b, o, none⟩ = W.cell? ⟨b, o, none⟩ := ⟨h, (bcell h).1⟩

theorem memIs_opened {w : World} {bm bn : Nat} {sv : Value} {M : Mem} {F : Nat → Prop} {x : Nat} (h : MemIs w bm bn sv M F) (hx : M.fails + M.opened = x) :
    MemIs (w.setCell ⟨bm, 134, none⟩ (.int .i64 ((x : Int) + 1))) bm bn sv { M with opened := M.opened + 1 } F ∧ Keeps (InF F) w (w.setCell ⟨bm, 134, none⟩ (.int .i64 ((x : Int) + 1))) := by
  have hk : ∀ may : Nat → Obj → Prop, (∀ o, may bm o) → Keeps may w (w.setCell ⟨bm, 134, none⟩ (.int .i64 ((x : Int) + 1))) := fun may hm => keeps_set1 _ _ hm
  refine ⟨⟨(h.row.set 134 _).congr fun i hi => ?_, h.notes.setOther h.ne _, h.early.keeps (hk (fun k _ => k = bm) (fun _ => rfl)) (fun k o hs e => hs.2.1 e), h.inM, h.inN, fun k hk2 => Nat.lt_of_lt_of_le (h.lt k hk2) (hk (InF F) (fun _ => h.inM)).size⟩, hk _ (fun _ => h.inM)⟩
  unfold memAt
  by_cases h1 : i < 129
  · rw [if_neg (by omega)]; simp only [h1, if_true]
  · have : i = 129 ∨ i = 130 ∨ i = 131 ∨ i = 132 ∨ i = 133 ∨ i = 134 := by omega
    rcases this with rfl | rfl | rfl | rfl | rfl | rfl
    · rfl
    · rfl
    · rfl
    · rfl
    · rfl
    · simp; omega

theorem len_entries (f : Nat → Int) (n : Nat) : (entriesOf f n).length = n := by simp [entriesOf]
theorem nth_entries (f : Nat → Int) {n i : Nat} (h : i < n) : nth (entriesOf f n) i = f (i + 1) := by
  rw [nth_lt (by rw [len_entries]; exact h)]; simp [entriesOf]

theorem slice_entries {w : World} {bm bn : Nat} {sv : Value} {M : Mem} {F : Nat → Prop} (h : MemIs w bm bn sv M F) {n c : Nat} (hn : n ≤ 63) : IsInts Any w (.slice (some ⟨bm, 2, none⟩) n c) (entriesOf M.fresh n) := by
  refine ⟨some ⟨bm, 2, none⟩, c, by rw [len_entries], by rw [len_entries]; omega, fun i hi => ?_⟩
  rw [len_entries] at hi
  obtain ⟨cs, hb, _⟩ := id h.row
  refine ⟨bm, 2, _, rfl, hb, trivial, ?_⟩
  show _ = some (Value.int .i64 (nth (entriesOf M.fresh n) i))
  rw [nth_entries _ hi, show 2 + i = 1 + (i + 1) by omega]
  exact h.cF (by omega)

theorem slice_run (bm n : Nat) (hn : n ≤ 63) (W : World) : (Instr.sliceAt 84 (.pointer (some ⟨bm, 1, none⟩)) (some (.int .i64 1)) (some (.int .i64 (1 + (n : Int)))) none).run Tryz.prog W = .ok (.slice (some ⟨bm, 2, none⟩) n 63) W := by
  have hl : Tryz.prog.arrayLen 84 = 64 := by kernel_rfl
  rw [run_sliceAt_array_lh W 84 ⟨bm, 1, none⟩ (by kernel_rfl) .i64 .i64 1 (1 + (n : Int)) (by omega) (by omega) (by rw [hl]; omega), show (sizeOf (Tryz.prog.elem 84)).run Tryz.prog W = .ok 1 W by kernel_rfl, hl]
  show Result.ok (slicedAt ⟨bm, 1, none⟩ (1 : Int).toNat (1 + (n : Int)).toNat 64 1) W = _
  unfold slicedAt
  rw [show (1 + (n : Int)).toNat = 1 + n by omega]
  simp [Addr.add]

theorem size_start (M : Mem) : M.start.size = M.size := by unfold Mem.start; split <;> rfl

/-- A new order. -/
theorem ord_new (w : World) (bm : Nat) : ∃ W, w.alloc (.cells #[ptr bm, .int .i64 0] 128) = W ∧ Grew w W ∧ OrdAt W w.heap.size bm 0 ∧ w.heap.size < W.heap.size :=
  ⟨_, rfl, grew_alloc (grew_refl _) _, heap_alloc_new w _, by simp⟩

theorem keepsO {w w' : World} {F : Nat → Prop} {bo : Nat} (h : Keeps (fun k _ => F k ∨ k = bo) w w') (hb : w.heap.size ≤ bo) : Keeps (InF F) w w' :=
  ⟨h.os, h.tape, h.output, h.size, fun k o ho hn => h.obj k o ho (fun e => e.elim hn (fun e => by have := lt_of_obj ho; omega))⟩

theorem fresh_done {M : Mem} {r : Bool} {f : Mem → Mem} {i : Nat} (hf : r = true → ∀ M', (f M').fresh i = M'.fresh i) : (M.done r f).2.fresh i = M.fresh i := by
  unfold Mem.done
  split
  · rename_i hr
    split
    · unfold Mem.step
      split
      · rfl
      · exact hf hr _
    · rfl
  · rfl
theorem fresh_put {o : Ord} {c n : Int} {i : Nat} (hc : 0 ≤ c) (hi : (i : Int) ≠ c) : (Ord.put o c n).2.fresh i = o.2.fresh i := by
  have a : ∀ o : Ord, (Ord.write o c n).2.fresh i = o.2.fresh i := fun o => by
    unfold Ord.write; split
    · exact fresh_done (fun _ M' => upd_other _ _ (by omega))
    · rfl
  have b : ∀ o : Ord, (Ord.flush o c).2.fresh i = o.2.fresh i := fun o => by
    unfold Ord.flush; split
    · exact fresh_done (fun _ M' => rfl)
    · rfl
  have d : ∀ o : Ord, (Ord.fence o).2.fresh i = o.2.fresh i := fun o => by
    unfold Ord.fence; split
    · exact fresh_done (fun _ M' => rfl)
    · rfl
  unfold Ord.put
  rw [d, b, a]

/-- What opening leaves. -/
def OpenLeft (w : World) (bm : Nat) (F : Nat → Prop) (r : Option Bk × Int × Mem) (e : Ending) (w' : World) : Prop :=
  IsMem w' bm r.2.2 F ∧ Keeps (InF F) w w' ∧ match r.1 with
  | some b => ∃ bb G, e = .returned (.tuple #[ptr bb, .int .i64 0]) ∧ IsBook w' bb bm b G ∧ ∀ k, G k → w.heap.size ≤ k
  | none => e = .returned (.tuple #[.pointer none, .int .i64 r.2.1])

theorem open_done {w w6 w8 : World} {bm x n : Nat} {F : Nat → Prop} {M' : Mem} {b : Bk} {u : Value} (hm : IsMem w6 bm M' F) (hk : Keeps (InF F) w w6) (hg : Grew w6 w8) (hs : Seg w8 w6.heap.size 3 1 u n (b.list.map (.int .i64))) (hx : b.fails + b.opened = x + 1) (hn : b.list.length = n) :
    OpenLeft w bm F (some b, 0, M') (.returned (.tuple #[ptr w8.heap.size, .int .i64 0])) (w8.alloc (.cells #[ptr bm, .int .i64 ((x : Int) + 1), u] 96)) := by
  have hw := hk.size
  have hg8 := hg.size
  refine ⟨(hm.grew hg).grew (grew_alloc (grew_refl _) _), (hk.trans hg.keeps).alloc _, w8.heap.size, fun k => w6.heap.size ≤ k ∧ k < w8.heap.size + 1, rfl, ⟨u, ?_, ?_, ⟨hg8, Nat.lt_succ_self _⟩, ?_, fun k hk2 => by simp only [World.size_alloc]; exact hk2.2⟩, fun k hk2 => Nat.le_trans hw hk2.1⟩
  · rw [hx]; exact heap_alloc_new w8 _
  · rw [hn]; exact (hs.mono (Nat.zero_le _)).alloc _
  · intro k e
    have := hs.own k e
    exact ⟨this.1, by have := this.2.1; omega⟩

theorem open41_none (v : Value) (w : World) (h : Calls Tryz.prog 57 #[v] w fun e w' => e = .returned (.bool true) ∧ w = w') : Calls Tryz.prog 41 #[v] w fun e w' => e = .returned (.tuple #[.pointer none, .int .i64 102]) ∧ w = w' := by
  have HS := hid (start26_none v w h)
  clear h
  go_enter Tryz.func41, Tryz.ntmps41
  go_wp2_with (go_at_call 26; (with_reducible refine HS.out.mono ?_); rintro e w1 ⟨rfl, rfl⟩)
  go_ret2
  exact ⟨rfl, rfl⟩

set_option maxHeartbeats 4000000 in
set_option maxRecDepth 20000 in
theorem open41_mem (bm : Nat) (M : Mem) (F : Nat → Prop) (w : World) (h : IsMem w bm M F) (hok : Ok M) (hsz : M.size + 10 < 1000000000) :
    Calls Tryz.prog 41 #[ptr bm] w (OpenLeft w bm F M.open_) := by
  have HST := hid (start26_mem bm M F w h)
  have hok1 := ok_start hok
  have hsz1 := size_start M
  have hFl : ∀ k, F k → k < w.heap.size := by obtain ⟨_, _, h⟩ := h; exact h.lt
  unfold Mem.open_
  have hon1 := on_start M
  obtain ⟨M1, hM1⟩ : ∃ M1, M.start = M1 := ⟨_, rfl⟩
  rw [hM1] at HST hok1 hsz1 hon1 ⊢
  rw [← hsz1] at hsz
  clear hM1 hsz1 hok h
  have hr0 := hok1.fresh 0
  obtain ⟨n, hn⟩ : ∃ n : Nat, M1.fresh 0 = (n : Int) := ⟨(M1.fresh 0).toNat, by omega⟩
  rw [hn] at hr0
  have HFL := hid hFl
  have HOK := hid hok1
  have HN := hid hn
  have q0 : ∀ W, IsMem W bm M1 F → W.cell? ⟨bm, 1, none⟩ = some (.int .i64 (n : Int)) := fun W ⟨_, _, hm⟩ => by rw [← HN.out]; exact hm.cF (i := 0) (by omega)
  have Q0 := hid q0
  rw [hn]
  clear q0 hn hFl
  by_cases h20 : n > 20
  · have hI : (n : Int) > 20 := by omega
    rw [if_pos hI]
    go_enter Tryz.func41, Tryz.ntmps41
    go_wp2_with (go_at_call 26; (with_reducible refine HST.out.mono ?_); rintro e w1 ⟨rfl, hm, hk⟩; have c0 := Q0.out _ hm; have HM1 := hid hm; have HK1 := hid hk; clear hm hk)
    go_ret2
    exact ⟨HM1.out, HK1.out, rfl⟩
  · have hI : ¬ (n : Int) > 20 := by omega
    have hn20 : n ≤ 20 := by omega
    rw [if_neg hI]
    clear h20 hI
    have hb40 := hok1.fresh 40
    have hb41 := hok1.fresh 41
    have hb42 := hok1.fresh 42
    obtain ⟨k40, h40⟩ : ∃ k, M1.fresh 40 = k := ⟨_, rfl⟩
    obtain ⟨k41, h41⟩ : ∃ k, M1.fresh 41 = k := ⟨_, rfl⟩
    obtain ⟨k42, h42⟩ : ∃ k, M1.fresh 42 = k := ⟨_, rfl⟩
    rw [h40] at hb40
    rw [h41] at hb41
    rw [h42] at hb42
    have Q1 := hid (fun (W : World) (h : IsMem W bm M1 F) => (by obtain ⟨_, _, hm⟩ := h; rw [← h41]; exact hm.cF (i := 41) (by omega) : W.cell? ⟨bm, 42, none⟩ = some (.int .i64 k41)))
    have Q2 := hid (fun (W : World) (h : IsMem W bm M1 F) => (by obtain ⟨_, _, hm⟩ := h; rw [← h42]; exact hm.cF (i := 42) (by omega) : W.cell? ⟨bm, 43, none⟩ = some (.int .i64 k42)))
    have Q4 := hid (fun (W : World) (h : IsMem W bm M1 F) => (by obtain ⟨_, _, hm⟩ := h; rw [← h40]; exact hm.cF (i := 40) (by omega) : W.cell? ⟨bm, 41, none⟩ = some (.int .i64 k40)))
    have H40 := hid h40; have H41 := hid h41; have H42 := hid h42
    have hU : Goes M1 (undo M1) 3 := by
      unfold undo
      split
      · rename_i hu
        rw [h40, h41, HN.out] at hu
        exact ((Goes.refl hok1 hon1).put (isCell_iff.2 (by rw [h41]; omega)) (isNum_iff.2 (by rw [h42]; omega)))
      · exact (Goes.refl hok1 hon1).mono (by omega)
    have hV : Goes M1 (unnote (undo M1)) 6 := by
      unfold unnote
      split
      · exact hU.mono (by omega)
      · exact hU.put (by decide) (by decide)
    have hsU := hU.size
    have hsV := hV.size
    obtain ⟨oU, hoU⟩ : ∃ o, undo M1 = o := ⟨_, rfl⟩
    obtain ⟨oV, hoV⟩ : ∃ o, unnote oU = o := ⟨_, rfl⟩
    rw [hoU] at hU hV hsU hsV ⊢
    rw [hoV] at hV hsV ⊢
    have HP1 := hid (fun (W : World) (bo : Nat) (c : Int) (hc : c = k41) (hb : OrdAt W bo bm 0) (hnF : ¬ F bo) (h : IsMem W bm M1 F) => (by rw [hc]; exact put65_any bo bm (0, M1) F W k41 k42 hb hnF h hok1 (by dsimp only; omega) : Calls Tryz.prog 65 #[ptr bo, .int .i64 c, .int .i64 k42] W (LeftO W bo bm (Ord.put (0, M1) k41 k42) F)))
    have HP2 := hid (fun (W : World) (bo : Nat) (hb : OrdAt W bo bm oU.1) (hnF : ¬ F bo) (h : IsMem W bm oU.2 F) => put65_any bo bm oU F W 40 0 hb hnF h hU.ok (by omega))
    have hrV := hV.res
    have HU := hid hU; have HV := hid hV
    have HOU := hid hoU; have HOV := hid hoV
    have hwn : IntKind.i64.wrap (1 + (n : Int)) = 1 + (n : Int) := IntWalk.i64_in _ (by omega)
    have hsl := slice_run bm n (by omega)
    have HB := hid (fun (W : World) => between54_any 1 k41 (n : Int) W)
    have Q3 := hid (fun (W : World) (h : IsMem W bm oU.2 F) => (by obtain ⟨_, _, hm⟩ := h; exact hm.cF (i := 40) (by omega) : W.cell? ⟨bm, 41, none⟩ = some (.int .i64 (oU.2.fresh 40))))
    obtain ⟨eV, heV⟩ : ∃ e, oV.1 = e := ⟨_, rfl⟩
    obtain ⟨x, hx⟩ : ∃ x, oV.2.fails + oV.2.opened = x := ⟨_, rfl⟩
    have hx9 : x < 1000000000 := by rw [← hx]; unfold Mem.size at hsV hsz; omega
    have HX := hid hx
    have HCL := hid (fun (W : World) (h : IsMem W bm { oV.2 with opened := oV.2.opened + 1 } F) => (by obtain ⟨_, _, hm⟩ := h; have := clone_ints (.slice (some ⟨bm, 2, none⟩) n 63) n (entriesOf oV.2.fresh n) W (len_entries _ _) (by omega) (slice_entries hm (by omega)); exact this :
      Calls Tryz.prog 52 #[.slice (some ⟨bm, 2, none⟩) n 63] W fun e w' => ∃ u, e = .returned u ∧ Seg w' W.heap.size 3 1 u n ((entriesOf oV.2.fresh n).map (.int .i64)) ∧ Grew W w'))
    rw [heV] at hrV
    have D1 := hid (fun (W : World) (bo : Nat) (h : OrdAt W bo bm oV.1) => (by rw [← heV]; exact h.c1 : W.cell? ⟨bo, 1, none⟩ = some (.int .i64 eV)))
    have A5 := hid (fun (W : World) (h : IsMem W bm oV.2 F) => (by obtain ⟨_, _, hm⟩ := h; rw [← hx]; exact hm.cA : W.cell? ⟨bm, 134, none⟩ = some (.int .i64 (x : Int))))
    have A6 := hid (fun (W : World) (h : IsMem W bm { oV.2 with opened := oV.2.opened + 1 } F) => (by obtain ⟨_, _, hm⟩ := h; have h7 := hm.cA; dsimp only at h7; rw [show oV.2.fails + (oV.2.opened + 1) = x + 1 by omega] at h7; exact h7 : W.cell? ⟨bm, 134, none⟩ = some (.int .i64 ((x : Int) + 1))))
    have HEV := hid heV
    simp only [Int.toNat_natCast]
    clear h40 h41 h42 hU hV hsU hsV hoU hoV heV hx hok1 hsz
    by_cases hA : k40 = 1 ∧ 1 ≤ k41 ∧ k41 ≤ (n : Int)
    · obtain ⟨rfl, hA1, hA2⟩ := hA
      have HPU := hid (show Ord.put (0, M1) k41 k42 = oU by rw [← HOU.out]; unfold undo; rw [if_pos ⟨H40.out, by rw [H41.out]; exact hA1, by rw [H41.out, HN.out]; exact hA2⟩, H41.out, H42.out])
      have hz : oU.2.fresh 40 = 1 := by rw [← HPU.out, fresh_put (by omega) (by omega)]; exact H40.out
      have HPV := hid (show Ord.put oU 40 0 = oV by rw [← HOV.out]; unfold unnote; rw [if_neg (by rw [hz]; decide)])
      rw [hz] at Q3
      rw [show (decide (1 ≤ k41) && decide (k41 ≤ (n : Int))) = true by simp [hA1, hA2]] at HB
      clear hz hA1 hA2
      rcases hrV with ⟨hv0, -, -⟩ | ⟨hv0, -, -⟩
      · subst hv0
        rw [if_pos HEV.out]
        go_enter Tryz.func41, Tryz.ntmps41
        go_wp2_with (first
          | (go_at_call 26; (with_reducible refine HST.out.mono ?_); rintro e w1 ⟨rfl, hm, hk⟩; (obtain ⟨w2, hw2, g2, ho2, hz2⟩ := ord_new w1 bm; have c0 := Q0.out _ hm; have hm2 := hm.grew g2; have c41 := Q1.out _ hm2; have c42 := Q2.out _ hm2; have c40 := Q4.out _ hm2; have hnF : ¬ F w1.heap.size := (fun e => by have := HFL.out _ e; have := hk.size; omega); have HW1 := hid hk.size; have HM2 := hid hm2; have HO2 := hid ho2; have HK2 := hid (hk.trans g2.keeps); have o0 := ho2.c0; have o1 := ho2.c1;  clear hm hk hm2 ho2 g2))
          | (go_at_call 54; (with_reducible refine (HB.out _).mono ?_); rintro e w3 ⟨rfl, rfl⟩)
          | (go_at_call 65; (with_reducible refine (HP1.out _ _ _ (by omega) HO2.out hnF HM2.out).mono ?_); rintro e w4 ⟨rfl, hm, ho, hk⟩; rw [HPU.out] at hm ho; have z40 := Q3.out _ hm; have HM4 := hid hm; have HO4 := hid ho; have HK4 := hid hk; have o0 := ho.c0; clear hm ho hk)
          | (go_at_call 65; (with_reducible refine (HP2.out _ _ HO4.out hnF HM4.out).mono ?_); rintro e w5 ⟨rfl, hm, ho, hk⟩; rw [HPV.out] at hm ho; have HK5 := hid hk; have o0 := ho.c0; have hm5 := hm; have ho5 := ho; have d1 := D1.out _ _ ho5; obtain ⟨bn5, sv5, hmi⟩ := id hm5; have a5 := A5.out _ hm5; have f5 := hmi.row.frozen 134; obtain ⟨hm6, hk6⟩ := memIs_opened hmi HX.out; obtain ⟨w6, hw6⟩ : ∃ w6, w5.setCell ⟨bm, 134, none⟩ (.int .i64 ((x : Int) + 1)) = w6 := ⟨_, rfl⟩; rw [hw6] at hm6 hk6; have a6 := A6.out _ ⟨_, _, hm6⟩; have hbm6 := hm6.row.lt; have HM6 := hid (p := IsMem w6 bm { oV.2 with opened := oV.2.opened + 1 } F) ⟨_, _, hm6⟩; have HK6 := hid hk6; clear hmi hm6 hk6; have HM5 := hid hm5; clear hm5 ho5; clear hm ho hk))
        have hkall : Keeps (fun k _ => F k ∨ k = w1.heap.size) w w5 := (((HK2.out.mono (fun _ _ h => .inl h)).trans HK4.out).trans HK5.out)
        have HKF := hid (keepsO hkall HW1.out)
        clear hkall
        go_region_held3 (fun w' => Grew w6 w' ∧ ∀ b o, b < w6.heap.size → w'.cell? ⟨b, o, none⟩ = w6.cell? ⟨b, o, none⟩) (exact later_both (by repeat' (first | assumption | exact grew_refl _ | refine grew_drew ?_ | refine grew_alloc ?_ _)))
          ((go_at_call 52; (with_reducible refine (HCL.out _ (IsMem.grew HM6.out (by repeat' (first | assumption | exact grew_refl _ | refine grew_drew ?_ | refine grew_alloc ?_ _)))).mono ?_); rintro e w8 ⟨u, rfl, hs, hg⟩; have hg8 : Grew w6 w8 := grew_trans (by repeat' (first | assumption | exact grew_refl _ | refine grew_drew ?_ | refine grew_alloc ?_ _)) hg; have HS8 := hid (hs.mono (show w6.heap.size ≤ _ by first | exact Nat.le_refl _ | (simp; done))); have HG8 := hid hg8; obtain ⟨ua, uc, rfl, hul⟩ := hs.shape; clear hs hg hul))
        all_goals (
          go_wp2
          go_ret2
          exact open_done HM6.out (HKF.out.trans HK6.out) HG8.out HS8.out (by dsimp only; rw [← HX.out]; omega) (len_entries _ _))
      · subst hv0
        rw [if_neg (by rw [HEV.out]; decide)]
        go_enter Tryz.func41, Tryz.ntmps41
        go_wp2_with (first
          | (go_at_call 26; (with_reducible refine HST.out.mono ?_); rintro e w1 ⟨rfl, hm, hk⟩; (obtain ⟨w2, hw2, g2, ho2, hz2⟩ := ord_new w1 bm; have c0 := Q0.out _ hm; have hm2 := hm.grew g2; have c41 := Q1.out _ hm2; have c42 := Q2.out _ hm2; have c40 := Q4.out _ hm2; have hnF : ¬ F w1.heap.size := (fun e => by have := HFL.out _ e; have := hk.size; omega); have HW1 := hid hk.size; have HM2 := hid hm2; have HO2 := hid ho2; have HK2 := hid (hk.trans g2.keeps); have o0 := ho2.c0; have o1 := ho2.c1;  clear hm hk hm2 ho2 g2))
          | (go_at_call 54; (with_reducible refine (HB.out _).mono ?_); rintro e w3 ⟨rfl, rfl⟩)
          | (go_at_call 65; (with_reducible refine (HP1.out _ _ _ (by omega) HO2.out hnF HM2.out).mono ?_); rintro e w4 ⟨rfl, hm, ho, hk⟩; rw [HPU.out] at hm ho; have z40 := Q3.out _ hm; have HM4 := hid hm; have HO4 := hid ho; have HK4 := hid hk; have o0 := ho.c0; clear hm ho hk)
          | (go_at_call 65; (with_reducible refine (HP2.out _ _ HO4.out hnF HM4.out).mono ?_); rintro e w5 ⟨rfl, hm, ho, hk⟩; rw [HPV.out] at hm ho; have HK5 := hid hk; have o0 := ho.c0; have hm5 := hm; have ho5 := ho; have d1 := D1.out _ _ ho5; have HM5 := hid hm5; clear hm5 ho5; clear hm ho hk))
        have hkall : Keeps (fun k _ => F k ∨ k = w1.heap.size) w w5 := (((HK2.out.mono (fun _ _ h => .inl h)).trans HK4.out).trans HK5.out)
        have HKF := hid (keepsO hkall HW1.out)
        go_quiet (fail)
        go_wp2
        go_ret2
        exact ⟨HM5.out.grew (grew_drewN (grew_refl _) _), HKF.out.drewN _, by rw [HEV.out]; rfl⟩
    · have hu : oU = (0, M1) := by rw [← HOU.out]; unfold undo; rw [if_neg (by rw [H40.out, H41.out, HN.out]; exact hA)]
      subst hu
      simp only at HP2 Q3
      by_cases h0 : k40 = 0
      · subst h0
        have hv : oV = (0, M1) := by rw [← HOV.out]; unfold unnote; rw [if_pos H40.out]
        have HVV := hid hv
        have hv0 : eV = 0 := by rw [← HEV.out, hv]
        subst hv0
        rw [if_pos HEV.out]
        clear hv
        clear hA hrV
        go_enter Tryz.func41, Tryz.ntmps41
        go_wp2_with (first
          | (go_at_call 26; (with_reducible refine HST.out.mono ?_); rintro e w1 ⟨rfl, hm, hk⟩; (obtain ⟨w2, hw2, g2, ho2, hz2⟩ := ord_new w1 bm; have c0 := Q0.out _ hm; have hm2 := hm.grew g2; have c41 := Q1.out _ hm2; have c42 := Q2.out _ hm2; have c40 := Q4.out _ hm2; have hnF : ¬ F w1.heap.size := (fun e => by have := HFL.out _ e; have := hk.size; omega); have HW1 := hid hk.size; have HM2 := hid hm2; have HO2 := hid ho2; have HK2 := hid (hk.trans g2.keeps); have o0 := ho2.c0; have o1 := ho2.c1; have hm5 := (by rw [HVV.out]; exact hm2 : IsMem w2 bm oV.2 F); have ho5 := (by rw [HVV.out]; exact ho2 : OrdAt w2 w1.heap.size bm oV.1); have d1 := D1.out _ _ ho5; obtain ⟨bn5, sv5, hmi⟩ := id hm5; have a5 := A5.out _ hm5; have f5 := hmi.row.frozen 134; obtain ⟨hm6, hk6⟩ := memIs_opened hmi HX.out; obtain ⟨w6, hw6⟩ : ∃ w6, w2.setCell ⟨bm, 134, none⟩ (.int .i64 ((x : Int) + 1)) = w6 := ⟨_, rfl⟩; rw [hw6] at hm6 hk6; have a6 := A6.out _ ⟨_, _, hm6⟩; have hbm6 := hm6.row.lt; have HM6 := hid (p := IsMem w6 bm { oV.2 with opened := oV.2.opened + 1 } F) ⟨_, _, hm6⟩; have HK6 := hid hk6; clear hmi hm6 hk6; have HM5 := hid hm5; clear hm5 ho5;  clear hm hk hm2 ho2 g2))
          | (go_at_call 54; (with_reducible refine (HB.out _).mono ?_); rintro e w3 ⟨rfl, rfl⟩))
        have hkall : Keeps (fun k _ => F k ∨ k = w1.heap.size) w w2 := (HK2.out.mono (fun _ _ h => .inl h))
        have HKF := hid (keepsO hkall HW1.out)
        clear hkall
        go_region_held3 (fun w' => Grew w6 w' ∧ ∀ b o, b < w6.heap.size → w'.cell? ⟨b, o, none⟩ = w6.cell? ⟨b, o, none⟩) (exact later_both (by repeat' (first | assumption | exact grew_refl _ | refine grew_drew ?_ | refine grew_alloc ?_ _)))
          ((go_at_call 52; (with_reducible refine (HCL.out _ (IsMem.grew HM6.out (by repeat' (first | assumption | exact grew_refl _ | refine grew_drew ?_ | refine grew_alloc ?_ _)))).mono ?_); rintro e w8 ⟨u, rfl, hs, hg⟩; have hg8 : Grew w6 w8 := grew_trans (by repeat' (first | assumption | exact grew_refl _ | refine grew_drew ?_ | refine grew_alloc ?_ _)) hg; have HS8 := hid (hs.mono (show w6.heap.size ≤ _ by first | exact Nat.le_refl _ | (simp; done))); have HG8 := hid hg8; obtain ⟨ua, uc, rfl, hul⟩ := hs.shape; clear hs hg hul))
        all_goals (
          go_wp2
          go_ret2
          exact open_done HM6.out (HKF.out.trans HK6.out) HG8.out HS8.out (by dsimp only; rw [← HX.out]; omega) (len_entries _ _))
      · have HPV := hid (show Ord.put (0, M1) 40 0 = oV by rw [← HOV.out]; unfold unnote; rw [if_neg (by dsimp only; rw [H40.out]; exact h0)])
        have e0 : (k40 != 0) = true := by rw [bne_iff_ne]; exact h0
        by_cases h1 : k40 = 1
        · subst h1
          rw [show (decide (1 ≤ k41) && decide (k41 ≤ (n : Int))) = false by
            rw [Bool.and_eq_false_iff]
            by_cases h2 : 1 ≤ k41
            · right; simp; have : ¬ k41 ≤ (n : Int) := fun h3 => hA ⟨rfl, h2, h3⟩; omega
            · left; simp; omega] at HB
          clear hA h0 e0
          rcases hrV with ⟨hv0, -, -⟩ | ⟨hv0, -, -⟩
          · subst hv0
            rw [if_pos HEV.out]
            go_enter Tryz.func41, Tryz.ntmps41
            go_wp2_with (first
              | (go_at_call 26; (with_reducible refine HST.out.mono ?_); rintro e w1 ⟨rfl, hm, hk⟩; (obtain ⟨w2, hw2, g2, ho2, hz2⟩ := ord_new w1 bm; have c0 := Q0.out _ hm; have hm2 := hm.grew g2; have c41 := Q1.out _ hm2; have c42 := Q2.out _ hm2; have c40 := Q4.out _ hm2; have hnF : ¬ F w1.heap.size := (fun e => by have := HFL.out _ e; have := hk.size; omega); have HW1 := hid hk.size; have HM2 := hid hm2; have HO2 := hid ho2; have HK2 := hid (hk.trans g2.keeps); have o0 := ho2.c0; have o1 := ho2.c1;  clear hm hk hm2 ho2 g2))
              | (go_at_call 54; (with_reducible refine (HB.out _).mono ?_); rintro e w3 ⟨rfl, rfl⟩)
              | (go_at_call 65; (with_reducible refine (HP2.out _ _ HO2.out hnF HM2.out).mono ?_); rintro e w5 ⟨rfl, hm, ho, hk⟩; rw [HPV.out] at hm ho; have HK5 := hid hk; have o0 := ho.c0; have hm5 := hm; have ho5 := ho; have d1 := D1.out _ _ ho5; obtain ⟨bn5, sv5, hmi⟩ := id hm5; have a5 := A5.out _ hm5; have f5 := hmi.row.frozen 134; obtain ⟨hm6, hk6⟩ := memIs_opened hmi HX.out; obtain ⟨w6, hw6⟩ : ∃ w6, w5.setCell ⟨bm, 134, none⟩ (.int .i64 ((x : Int) + 1)) = w6 := ⟨_, rfl⟩; rw [hw6] at hm6 hk6; have a6 := A6.out _ ⟨_, _, hm6⟩; have hbm6 := hm6.row.lt; have HM6 := hid (p := IsMem w6 bm { oV.2 with opened := oV.2.opened + 1 } F) ⟨_, _, hm6⟩; have HK6 := hid hk6; clear hmi hm6 hk6; have HM5 := hid hm5; clear hm5 ho5; clear hm ho hk))
            have hkall : Keeps (fun k _ => F k ∨ k = w1.heap.size) w w5 := ((HK2.out.mono (fun _ _ h => .inl h)).trans HK5.out)
            have HKF := hid (keepsO hkall HW1.out)
            clear hkall
            go_region_held3 (fun w' => Grew w6 w' ∧ ∀ b o, b < w6.heap.size → w'.cell? ⟨b, o, none⟩ = w6.cell? ⟨b, o, none⟩) (exact later_both (by repeat' (first | assumption | exact grew_refl _ | refine grew_drew ?_ | refine grew_alloc ?_ _)))
              ((go_at_call 52; (with_reducible refine (HCL.out _ (IsMem.grew HM6.out (by repeat' (first | assumption | exact grew_refl _ | refine grew_drew ?_ | refine grew_alloc ?_ _)))).mono ?_); rintro e w8 ⟨u, rfl, hs, hg⟩; have hg8 : Grew w6 w8 := grew_trans (by repeat' (first | assumption | exact grew_refl _ | refine grew_drew ?_ | refine grew_alloc ?_ _)) hg; have HS8 := hid (hs.mono (show w6.heap.size ≤ _ by first | exact Nat.le_refl _ | (simp; done))); have HG8 := hid hg8; obtain ⟨ua, uc, rfl, hul⟩ := hs.shape; clear hs hg hul))
            all_goals (
              go_wp2
              go_ret2
              exact open_done HM6.out (HKF.out.trans HK6.out) HG8.out HS8.out (by dsimp only; rw [← HX.out]; omega) (len_entries _ _))
          · subst hv0
            rw [if_neg (by rw [HEV.out]; decide)]
            go_enter Tryz.func41, Tryz.ntmps41
            go_wp2_with (first
              | (go_at_call 26; (with_reducible refine HST.out.mono ?_); rintro e w1 ⟨rfl, hm, hk⟩; (obtain ⟨w2, hw2, g2, ho2, hz2⟩ := ord_new w1 bm; have c0 := Q0.out _ hm; have hm2 := hm.grew g2; have c41 := Q1.out _ hm2; have c42 := Q2.out _ hm2; have c40 := Q4.out _ hm2; have hnF : ¬ F w1.heap.size := (fun e => by have := HFL.out _ e; have := hk.size; omega); have HW1 := hid hk.size; have HM2 := hid hm2; have HO2 := hid ho2; have HK2 := hid (hk.trans g2.keeps); have o0 := ho2.c0; have o1 := ho2.c1;  clear hm hk hm2 ho2 g2))
              | (go_at_call 54; (with_reducible refine (HB.out _).mono ?_); rintro e w3 ⟨rfl, rfl⟩)
              | (go_at_call 65; (with_reducible refine (HP2.out _ _ HO2.out hnF HM2.out).mono ?_); rintro e w5 ⟨rfl, hm, ho, hk⟩; rw [HPV.out] at hm ho; have HK5 := hid hk; have o0 := ho.c0; have hm5 := hm; have ho5 := ho; have d1 := D1.out _ _ ho5; have HM5 := hid hm5; clear hm5 ho5; clear hm ho hk))
            have hkall : Keeps (fun k _ => F k ∨ k = w1.heap.size) w w5 := ((HK2.out.mono (fun _ _ h => .inl h)).trans HK5.out)
            have HKF := hid (keepsO hkall HW1.out)
            go_quiet (fail)
            go_wp2
            go_ret2
            exact ⟨HM5.out.grew (grew_drewN (grew_refl _) _), HKF.out.drewN _, by rw [HEV.out]; rfl⟩
        · have e1 : (k40 == 1) = false := by rw [beq_eq_false_iff_ne]; exact h1
          clear hA h0 h1
          rcases hrV with ⟨hv0, -, -⟩ | ⟨hv0, -, -⟩
          · subst hv0
            rw [if_pos HEV.out]
            go_enter Tryz.func41, Tryz.ntmps41
            go_wp2_with (first
              | (go_at_call 26; (with_reducible refine HST.out.mono ?_); rintro e w1 ⟨rfl, hm, hk⟩; (obtain ⟨w2, hw2, g2, ho2, hz2⟩ := ord_new w1 bm; have c0 := Q0.out _ hm; have hm2 := hm.grew g2; have c41 := Q1.out _ hm2; have c42 := Q2.out _ hm2; have c40 := Q4.out _ hm2; have hnF : ¬ F w1.heap.size := (fun e => by have := HFL.out _ e; have := hk.size; omega); have HW1 := hid hk.size; have HM2 := hid hm2; have HO2 := hid ho2; have HK2 := hid (hk.trans g2.keeps); have o0 := ho2.c0; have o1 := ho2.c1;  clear hm hk hm2 ho2 g2))
              | (go_at_call 54; (with_reducible refine (HB.out _).mono ?_); rintro e w3 ⟨rfl, rfl⟩)
              | (go_at_call 65; (with_reducible refine (HP2.out _ _ HO2.out hnF HM2.out).mono ?_); rintro e w5 ⟨rfl, hm, ho, hk⟩; rw [HPV.out] at hm ho; have HK5 := hid hk; have o0 := ho.c0; have hm5 := hm; have ho5 := ho; have d1 := D1.out _ _ ho5; obtain ⟨bn5, sv5, hmi⟩ := id hm5; have a5 := A5.out _ hm5; have f5 := hmi.row.frozen 134; obtain ⟨hm6, hk6⟩ := memIs_opened hmi HX.out; obtain ⟨w6, hw6⟩ : ∃ w6, w5.setCell ⟨bm, 134, none⟩ (.int .i64 ((x : Int) + 1)) = w6 := ⟨_, rfl⟩; rw [hw6] at hm6 hk6; have a6 := A6.out _ ⟨_, _, hm6⟩; have hbm6 := hm6.row.lt; have HM6 := hid (p := IsMem w6 bm { oV.2 with opened := oV.2.opened + 1 } F) ⟨_, _, hm6⟩; have HK6 := hid hk6; clear hmi hm6 hk6; have HM5 := hid hm5; clear hm5 ho5; clear hm ho hk))
            have hkall : Keeps (fun k _ => F k ∨ k = w1.heap.size) w w5 := ((HK2.out.mono (fun _ _ h => .inl h)).trans HK5.out)
            have HKF := hid (keepsO hkall HW1.out)
            clear hkall
            go_region_held3 (fun w' => Grew w6 w' ∧ ∀ b o, b < w6.heap.size → w'.cell? ⟨b, o, none⟩ = w6.cell? ⟨b, o, none⟩) (exact later_both (by repeat' (first | assumption | exact grew_refl _ | refine grew_drew ?_ | refine grew_alloc ?_ _)))
              ((go_at_call 52; (with_reducible refine (HCL.out _ (IsMem.grew HM6.out (by repeat' (first | assumption | exact grew_refl _ | refine grew_drew ?_ | refine grew_alloc ?_ _)))).mono ?_); rintro e w8 ⟨u, rfl, hs, hg⟩; have hg8 : Grew w6 w8 := grew_trans (by repeat' (first | assumption | exact grew_refl _ | refine grew_drew ?_ | refine grew_alloc ?_ _)) hg; have HS8 := hid (hs.mono (show w6.heap.size ≤ _ by first | exact Nat.le_refl _ | (simp; done))); have HG8 := hid hg8; obtain ⟨ua, uc, rfl, hul⟩ := hs.shape; clear hs hg hul))
            all_goals (
              go_wp2
              go_ret2
              exact open_done HM6.out (HKF.out.trans HK6.out) HG8.out HS8.out (by dsimp only; rw [← HX.out]; omega) (len_entries _ _))
          · subst hv0
            rw [if_neg (by rw [HEV.out]; decide)]
            go_enter Tryz.func41, Tryz.ntmps41
            go_wp2_with (first
              | (go_at_call 26; (with_reducible refine HST.out.mono ?_); rintro e w1 ⟨rfl, hm, hk⟩; (obtain ⟨w2, hw2, g2, ho2, hz2⟩ := ord_new w1 bm; have c0 := Q0.out _ hm; have hm2 := hm.grew g2; have c41 := Q1.out _ hm2; have c42 := Q2.out _ hm2; have c40 := Q4.out _ hm2; have hnF : ¬ F w1.heap.size := (fun e => by have := HFL.out _ e; have := hk.size; omega); have HW1 := hid hk.size; have HM2 := hid hm2; have HO2 := hid ho2; have HK2 := hid (hk.trans g2.keeps); have o0 := ho2.c0; have o1 := ho2.c1;  clear hm hk hm2 ho2 g2))
              | (go_at_call 54; (with_reducible refine (HB.out _).mono ?_); rintro e w3 ⟨rfl, rfl⟩)
              | (go_at_call 65; (with_reducible refine (HP2.out _ _ HO2.out hnF HM2.out).mono ?_); rintro e w5 ⟨rfl, hm, ho, hk⟩; rw [HPV.out] at hm ho; have HK5 := hid hk; have o0 := ho.c0; have hm5 := hm; have ho5 := ho; have d1 := D1.out _ _ ho5; have HM5 := hid hm5; clear hm5 ho5; clear hm ho hk))
            have hkall : Keeps (fun k _ => F k ∨ k = w1.heap.size) w w5 := ((HK2.out.mono (fun _ _ h => .inl h)).trans HK5.out)
            have HKF := hid (keepsO hkall HW1.out)
            go_quiet (fail)
            go_wp2
            go_ret2
            exact ⟨HM5.out.grew (grew_drewN (grew_refl _) _), HKF.out.drewN _, by rw [HEV.out]; rfl⟩

end Go.Proofs.YtmohnddglmolgaaGreatDoor
namespace Go.Proofs.YtmohnddglmolgaaGreatDoor
open Go Go.RowKit Go.Lin Go.Lin.Kp

/-- What a deed leaves: its answer, the book, the memory. -/
def DeedLeft (w : World) (bb bm : Nat) (F G : Nat → Prop) (r : Int × Bk × Mem) (e : Ending) (w' : World) : Prop :=
  e = .returned (.int .i64 r.1) ∧ IsMem w' bm r.2.2 F ∧ (∃ G', IsBook w' bb bm r.2.1 G' ∧ Wider w G G') ∧ Keeps (fun k _ => F k ∨ G k) w w'

theorem BookIs.ne {w : World} {bb bm : Nat} {v : Value} {b : Bk} {G : Nat → Prop} (h : BookIs w bb bm v b G) : ∀ k, v.ownBlock = some k → k ≠ bb := by
  rintro k e rfl
  obtain ⟨_, _, cur, hc⟩ := h.list.own k e
  rw [h.obj] at hc; cases hc

/-- An entry goes to the end. -/
theorem book_append {w w9 : World} {bb bm n : Nat} {v v9 : Value} {b : Bk} {G : Nat → Prop} {y : Int} {c : Array Value} (h : BookIs w bb bm v b G) (hn : b.list.length = n) (hs : Seg w9 0 3 1 v9 (n + 1) ((b.list.map (.int .i64)) ++ [.int .i64 y]))
    (hg : (w.alloc (.cells c 3)).grownBy w9 v.ownBlock) (hb : v9.ownBlock = v.ownBlock ∨ v9.ownBlock = some (w.alloc (.cells c 3)).heap.size) :
    (∃ G', IsBook (w9.setCell ⟨bb, 2, none⟩ v9) bb bm { b with list := b.list ++ [y] } G' ∧ Wider w G G') ∧ Keeps (fun k _ => G k) w (w9.setCell ⟨bb, 2, none⟩ v9) ∧ w9.heap[bb]? = some (.cells #[ptr bm, .int .i64 ((b.fails + b.opened : Nat) : Int), v] 96 (0, 0)) := by
  have hlb := lt_of_obj h.obj
  have hsz : (w.alloc (.cells c 3)).heap.size = w.heap.size + 1 := by simp
  have hne : v.ownBlock ≠ some bb := fun e => h.ne bb e rfl
  have hob : w9.heap[bb]? = some (.cells #[ptr bm, .int .i64 ((b.fails + b.opened : Nat) : Int), v] 96 (0, 0)) := by
    rw [hg.block bb (by rw [hsz]; omega) (fun e => hne e.symm), Deep.blk_alloc_lt _ _ _ hlb]; exact h.obj
  have hk1 : Keeps (fun k _ => G k) w w9 := ((Keeps.refl _ w).alloc _).grown hg (fun k o e _ => h.inL k e)
  have hk : Keeps (fun k _ => G k) w (w9.setCell ⟨bb, 2, none⟩ v9) := hk1.trans (keeps_set1 _ _ (fun _ => h.inB))
  have hne9 : ∀ k, v9.ownBlock = some k → k ≠ bb := by
    rintro k e rfl
    obtain ⟨_, _, cur, hc⟩ := hs.own k e
    rw [hob] at hc; cases hc
  refine ⟨⟨fun k => G k ∨ (w.heap.size ≤ k ∧ k < w9.heap.size), ⟨v9, ?_, ?_, .inl h.inB, ?_, ?_⟩, fun k hk2 => hk2.imp id (fun e => e.1)⟩, hk, hob⟩
  · rw [heap_setCell_same w9 bb 2 _ _ _ hob]; rfl
  · have e1 : (b.list ++ [y]).length = n + 1 := by simp [hn]
    have e2 : (b.list ++ [y]).map (Value.int .i64) = (b.list.map (.int .i64)) ++ [.int .i64 y] := by simp
    show Seg _ 0 3 1 v9 (b.list ++ [y]).length ((b.list ++ [y]).map (Value.int .i64))
    rw [e1, e2]
    exact hs.keeps (keeps_set1 _ (fun k _ => k = bb) (fun _ => rfl)) (fun k o e _ hk => hne9 k e hk)
  · intro k e
    have hl := (hs.own k e).2.1
    rcases hb with h1 | h1
    · rw [h1] at e; exact .inl (h.inL k e)
    · rw [h1] at e; cases e; exact .inr ⟨by rw [hsz]; omega, hl⟩
  · rintro k (hk2 | hk2)
    · exact Nat.lt_of_lt_of_le (h.lt k hk2) hk.size
    · simp only [World.size_setCell]; exact hk2.2

set_option maxHeartbeats 4000000 in
set_option maxRecDepth 20000 in
theorem add31_any (bb bm : Nat) (b : Bk) (M : Mem) (F G : Nat → Prop) (n : Int) (w : World) (hB : IsBook w bb bm b G) (h : IsMem w bm M F) (hFG : ∀ k, F k → ¬ G k) (hok : Ok M) (hsz : M.size + 10 < 1000000000) (hlen : b.list.length ≤ 20) :
    Calls Tryz.prog 31 #[ptr bb, .int .i64 n] w (DeedLeft w bb bm F G (M.add b n)) := by
  have HA := hid (asked64_any bb bm b G M F n w hB h)
  have HB := hid hB; have HM := hid h
  unfold Mem.add
  obtain ⟨q, hq⟩ : ∃ q, askedB M b n = q := ⟨_, rfl⟩
  rw [hq] at HA ⊢
  have HQ := hid hq
  clear hq h
  by_cases h0 : q = 0
  · subst h0
    rw [if_pos rfl]
    obtain ⟨v, hb⟩ := hB
    obtain ⟨va, vc, rfl, hvl⟩ := hb.list.shape
    obtain ⟨l, hl⟩ : ∃ l, b.list.length = l := ⟨_, rfl⟩
    rw [hl] at hb hlen ⊢
    have HL := hid hl
    have HBI := hid hb
    have c0 := hb.c0; have c2 := hb.c2
    have hbl := lt_of_obj hb.obj
    clear hvl hl hb
    by_cases h20 : l = 20
    · subst h20
      rw [if_pos rfl]
      go_enter Tryz.func31, Tryz.ntmps31
      go_wp2_with (go_at_call 64; (with_reducible refine HA.out.mono ?_); rintro e w1 ⟨rfl, hg⟩; have HG := hid hg; have d0 := (hg.cell (p := ⟨bb, 0, none⟩) hbl).trans c0; have d2 := (hg.cell (p := ⟨bb, 2, none⟩) hbl).trans c2; clear hg)
      go_ret
      exact ⟨rfl, HM.out.grew HG.out, ⟨G, HB.out.grew HG.out, fun k h => .inl h⟩, HG.out.keeps⟩
    · rw [if_neg h20]
      have hlI : (l : Int) < 20 := by omega
      have e20 : ((l : Int) == 20) = false := by rw [beq_eq_false_iff_ne]; omega
      have e20' : (l == 20) = false := by rw [beq_eq_false_iff_ne]; exact h20
      have hwl : IntKind.i64.wrap ((l : Int) + 1) = (l : Int) + 1 := IntWalk.i64_in _ (by omega)
      have hon : M.on = true ∧ isNum n = true := by
        have := HQ.out
        unfold askedB at this
        split at this
        · cases this
        · rename_i h1
          split at this
          · rename_i h2; exact ⟨by cases e : M.on; exact absurd (.inl e) h1; rfl, h2⟩
          · cases this
      have hG1 : Goes M (Ord.put (0, M) ((l : Int) + 1) n) 3 := (Goes.refl hok hon.1).put (isCell_iff.2 (by omega)) hon.2
      have hG2 : Goes M (Ord.put (Ord.put (0, M) ((l : Int) + 1) n) 0 ((l : Int) + 1)) 6 := hG1.put (by decide) (isNum_iff.2 (by omega))
      have hs1 := hG1.size
      have HG1 := hid hG1
      unfold addO
      rw [HL.out]
      obtain ⟨o1, ho1⟩ : ∃ o, Ord.put (0, M) ((l : Int) + 1) n = o := ⟨_, rfl⟩
      rw [ho1] at hG2 hs1 HG1 ⊢
      obtain ⟨o2, ho2⟩ : ∃ o, Ord.put o1 0 ((l : Int) + 1) = o := ⟨_, rfl⟩
      rw [ho2] at hG2 ⊢
      dsimp only
      have HP1 := hid (fun (W : World) (bo : Nat) (c : Int) (hc : c = (l : Int) + 1) (hb : OrdAt W bo bm 0) (hnF : ¬ F bo) (h : IsMem W bm M F) => (by rw [hc, ← ho1]; exact put65_any bo bm (0, M) F W _ n hb hnF h hok (by dsimp only; omega) : Calls Tryz.prog 65 #[ptr bo, .int .i64 c, .int .i64 n] W (LeftO W bo bm o1 F)))
      have HP2 := hid (fun (W : World) (bo : Nat) (hb : OrdAt W bo bm o1.1) (hnF : ¬ F bo) (h : IsMem W bm o1.2 F) => (by rw [← ho2]; exact put65_any bo bm o1 F W 0 _ hb hnF h HG1.out.ok (by omega) : Calls Tryz.prog 65 #[ptr bo, .int .i64 0, .int .i64 ((l : Int) + 1)] W (LeftO W bo bm o2 F)))
      have hres := hG2.res
      obtain ⟨eV, heV⟩ : ∃ e, o2.1 = e := ⟨_, rfl⟩
      rw [heV] at hres ⊢
      have D1 := hid (fun (W : World) (bo : Nat) (h : OrdAt W bo bm o2.1) => (by rw [← heV]; exact h.c1 : W.cell? ⟨bo, 1, none⟩ = some (.int .i64 eV)))
      have HFG := hid hFG
      have HFl := hid (fun k (e : F k) => (by obtain ⟨_, _, h⟩ := HM.out; exact h.lt k e : k < w.heap.size))
      clear ho1 ho2 heV hG1 hG2 hs1 hon hFG hsz h20
      rcases hres with ⟨rfl, -, -⟩ | ⟨rfl, -, -⟩
      · rw [if_pos rfl]
        go_enter Tryz.func31, Tryz.ntmps31
        go_wp2_with (first
          | (go_at_call 64; (with_reducible refine HA.out.mono ?_); rintro e w1 ⟨rfl, hg⟩; obtain ⟨w2, hw2, g2, hoo, hz2⟩ := ord_new w1 bm; have d0 := (hg.cell (p := ⟨bb, 0, none⟩) hbl).trans c0; have d2 := (hg.cell (p := ⟨bb, 2, none⟩) hbl).trans c2; have hg2 := grew_trans hg g2; have HM2 := hid (HM.out.grew hg2); have HBI2 := hid (HBI.out.grew hg2); have HO2 := hid hoo; have HG2 := hid hg2; have hnF : ¬ F w1.heap.size := (fun e => by have := HFl.out _ e; have := hg.size; omega); have HW1 := hid hg.size; have HW2 := hid g2.size; clear hg g2 hoo hg2)
          | (go_at_call 65; (with_reducible refine (HP1.out _ _ _ (by omega) HO2.out hnF HM2.out).mono ?_); rintro e w3 ⟨rfl, hm, ho, hk⟩; have HM3 := hid hm; have HO3 := hid ho; have HK3 := hid hk; clear hm ho hk)
          | (go_at_call 65; (with_reducible refine (HP2.out _ _ HO3.out hnF HM3.out).mono ?_); rintro e w4 ⟨rfl, hm, ho, hk⟩; have d1 := D1.out _ _ ho; have hk4 := HK3.out.trans hk; have hbk := HBI2.out.keeps hk4 (fun k o hG e => e.elim (fun e => HFG.out k e hG) (fun e => by have := HBI.out.lt k hG; have := HW1.out; omega)); have b2 := hbk.c2; have fb := hbk.fr 2; have HBK := hid hbk; have HM4 := hid hm; have HK4 := hid hk4; clear hm ho hk hk4 hbk)
          | (at_builtin; (refine wpList_append_one rfl _ _ 39 rfl 0 3 Tryz.underlying39 Tryz.info3 rfl (by decide) (.slice va l vc) l _ rfl ((by have h := HBK.out.list; rw [HL.out] at h; exact h : Seg w4 0 3 1 (.slice va l vc) l (b.list.map (.int .i64))).alloc _) _ _ _ rfl (one_new _ _ _) rfl (by omega) ?_ ?_; (exact Nat.zero_le _); intro v9 w9 hown9 hgrow9 hblk9; obtain ⟨a9, c9, rfl, hl9⟩ := hown9.shape; clear hl9; have hkk := book_append HBK.out HL.out hown9 hgrow9 hblk9; obtain ⟨hk9a, hk9b, hob9⟩ := hkk; have b29 := cell_of_row w9 bb 2 _ _ _ hob9; have f29 := frozen_of_row w9 bb 2 _ _ hob9; have HK9 := hid hk9a; have HK9b := hid hk9b; have hz9 := lt_of_obj hob9; have hgg := hgrow9; have HGG := hid hgg; have o9 := (by have h1 := hgrow9.block w1.heap.size (by have h5 : w1.heap.size < w4.heap.size := World.block_lt_of_cell? w4 _ d1; simp only [World.size_alloc]; omega) (fun e => by have h2 := HBK.out.inL _ e.symm; have := HBI.out.lt _ h2; have := HW1.out; omega); rw [World.cell?_of_block (a := ⟨w1.heap.size, 1, none⟩) h1, World.cell?_alloc_lt (a := ⟨w1.heap.size, 1, none⟩) _ _ (World.block_lt_of_cell? w4 _ d1)]; exact d1 : w9.cell? ⟨w1.heap.size, 1, none⟩ = some (.int .i64 0)); clear hk9a hk9b hob9 hown9 hblk9 hgrow9 hgg)))
        go_ret
        refine ⟨rfl, HM4.out.keeps HK9b.out (fun k _ hF hG => HFG.out k hF hG), ?_, ?_⟩
        · obtain ⟨G', hb, hw⟩ := HK9.out
          exact ⟨G', hb, fun k hk => (hw k hk).imp id (fun h => by have := HW1.out; have := HW2.out; have := HK4.out.size; omega)⟩
        · exact ((keepsO ((HG2.out.keeps).trans HK4.out) HW1.out).mono (fun k _ h => .inl h)).trans (HK9b.out.mono (fun k _ h => .inr h))
      · rw [if_neg (by decide)]
        go_enter Tryz.func31, Tryz.ntmps31
        go_wp2_with (first
          | (go_at_call 64; (with_reducible refine HA.out.mono ?_); rintro e w1 ⟨rfl, hg⟩; obtain ⟨w2, hw2, g2, hoo, hz2⟩ := ord_new w1 bm; have d0 := (hg.cell (p := ⟨bb, 0, none⟩) hbl).trans c0; have d2 := (hg.cell (p := ⟨bb, 2, none⟩) hbl).trans c2; have hg2 := grew_trans hg g2; have HM2 := hid (HM.out.grew hg2); have HBI2 := hid (HBI.out.grew hg2); have HO2 := hid hoo; have HG2 := hid hg2; have hnF : ¬ F w1.heap.size := (fun e => by have := HFl.out _ e; have := hg.size; omega); have HW1 := hid hg.size; have HW2 := hid g2.size; clear hg g2 hoo hg2)
          | (go_at_call 65; (with_reducible refine (HP1.out _ _ _ (by omega) HO2.out hnF HM2.out).mono ?_); rintro e w3 ⟨rfl, hm, ho, hk⟩; have HM3 := hid hm; have HO3 := hid ho; have HK3 := hid hk; clear hm ho hk)
          | (go_at_call 65; (with_reducible refine (HP2.out _ _ HO3.out hnF HM3.out).mono ?_); rintro e w4 ⟨rfl, hm, ho, hk⟩; have d1 := D1.out _ _ ho; have hk4 := HK3.out.trans hk; have hbk := HBI2.out.keeps hk4 (fun k o hG e => e.elim (fun e => HFG.out k e hG) (fun e => by have := HBI.out.lt k hG; have := HW1.out; omega)); have HBK := hid hbk; have HM4 := hid hm; have HK4 := hid hk4; clear hm ho hk hk4 hbk))
        go_ret
        exact ⟨rfl, HM4.out, ⟨G, ⟨_, HBK.out⟩, fun k h => .inl h⟩, (keepsO ((HG2.out.keeps).trans HK4.out) HW1.out).mono (fun k _ h => .inl h)⟩
  · rw [if_neg h0]
    have e1 : (q != 0) = true := by rw [bne_iff_ne]; exact h0
    clear h0
    go_enter Tryz.func31, Tryz.ntmps31
    go_wp2_with (go_at_call 64; (with_reducible refine HA.out.mono ?_); rintro e w1 ⟨rfl, hg⟩; have HG := hid hg; clear hg)
    go_ret
    exact ⟨rfl, HM.out.grew HG.out, ⟨G, HB.out.grew HG.out, fun k h => .inl h⟩, HG.out.keeps⟩

end Go.Proofs.YtmohnddglmolgaaGreatDoor
namespace Go.Lin
open Go Go.RowKit
theorem Seg.set {w : World} {base n j : Nat} {v : Value} {xs : List Value} (h : Seg w base 3 1 v n xs) {g off cap : Nat} (hv : v = .slice (some ⟨g, off, none⟩) n cap) (hj : j < n) (u : Value) :
    Seg (w.setCell ⟨g, off + j, none⟩ u) base 3 1 v n (xs.set j u) := by
  obtain ⟨h1, h2⟩ := h
  refine ⟨by rw [List.length_set]; exact h1, ?_⟩
  rcases h2 with ⟨rfl, _⟩ | ⟨g', off', cap', cur, rfl, hb, hg, hn, hm, hs, ht⟩
  · simp at hv
  · simp only [Value.slice.injEq, Option.some.injEq, Addr.mk.injEq, and_true] at hv
    obtain ⟨⟨rfl, rfl⟩, -, rfl⟩ := hv
    refine .inr ⟨g', off', cap', _, rfl, hb, heap_setCell_same w g' (off' + j) cur 3 u hg, hn, hm, by simpa using hs, ?_⟩
    rw [← ht]
    have hlen : ((cur.toList.drop off').take (n * 1)).length = n := by rw [List.length_take, List.length_drop, Array.length_toList]; omega
    apply List.ext_getElem?
    intro t
    by_cases htj : t = j
    · subst htj
      rw [List.getElem?_take_of_lt (by omega), List.getElem?_drop, Array.getElem?_toList, Array.getElem?_setIfInBounds, if_pos rfl, if_pos (by omega), List.getElem?_set_self (by omega)]
    · rw [List.getElem?_set_ne (by omega)]
      by_cases ht : t < n * 1
      · rw [List.getElem?_take_of_lt ht, List.getElem?_take_of_lt ht, List.getElem?_drop, List.getElem?_drop, Array.getElem?_toList, Array.getElem?_toList, Array.getElem?_setIfInBounds, if_neg (by omega)]
      · rw [List.getElem?_eq_none (by rw [List.length_take]; omega), List.getElem?_eq_none (by rw [List.length_take]; omega)]
end Go.Lin
namespace Go.Proofs.YtmohnddglmolgaaGreatDoor
open Go Go.RowKit Go.Lin Go.Lin.Kp

/-- An entry is changed. -/
theorem book_set {w : World} {bb bm g off i : Nat} {c : Nat} {b : Bk} {G : Nat → Prop} {y : Int} (h : BookIs w bb bm (.slice (some ⟨g, off, none⟩) b.list.length c) b G) (hi : i < b.list.length) (hg : (Value.slice (some ⟨g, off, none⟩) b.list.length c).ownBlock = some g) :
    IsBook (w.setCell ⟨g, off + i, none⟩ (.int .i64 y)) bb bm { b with list := b.list.set i y } G ∧ Keeps (fun k _ => G k) w (w.setCell ⟨g, off + i, none⟩ (.int .i64 y)) := by
  have hne := h.ne g hg
  have hk : Keeps (fun k _ => G k) w (w.setCell ⟨g, off + i, none⟩ (.int .i64 y)) := keeps_set1 _ _ (fun _ => h.inL g hg)
  refine ⟨⟨.slice (some ⟨g, off, none⟩) b.list.length c, (keeps_set1 _ (fun k _ => k = g) (fun _ => rfl)).obj _ _ h.obj (fun e => hne e.symm), ?_, h.inB, h.inL, fun k hG => Nat.lt_of_lt_of_le (h.lt k hG) hk.size⟩, hk⟩
  have := Seg.set h.list rfl hi (.int .i64 y)
  simpa [List.map_set] using this

set_option maxHeartbeats 4000000 in
set_option maxRecDepth 20000 in
theorem change32_any (bb bm : Nat) (b : Bk) (M : Mem) (F G : Nat → Prop) (number n : Int) (w : World) (hB : IsBook w bb bm b G) (h : IsMem w bm M F) (hFG : ∀ k, F k → ¬ G k) (hok : Ok M) (hsz : M.size + 20 < 1000000000) (hlen : b.list.length ≤ 20) :
    Calls Tryz.prog 32 #[ptr bb, .int .i64 number, .int .i64 n] w (DeedLeft w bb bm F G (M.change b number n)) := by
  have HA := hid (asked64_any bb bm b G M F n w hB h)
  have HB := hid hB; have HM := hid h
  unfold Mem.change
  obtain ⟨q, hq⟩ : ∃ q, askedB M b n = q := ⟨_, rfl⟩
  rw [hq] at HA ⊢
  clear hq h
  by_cases h0 : q = 0
  · subst h0
    rw [if_pos rfl]
    obtain ⟨v, hb⟩ := hB
    obtain ⟨va, vc, rfl, hvl⟩ := hb.list.shape
    obtain ⟨l, hl⟩ : ∃ l, b.list.length = l := ⟨_, rfl⟩
    rw [hl] at hb hlen ⊢
    have HL := hid hl
    have HBI := hid hb
    have c0 := hb.c0; have c2 := hb.c2
    have hbl := lt_of_obj hb.obj
    have HBE := hid (fun W => between54_any 1 number (l : Int) W)
    clear hvl hl hb
    by_cases hA : 1 ≤ number ∧ number ≤ (l : Int)
    · rw [if_pos hA]
      obtain ⟨hA1, hA2⟩ := hA
      rw [show (decide (1 ≤ number) && decide (number ≤ (l : Int))) = true by simp [hA1, hA2]] at HBE
      obtain ⟨i, rfl⟩ : ∃ i : Nat, number = ((i : Int) + 1) := ⟨(number - 1).toNat, by omega⟩
      have hil : i < l := by omega
      rw [show ((i : Int) + 1 - 1).toNat = i by omega]
      obtain ⟨g, off, gc0, cur, hv, hg0, hgo, hcap, hcapm, hcells⟩ := HBI.out.list.at (by rw [HL.out]; omega)
      rw [HL.out] at hv
      cases hv
      have hgl := lt_of_obj hgo
      have hci := hcells i (by rw [HL.out]; omega)
      obtain ⟨was, hwas⟩ : ∃ x, nth b.list i = x := ⟨_, rfl⟩
      rw [List.getElem?_map, List.getElem?_eq_getElem (by rw [HL.out]; exact hil), Option.map_some, ← nth_lt (by rw [HL.out]; exact hil), hwas] at hci
      rw [hwas]
      unfold changeO
      obtain ⟨o1, h1⟩ : ∃ o, Ord.write (0, M) 41 ((i : Int) + 1) = o := ⟨_, rfl⟩
      obtain ⟨o2, h2⟩ : ∃ o, Ord.write o1 42 was = o := ⟨_, rfl⟩
      obtain ⟨o3, h3⟩ : ∃ o, Ord.flush o2 41 = o := ⟨_, rfl⟩
      obtain ⟨o4, h4⟩ : ∃ o, Ord.flush o3 42 = o := ⟨_, rfl⟩
      obtain ⟨o5, h5⟩ : ∃ o, Ord.fence o4 = o := ⟨_, rfl⟩
      obtain ⟨o6, h6⟩ : ∃ o, Ord.put o5 40 1 = o := ⟨_, rfl⟩
      obtain ⟨o7, h7⟩ : ∃ o, Ord.put o6 ((i : Int) + 1) n = o := ⟨_, rfl⟩
      obtain ⟨o8, h8⟩ : ∃ o, Ord.put o7 40 0 = o := ⟨_, rfl⟩
      rw [h1, h2, h3, h4, h5, h6, h7, h8]
      dsimp only
      have k1 : Ok o1.2 := h1 ▸ ok_owrite hok _ _
      have k2 : Ok o2.2 := h2 ▸ ok_owrite k1 _ _
      have k3 : Ok o3.2 := h3 ▸ ok_oflush k2 _
      have k4 : Ok o4.2 := h4 ▸ ok_oflush k3 _
      have k5 : Ok o5.2 := h5 ▸ ok_ofence k4
      have k6 : Ok o6.2 := h6 ▸ ok_put k5 _ _
      have k7 : Ok o7.2 := h7 ▸ ok_put k6 _ _
      have s1 : o1.2.size ≤ M.size + 1 := h1 ▸ size_owrite (0, M) _ _
      have s2 : o2.2.size ≤ o1.2.size + 1 := h2 ▸ size_owrite o1 _ _
      have s3 : o3.2.size ≤ o2.2.size + 1 := h3 ▸ size_oflush o2 _
      have s4 : o4.2.size ≤ o3.2.size + 1 := h4 ▸ size_oflush o3 _
      have s5 : o5.2.size ≤ o4.2.size + 1 := h5 ▸ size_ofence o4
      have s6 : o6.2.size ≤ o5.2.size + 3 := h6 ▸ size_put o5 _ _
      have s7 : o7.2.size ≤ o6.2.size + 3 := h7 ▸ size_put o6 _ _
      have P1 := hid (fun (W : World) (bo : Nat) (hb : OrdAt W bo bm 0) (hnF : ¬ F bo) (h : IsMem W bm M F) => (by rw [← h1]; exact owrite66_any bo bm (0, M) F W _ _ hb hnF h hok (by dsimp only; omega) : Calls Tryz.prog 66 #[ptr bo, .int .i64 41, .int .i64 ((i : Int) + 1)] W (LeftO W bo bm o1 F)))
      have P2 := hid (fun (W : World) (bo : Nat) (hb : OrdAt W bo bm o1.1) (hnF : ¬ F bo) (h : IsMem W bm o1.2 F) => (by rw [← h2]; exact owrite66_any bo bm o1 F W _ _ hb hnF h k1 (by omega) : Calls Tryz.prog 66 #[ptr bo, .int .i64 42, .int .i64 was] W (LeftO W bo bm o2 F)))
      have P3 := hid (fun (W : World) (bo : Nat) (hb : OrdAt W bo bm o2.1) (hnF : ¬ F bo) (h : IsMem W bm o2.2 F) => (by rw [← h3]; exact oflush67_any bo bm o2 F W _ hb hnF h k2 (by omega) : Calls Tryz.prog 67 #[ptr bo, .int .i64 41] W (LeftO W bo bm o3 F)))
      have P4 := hid (fun (W : World) (bo : Nat) (hb : OrdAt W bo bm o3.1) (hnF : ¬ F bo) (h : IsMem W bm o3.2 F) => (by rw [← h4]; exact oflush67_any bo bm o3 F W _ hb hnF h k3 (by omega) : Calls Tryz.prog 67 #[ptr bo, .int .i64 42] W (LeftO W bo bm o4 F)))
      have P5 := hid (fun (W : World) (bo : Nat) (hb : OrdAt W bo bm o4.1) (hnF : ¬ F bo) (h : IsMem W bm o4.2 F) => (by rw [← h5]; exact ofence68_any bo bm o4 F W hb hnF h k4 (by omega) : Calls Tryz.prog 68 #[ptr bo] W (LeftO W bo bm o5 F)))
      have P6 := hid (fun (W : World) (bo : Nat) (hb : OrdAt W bo bm o5.1) (hnF : ¬ F bo) (h : IsMem W bm o5.2 F) => (by rw [← h6]; exact put65_any bo bm o5 F W _ _ hb hnF h k5 (by omega) : Calls Tryz.prog 65 #[ptr bo, .int .i64 40, .int .i64 1] W (LeftO W bo bm o6 F)))
      have P7 := hid (fun (W : World) (bo : Nat) (c : Int) (hc : c = (i : Int) + 1) (hb : OrdAt W bo bm o6.1) (hnF : ¬ F bo) (h : IsMem W bm o6.2 F) => (by rw [hc, ← h7]; exact put65_any bo bm o6 F W _ _ hb hnF h k6 (by omega) : Calls Tryz.prog 65 #[ptr bo, .int .i64 c, .int .i64 n] W (LeftO W bo bm o7 F)))
      have P8 := hid (fun (W : World) (bo : Nat) (hb : OrdAt W bo bm o7.1) (hnF : ¬ F bo) (h : IsMem W bm o7.2 F) => (by rw [← h8]; exact put65_any bo bm o7 F W _ _ hb hnF h k7 (by omega) : Calls Tryz.prog 65 #[ptr bo, .int .i64 40, .int .i64 0] W (LeftO W bo bm o8 F)))
      obtain ⟨eV, heV⟩ : ∃ e, o8.1 = e := ⟨_, rfl⟩
      rw [heV]
      have D1 := hid (fun (W : World) (bo : Nat) (h : OrdAt W bo bm o8.1) => (by rw [← heV]; exact h.c1 : W.cell? ⟨bo, 1, none⟩ = some (.int .i64 eV)))
      have HFG := hid hFG
      have HFl := hid (fun k (e : F k) => (by obtain ⟨_, _, h⟩ := HM.out; exact h.lt k e : k < w.heap.size))
      have hwl : IntKind.i64.wrap ((i : Int) + 1 - 1) = (i : Int) := by rw [Int.add_sub_cancel]; exact IntWalk.i64_in _ (by omega)
      have hilI : (i : Int) < (l : Int) := by omega
      have HCI := hid (fun (W : World) (h : BookIs W bb bm (.slice (some ⟨g, off, none⟩) l vc) b G) => (by
        obtain ⟨_, _, e, _, hc⟩ := h.list.isInts
        simp only [Value.slice.injEq] at e
        obtain ⟨rfl, -, -⟩ := e
        obtain ⟨b', off', o', e1, _, _, e4⟩ := hc i (by rw [HL.out]; exact hil)
        cases e1
        rw [← hwas]; exact e4 : W.cell? ⟨g, off + i, none⟩ = some (.int .i64 was)))
      have HFR := hid (fun (W : World) (h : BookIs W bb bm (.slice (some ⟨g, off, none⟩) l vc) b G) => (by
        obtain ⟨_, _, cur, hc⟩ := h.list.own g rfl
        exact frozen_of_row _ _ _ _ _ hc : W.frozen? ⟨g, off + i, none⟩ = false))
      have HOB := hid (show (Value.slice (some ⟨g, off, none⟩) l vc).ownBlock = some g from rfl)
      clear h1 h2 h3 h4 h5 h6 h7 h8 k1 k2 k3 k4 k5 k6 k7 s1 s2 s3 s4 s5 s6 s7 heV hFG hsz hwas hcells hcap hcapm hg0 hgo
      by_cases he : eV = 0
      · subst he
        rw [if_pos rfl]
        go_enter Tryz.func32, Tryz.ntmps32
        go_wp2_with (first
          | (go_at_call 64; (with_reducible refine HA.out.mono ?_); rintro e w1 ⟨rfl, hg⟩; obtain ⟨w2, hw2, g2, hoo, hz2⟩ := ord_new w1 bm; have d0 := (hg.cell (p := ⟨bb, 0, none⟩) hbl).trans c0; have d2 := (hg.cell (p := ⟨bb, 2, none⟩) hbl).trans c2; have hg2 := grew_trans hg g2; have HM2 := hid (HM.out.grew hg2); have HBI2 := hid (HBI.out.grew hg2); have HO2 := hid hoo; have HG2 := hid hg2; have hnF : ¬ F w1.heap.size := (fun e => by have := HFl.out _ e; have := hg.size; omega); have HW1 := hid hg.size; have HW2 := hid g2.size; have HNG : Hid (∀ k, G k → k ≠ w1.heap.size) := hid (fun k hG e => by have := HBI.out.lt k hG; have := hg.size; omega); clear hg g2 hoo hg2)
          | (go_at_call 54; (with_reducible refine (HBE.out _).mono ?_); rintro e wq ⟨rfl, rfl⟩)
          | (go_at_call 66; (with_reducible refine (P1.out _ _ HO2.out hnF HM2.out).mono ?_); rintro e w3 ⟨rfl, hm, ho, hk⟩; have HM3 := hid hm; have HO3 := hid ho; have HK3 := hid hk; have hbk := HBI2.out.keeps hk (fun k o hG e => e.elim (fun e => HFG.out k e hG) (fun e => HNG.out k hG e)); have HBI3 := hid hbk; have b2 := hbk.c2; have y0 := HCI.out _ hbk; clear hm ho hk hbk)
          | (go_at_call 66; (with_reducible refine (P2.out _ _ HO3.out hnF HM3.out).mono ?_); rintro e w4 ⟨rfl, hm, ho, hk⟩; have HM4 := hid hm; have HO4 := hid ho; have HK4 := hid hk; have hbk := HBI3.out.keeps hk (fun k o hG e => e.elim (fun e => HFG.out k e hG) (fun e => HNG.out k hG e)); have HBI4 := hid hbk; clear hm ho hk hbk)
          | (go_at_call 67; (with_reducible refine (P3.out _ _ HO4.out hnF HM4.out).mono ?_); rintro e w5 ⟨rfl, hm, ho, hk⟩; have HM5 := hid hm; have HO5 := hid ho; have HK5 := hid hk; have hbk := HBI4.out.keeps hk (fun k o hG e => e.elim (fun e => HFG.out k e hG) (fun e => HNG.out k hG e)); have HBI5 := hid hbk; clear hm ho hk hbk)
          | (go_at_call 67; (with_reducible refine (P4.out _ _ HO5.out hnF HM5.out).mono ?_); rintro e w6 ⟨rfl, hm, ho, hk⟩; have HM6 := hid hm; have HO6 := hid ho; have HK6 := hid hk; have hbk := HBI5.out.keeps hk (fun k o hG e => e.elim (fun e => HFG.out k e hG) (fun e => HNG.out k hG e)); have HBI6 := hid hbk; clear hm ho hk hbk)
          | (go_at_call 68; (with_reducible refine (P5.out _ _ HO6.out hnF HM6.out).mono ?_); rintro e w7 ⟨rfl, hm, ho, hk⟩; have HM7 := hid hm; have HO7 := hid ho; have HK7 := hid hk; have hbk := HBI6.out.keeps hk (fun k o hG e => e.elim (fun e => HFG.out k e hG) (fun e => HNG.out k hG e)); have HBI7 := hid hbk; clear hm ho hk hbk)
          | (go_at_call 65; (with_reducible refine (P6.out _ _ HO7.out hnF HM7.out).mono ?_); rintro e w8 ⟨rfl, hm, ho, hk⟩; have HM8 := hid hm; have HO8 := hid ho; have HK8 := hid hk; have hbk := HBI7.out.keeps hk (fun k o hG e => e.elim (fun e => HFG.out k e hG) (fun e => HNG.out k hG e)); have HBI8 := hid hbk; clear hm ho hk hbk)
          | (go_at_call 65; (with_reducible refine (P7.out _ _ _ (by omega) HO8.out hnF HM8.out).mono ?_); rintro e w9 ⟨rfl, hm, ho, hk⟩; have HM9 := hid hm; have HO9 := hid ho; have HK9 := hid hk; have hbk := HBI8.out.keeps hk (fun k o hG e => e.elim (fun e => HFG.out k e hG) (fun e => HNG.out k hG e)); have HBI9 := hid hbk; clear hm ho hk hbk)
          | (go_at_call 65; (with_reducible refine (P8.out _ _ HO9.out hnF HM9.out).mono ?_); rintro e w10 ⟨rfl, hm, ho, hk⟩; have HM10 := hid hm; have HO10 := hid ho; have HK10 := hid hk; have hbk := HBI9.out.keeps hk (fun k o hG e => e.elim (fun e => HFG.out k e hG) (fun e => HNG.out k hG e)); have HBI10 := hid hbk; have d1 := D1.out _ _ ho; have b28 := hbk.c2; have y8 := HCI.out _ hbk; have y9 := HFR.out _ hbk; have d9 : (w10.setCell ⟨g, off + i, none⟩ (.int .i64 n)).cell? ⟨w1.heap.size, 1, none⟩ = some (.int .i64 0) := (by rw [World.cell?_setCell_other _ _ _ _ (fun h => by have h2 : g = w1.heap.size := congrArg Addr.block h; exact HNG.out g (HBI.out.inL g HOB.out) h2)]; exact d1); clear hm ho hk hbk))
        go_ret
        have hk10 := (((((((HK3.out.trans HK4.out).trans HK5.out).trans HK6.out).trans HK7.out).trans HK8.out).trans HK9.out).trans HK10.out)
        have hkw := (keepsO ((HG2.out.keeps).trans hk10) HW1.out).mono (may' := fun k _ => F k ∨ G k) (fun k _ h => .inl h)
        have hs := book_set (y := n) (show BookIs w10 bb bm (.slice (some ⟨g, off, none⟩) b.list.length vc) b G by rw [HL.out]; exact HBI10.out) (by rw [HL.out]; exact hil) rfl
        exact ⟨rfl, HM10.out.keeps hs.2 (fun k _ hF hG => HFG.out k hF hG), ⟨G, hs.1, fun k h => .inl h⟩, hkw.trans (hs.2.mono (fun k _ h => .inr h))⟩
      · rw [if_neg he]
        have e8 : (eV == 0) = false := by simpa using he
        clear he
        go_enter Tryz.func32, Tryz.ntmps32
        go_wp2_with (first
          | (go_at_call 64; (with_reducible refine HA.out.mono ?_); rintro e w1 ⟨rfl, hg⟩; obtain ⟨w2, hw2, g2, hoo, hz2⟩ := ord_new w1 bm; have d0 := (hg.cell (p := ⟨bb, 0, none⟩) hbl).trans c0; have d2 := (hg.cell (p := ⟨bb, 2, none⟩) hbl).trans c2; have hg2 := grew_trans hg g2; have HM2 := hid (HM.out.grew hg2); have HBI2 := hid (HBI.out.grew hg2); have HO2 := hid hoo; have HG2 := hid hg2; have hnF : ¬ F w1.heap.size := (fun e => by have := HFl.out _ e; have := hg.size; omega); have HW1 := hid hg.size; have HW2 := hid g2.size; have HNG : Hid (∀ k, G k → k ≠ w1.heap.size) := hid (fun k hG e => by have := HBI.out.lt k hG; have := hg.size; omega); clear hg g2 hoo hg2)
          | (go_at_call 54; (with_reducible refine (HBE.out _).mono ?_); rintro e wq ⟨rfl, rfl⟩)
          | (go_at_call 66; (with_reducible refine (P1.out _ _ HO2.out hnF HM2.out).mono ?_); rintro e w3 ⟨rfl, hm, ho, hk⟩; have HM3 := hid hm; have HO3 := hid ho; have HK3 := hid hk; have hbk := HBI2.out.keeps hk (fun k o hG e => e.elim (fun e => HFG.out k e hG) (fun e => HNG.out k hG e)); have HBI3 := hid hbk; have b2 := hbk.c2; have y0 := HCI.out _ hbk; clear hm ho hk hbk)
          | (go_at_call 66; (with_reducible refine (P2.out _ _ HO3.out hnF HM3.out).mono ?_); rintro e w4 ⟨rfl, hm, ho, hk⟩; have HM4 := hid hm; have HO4 := hid ho; have HK4 := hid hk; have hbk := HBI3.out.keeps hk (fun k o hG e => e.elim (fun e => HFG.out k e hG) (fun e => HNG.out k hG e)); have HBI4 := hid hbk; clear hm ho hk hbk)
          | (go_at_call 67; (with_reducible refine (P3.out _ _ HO4.out hnF HM4.out).mono ?_); rintro e w5 ⟨rfl, hm, ho, hk⟩; have HM5 := hid hm; have HO5 := hid ho; have HK5 := hid hk; have hbk := HBI4.out.keeps hk (fun k o hG e => e.elim (fun e => HFG.out k e hG) (fun e => HNG.out k hG e)); have HBI5 := hid hbk; clear hm ho hk hbk)
          | (go_at_call 67; (with_reducible refine (P4.out _ _ HO5.out hnF HM5.out).mono ?_); rintro e w6 ⟨rfl, hm, ho, hk⟩; have HM6 := hid hm; have HO6 := hid ho; have HK6 := hid hk; have hbk := HBI5.out.keeps hk (fun k o hG e => e.elim (fun e => HFG.out k e hG) (fun e => HNG.out k hG e)); have HBI6 := hid hbk; clear hm ho hk hbk)
          | (go_at_call 68; (with_reducible refine (P5.out _ _ HO6.out hnF HM6.out).mono ?_); rintro e w7 ⟨rfl, hm, ho, hk⟩; have HM7 := hid hm; have HO7 := hid ho; have HK7 := hid hk; have hbk := HBI6.out.keeps hk (fun k o hG e => e.elim (fun e => HFG.out k e hG) (fun e => HNG.out k hG e)); have HBI7 := hid hbk; clear hm ho hk hbk)
          | (go_at_call 65; (with_reducible refine (P6.out _ _ HO7.out hnF HM7.out).mono ?_); rintro e w8 ⟨rfl, hm, ho, hk⟩; have HM8 := hid hm; have HO8 := hid ho; have HK8 := hid hk; have hbk := HBI7.out.keeps hk (fun k o hG e => e.elim (fun e => HFG.out k e hG) (fun e => HNG.out k hG e)); have HBI8 := hid hbk; clear hm ho hk hbk)
          | (go_at_call 65; (with_reducible refine (P7.out _ _ _ (by omega) HO8.out hnF HM8.out).mono ?_); rintro e w9 ⟨rfl, hm, ho, hk⟩; have HM9 := hid hm; have HO9 := hid ho; have HK9 := hid hk; have hbk := HBI8.out.keeps hk (fun k o hG e => e.elim (fun e => HFG.out k e hG) (fun e => HNG.out k hG e)); have HBI9 := hid hbk; clear hm ho hk hbk)
          | (go_at_call 65; (with_reducible refine (P8.out _ _ HO9.out hnF HM9.out).mono ?_); rintro e w10 ⟨rfl, hm, ho, hk⟩; have HM10 := hid hm; have HO10 := hid ho; have HK10 := hid hk; have hbk := HBI9.out.keeps hk (fun k o hG e => e.elim (fun e => HFG.out k e hG) (fun e => HNG.out k hG e)); have HBI10 := hid hbk; have d1 := D1.out _ _ ho; have b28 := hbk.c2; have y8 := HCI.out _ hbk; have y9 := HFR.out _ hbk; have d9 : (w10.setCell ⟨g, off + i, none⟩ (.int .i64 n)).cell? ⟨w1.heap.size, 1, none⟩ = some (.int .i64 eV) := (by rw [World.cell?_setCell_other _ _ _ _ (fun h => by have h2 : g = w1.heap.size := congrArg Addr.block h; exact HNG.out g (HBI.out.inL g HOB.out) h2)]; exact d1); clear hm ho hk hbk))
        go_ret
        have hk10 := (((((((HK3.out.trans HK4.out).trans HK5.out).trans HK6.out).trans HK7.out).trans HK8.out).trans HK9.out).trans HK10.out)
        have hkw := (keepsO ((HG2.out.keeps).trans hk10) HW1.out).mono (may' := fun k _ => F k ∨ G k) (fun k _ h => .inl h)
        exact ⟨rfl, HM10.out, ⟨G, ⟨_, HBI10.out⟩, fun k h => .inl h⟩, hkw⟩
    · rw [if_neg hA]
      rw [show (decide (1 ≤ number) && decide (number ≤ (l : Int))) = false by
        rw [Bool.and_eq_false_iff]; by_cases h2 : 1 ≤ number
        · right; simp; omega
        · left; simp; omega] at HBE
      clear hA
      go_enter Tryz.func32, Tryz.ntmps32
      go_wp2_with (first
        | (go_at_call 64; (with_reducible refine HA.out.mono ?_); rintro e w1 ⟨rfl, hg⟩; have HG := hid hg; have d0 := (hg.cell (p := ⟨bb, 0, none⟩) hbl).trans c0; have d2 := (hg.cell (p := ⟨bb, 2, none⟩) hbl).trans c2; clear hg)
        | (go_at_call 54; (with_reducible refine (HBE.out _).mono ?_); rintro e w2 ⟨rfl, rfl⟩))
      go_ret
      exact ⟨rfl, HM.out.grew HG.out, ⟨G, HB.out.grew HG.out, fun k h => .inl h⟩, HG.out.keeps⟩
  · rw [if_neg h0]
    have e1 : (q != 0) = true := by rw [bne_iff_ne]; exact h0
    clear h0
    go_enter Tryz.func32, Tryz.ntmps32
    go_wp2_with (go_at_call 64; (with_reducible refine HA.out.mono ?_); rintro e w1 ⟨rfl, hg⟩; have HG := hid hg; clear hg)
    go_ret
    exact ⟨rfl, HM.out.grew HG.out, ⟨G, HB.out.grew HG.out, fun k h => .inl h⟩, HG.out.keeps⟩

end Go.Proofs.YtmohnddglmolgaaGreatDoor
