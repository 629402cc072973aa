/- Walks: the orders: write (66), flush (67), fence (68), put (65). -/
import Derived.Test.YtmohnddglmolgaaGreatDoorKpOps
namespace Go.Proofs.YtmohnddglmolgaaGreatDoor
open Go Go.RowKit Go.Lin Go.Lin.Kp

/-- Block bo is an order to the memory bm, with its first error. -/
def OrdAt (w : World) (bo bm : Nat) (e : Int) : Prop := w.heap[bo]? = some (.cells #[ptr bm, .int .i64 e] 128 (0, 0))

theorem OrdAt.keeps {w w' : World} {bo bm : Nat} {e : Int} {may : Nat → Obj → Prop} (h : OrdAt w bo bm e) (hk : Keeps may w w') (hm : ∀ o, ¬ may bo o) : OrdAt w' bo bm e := hk.obj _ _ h (hm _)
theorem OrdAt.c0 {w : World} {bo bm : Nat} {e : Int} (h : OrdAt w bo bm e) : w.cell? ⟨bo, 0, none⟩ = some (ptr bm) := cell_of_row w bo 0 _ _ _ h
theorem OrdAt.c1 {w : World} {bo bm : Nat} {e : Int} (h : OrdAt w bo bm e) : w.cell? ⟨bo, 1, none⟩ = some (.int .i64 e) := cell_of_row w bo 1 _ _ _ h
theorem OrdAt.fr {w : World} {bo bm : Nat} {e : Int} (h : OrdAt w bo bm e) (i : Nat) : w.frozen? ⟨bo, i, none⟩ = false := frozen_of_row w bo i _ _ h
theorem OrdAt.set {w : World} {bo bm : Nat} {e : Int} (h : OrdAt w bo bm e) (e' : Int) : OrdAt (w.setCell ⟨bo, 1, none⟩ (.int .i64 e')) bo bm e' := by
  unfold OrdAt; rw [heap_setCell_same w bo 1 _ _ _ h]; rfl

/-- What a step of an order leaves. -/
abbrev LeftO (w : World) (bo bm : Nat) (o : Ord) (F : Nat → Prop) (e : Ending) (w' : World) : Prop :=
  e = .returned (.tuple #[]) ∧ IsMem w' bm o.2 F ∧ OrdAt w' bo bm o.1 ∧ Keeps (fun k _ => F k ∨ k = bo) w w'

theorem ord_left {w w1 : World} {bo bm : Nat} {e : Int} {o : Ord} {F : Nat → Prop} (hb : OrdAt w bo bm e) (hnF : ¬ F bo) (hm : IsMem w1 bm o.2 F) (hk : Keeps (InF F) w w1) :
    IsMem (w1.setCell ⟨bo, 1, none⟩ (.int .i64 o.1)) bm o.2 F ∧ OrdAt (w1.setCell ⟨bo, 1, none⟩ (.int .i64 o.1)) bo bm o.1 ∧ Keeps (fun k _ => F k ∨ k = bo) w (w1.setCell ⟨bo, 1, none⟩ (.int .i64 o.1)) :=
  ⟨hm.keeps (keeps_set1 _ (fun k _ => k = bo) (fun _ => rfl)) (fun _ _ hF e => hnF (e ▸ hF)), (hb.keeps hk (fun _ => hnF)).set o.1, (hk.mono (fun _ _ h => .inl h)).trans (keeps_set1 _ _ (fun _ => .inr rfl))⟩

section
variable (bo bm : Nat) (o : Ord) (F : Nat → Prop) (w : World)

theorem owrite66_any (c n : Int) (hb : OrdAt w bo bm o.1) (hnF : ¬ F bo) (h : IsMem w bm o.2 F) (hok : Ok o.2) (hsz : o.2.size < 1000000000) :
    Calls Tryz.prog 66 #[ptr bo, .int .i64 c, .int .i64 n] w (LeftO w bo bm (Ord.write o c n) F) := by
  have HB := hid hb; have HM := hid h
  have HW := hid (write28_any bm o.2 F c n w h hok hsz)
  have c0 := hb.c0; have c1 := hb.c1
  unfold Ord.write
  obtain ⟨e, M⟩ := o
  simp only at c1 HB HM HW ⊢
  clear hb h hok hsz
  by_cases h0 : e = 0
  · rw [if_pos h0]
    subst h0
    go_enter Tryz.func66, Tryz.ntmps66
    go_wp2_with (go_at_call 28; (with_reducible refine HW.out.mono ?_); rintro e w1 ⟨rfl, hm, hk⟩; have HM1 := hid hm; have HK1 := hid hk; have d1 := (HB.out.keeps hk (fun _ => hnF)).c1; have f1 := (HB.out.keeps hk (fun _ => hnF)).fr 1; clear hm hk)
    go_end0
    exact ⟨rfl, ord_left HB.out hnF HM1.out HK1.out⟩
  · rw [if_neg h0]
    have e1 : (e == 0) = false := by simpa using h0
    clear h0
    go_enter Tryz.func66, Tryz.ntmps66
    go_wp2
    go_end0
    exact ⟨rfl, HM.out, HB.out, Keeps.refl _ _⟩

theorem oflush67_any (c : Int) (hb : OrdAt w bo bm o.1) (hnF : ¬ F bo) (h : IsMem w bm o.2 F) (hok : Ok o.2) (hsz : o.2.size < 1000000000) :
    Calls Tryz.prog 67 #[ptr bo, .int .i64 c] w (LeftO w bo bm (Ord.flush o c) F) := by
  have HB := hid hb; have HM := hid h
  have HW := hid (flush42_any bm o.2 F c w h hok hsz)
  have c0 := hb.c0; have c1 := hb.c1
  unfold Ord.flush
  obtain ⟨e, M⟩ := o
  simp only at c1 HB HM HW ⊢
  clear hb h hok hsz
  by_cases h0 : e = 0
  · rw [if_pos h0]
    subst h0
    go_enter Tryz.func67, Tryz.ntmps67
    go_wp2_with (go_at_call 42; (with_reducible refine HW.out.mono ?_); rintro e w1 ⟨rfl, hm, hk⟩; have HM1 := hid hm; have HK1 := hid hk; have d1 := (HB.out.keeps hk (fun _ => hnF)).c1; have f1 := (HB.out.keeps hk (fun _ => hnF)).fr 1; clear hm hk)
    go_end0
    exact ⟨rfl, ord_left HB.out hnF HM1.out HK1.out⟩
  · rw [if_neg h0]
    have e1 : (e == 0) = false := by simpa using h0
    clear h0
    go_enter Tryz.func67, Tryz.ntmps67
    go_wp2
    go_end0
    exact ⟨rfl, HM.out, HB.out, Keeps.refl _ _⟩

theorem ofence68_any (hb : OrdAt w bo bm o.1) (hnF : ¬ F bo) (h : IsMem w bm o.2 F) (hok : Ok o.2) (hsz : o.2.size < 1000000000) :
    Calls Tryz.prog 68 #[ptr bo] w (LeftO w bo bm (Ord.fence o) F) := by
  have HB := hid hb; have HM := hid h
  have HW := hid (fence43_any bm o.2 F w h hok hsz)
  have c0 := hb.c0; have c1 := hb.c1
  unfold Ord.fence
  obtain ⟨e, M⟩ := o
  simp only at c1 HB HM HW ⊢
  clear hb h hok hsz
  by_cases h0 : e = 0
  · rw [if_pos h0]
    subst h0
    go_enter Tryz.func68, Tryz.ntmps68
    go_wp2_with (go_at_call 43; (with_reducible refine HW.out.mono ?_); rintro e w1 ⟨rfl, hm, hk⟩; have HM1 := hid hm; have HK1 := hid hk; have d1 := (HB.out.keeps hk (fun _ => hnF)).c1; have f1 := (HB.out.keeps hk (fun _ => hnF)).fr 1; clear hm hk)
    go_end0
    exact ⟨rfl, ord_left HB.out hnF HM1.out HK1.out⟩
  · rw [if_neg h0]
    have e1 : (e == 0) = false := by simpa using h0
    clear h0
    go_enter Tryz.func68, Tryz.ntmps68
    go_wp2
    go_end0
    exact ⟨rfl, HM.out, HB.out, Keeps.refl _ _⟩

theorem put65_any (c n : Int) (hb : OrdAt w bo bm o.1) (hnF : ¬ F bo) (h : IsMem w bm o.2 F) (hok : Ok o.2) (hsz : o.2.size + 2 < 1000000000) :
    Calls Tryz.prog 65 #[ptr bo, .int .i64 c, .int .i64 n] w (LeftO w bo bm (Ord.put o c n) F) := by
  have s1 := size_owrite o c n
  have s2 := size_oflush (Ord.write o c n) c
  have H1 := hid (owrite66_any bo bm o F w c n hb hnF h hok (by omega))
  have H2 := hid (fun (W : World) (hb : OrdAt W bo bm (Ord.write o c n).1) (h : IsMem W bm (Ord.write o c n).2 F) => oflush67_any bo bm (Ord.write o c n) F W c hb hnF h (ok_owrite hok c n) (by omega))
  have H3 := hid (fun (W : World) (hb : OrdAt W bo bm (Ord.flush (Ord.write o c n) c).1) (h : IsMem W bm (Ord.flush (Ord.write o c n) c).2 F) => ofence68_any bo bm (Ord.flush (Ord.write o c n) c) F W hb hnF h (ok_oflush (ok_owrite hok c n) c) (by omega))
  unfold Ord.put
  clear hb h hok hsz s1 s2
  go_enter Tryz.func65, Tryz.ntmps65
  go_wp2_with (first
    | (go_at_call 66; (with_reducible refine H1.out.mono ?_); rintro e w1 ⟨rfl, hm, ho, hk⟩; have HM1 := hid hm; have HO1 := hid ho; have HK1 := hid hk; clear hm ho hk)
    | (go_at_call 67; (with_reducible refine (H2.out _ HO1.out HM1.out).mono ?_); rintro e w2 ⟨rfl, hm, ho, hk⟩; have HM2 := hid hm; have HO2 := hid ho; have HK2 := hid hk; clear hm ho hk)
    | (go_at_call 68; (with_reducible refine (H3.out _ HO2.out HM2.out).mono ?_); rintro e w3 ⟨rfl, hm, ho, hk⟩; have HM3 := hid hm; have HO3 := hid ho; have HK3 := hid hk; clear hm ho hk))
  go_end0
  exact ⟨rfl, HM3.out, HO3.out, (HK1.out.trans HK2.out).trans HK3.out⟩
end

end Go.Proofs.YtmohnddglmolgaaGreatDoor
