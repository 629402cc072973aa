/- Walk: a step of the reference's desk of the law (38). -/
import Derived.Test.YtmohnddglmolgaaGreatDoorKpTwo
import Derived.Test.YtmohnddglmolgaaGreatDoorKrOpen
import Derived.Test.YtmohnddglmolgaaGreatDoorKrAsk
import Derived.StillTailTactics
namespace Go.Proofs.YtmohnddglmolgaaGreatDoor
open Go Go.RowKit Go.Lin Go.Lin.Kp

/-- The book of the desk of the reference: none, or one in block bb. -/
def RBookV (w : World) (bm : Nat) (bv : Value) (ob : Option Bk) (G : Nat → Prop) : Prop := match ob with
  | none => bv = .pointer none
  | some b => ∃ bb, bv = ptr bb ∧ IsRBook w bb bm b G

/-- The reference's desk of the law in memory. -/
structure RDeskS (t : TypeId) (w : World) (bd bm : Nat) (bv : Value) (D : Ds) (F G : Nat → Prop) : Prop where
  obj : w.heap[bd]? = some (.cells #[ptr bm, bv] t (0, 0))
  mem : IsRMem w bm D.M F
  book : RBookV w bm bv D.b G
  disj : ∀ k, F k → ¬ G k
  nF : ¬ F bd
  nG : ¬ G bd
  ltG : ∀ k, G k → k < w.heap.size

theorem RBookV.keeps {w w' : World} {bm : Nat} {bv : Value} {ob : Option Bk} {G : Nat → Prop} {may : Nat → Obj → Prop} (h : RBookV w bm bv ob G) (hk : Keeps may w w') (hm : ∀ k o, G k → ¬ may k o) : RBookV w' bm bv ob G := by
  unfold RBookV at h ⊢
  cases ob with
  | none => exact h
  | some b => obtain ⟨bb, e, hb⟩ := h; exact ⟨bb, e, hb.keeps hk hm⟩

theorem RDeskS.grew {t : TypeId} {w w' : World} {bd bm : Nat} {bv : Value} {D : Ds} {F G : Nat → Prop} (h : RDeskS t w bd bm bv D F G) (hg : Grew w w') : RDeskS t w' bd bm bv D F G :=
  ⟨(hg.block _ (lt_of_obj h.obj)).trans h.obj, h.mem.grew hg, h.book.keeps (may := fun _ _ => False) hg.keeps (fun _ _ _ h => h), h.disj, h.nF, h.nG, fun k hk => Nat.lt_of_lt_of_le (h.ltG k hk) hg.size⟩

/-- Behind a call that turns the memory alone. -/
theorem RDeskS.memory {t : TypeId} {w w' : World} {bd bm : Nat} {bv : Value} {D : Ds} {F F' G : Nat → Prop} {M' : Mem} (h : RDeskS t w bd bm bv D F G) (hm : IsRMem w' bm M' F') (hF : Wider w F F') (hk : Keeps (InF F) w w') : RDeskS t w' bd bm bv ⟨M', D.b⟩ F' G :=
  ⟨hk.obj _ _ h.obj h.nF, hm, h.book.keeps hk (fun k _ hG hF => h.disj k hF hG), fun k hF' hG => (hF k hF').elim (fun e => h.disj k e hG) (fun e => by have := h.ltG k hG; omega),
    fun e => (hF bd e).elim h.nF (fun e => by have := lt_of_obj h.obj; omega), h.nG, fun k hG => Nat.lt_of_lt_of_le (h.ltG k hG) hk.size⟩

/-- Behind a deed. -/
theorem RDeskS.deed {t : TypeId} {w w' : World} {bd bm bb : Nat} {D : Ds} {F G G' : Nat → Prop} {M' : Mem} {b' : Bk} (h : RDeskS t w bd bm (ptr bb) D F G) (hm : IsRMem w' bm M' F) (hb : IsRBook w' bb bm b' G') (hG : Wider w G G') (hk : Keeps (fun k _ => F k ∨ G k) w w') : RDeskS t w' bd bm (ptr bb) ⟨M', some b'⟩ F G' :=
  ⟨hk.obj _ _ h.obj (fun e => e.elim h.nF h.nG), hm, ⟨bb, rfl, hb⟩, fun k hF hG' => (hG k hG').elim (h.disj k hF) (fun e => by have := h.mem.ltF k hF; omega), h.nF,
    fun e => (hG bd e).elim h.nG (fun e => by have := lt_of_obj h.obj; omega), fun k hk2 => by obtain ⟨_, hb⟩ := hb; exact hb.lt k hk2⟩

/-- What a step of the reference leaves. -/
def RStepLeft (t : TypeId) (w : World) (bd bm : Nat) (F G : Nat → Prop) (r : (List UInt8 × Int) × Ds) (e : Ending) (w' : World) : Prop :=
  e = .returned (.tuple #[.string ⟨r.1.1.toArray⟩, .int .i64 r.1.2]) ∧ (∃ bv' F' G', RDeskS t w' bd bm bv' r.2 F' G' ∧ Wider w F F' ∧ Wider w G G') ∧ Keeps (fun k _ => F k ∨ G k ∨ k = bd) w w'

theorem RDeskS.keeps {t : TypeId} {w w' : World} {bd bm : Nat} {bv : Value} {D : Ds} {F G : Nat → Prop} {may : Nat → Obj → Prop} (h : RDeskS t w bd bm bv D F G) (hk : Keeps may w w') (hm : ∀ k o, F k ∨ G k ∨ k = bd → ¬ may k o) : RDeskS t w' bd bm bv D F G :=
  ⟨hk.obj _ _ h.obj (hm _ _ (.inr (.inr rfl))), h.mem.keeps hk (fun k o e => hm k o (.inl e)), h.book.keeps hk (fun k o e => hm k o (.inr (.inl e))), h.disj, h.nF, h.nG, fun k e => Nat.lt_of_lt_of_le (h.ltG k e) hk.size⟩

theorem RDeskS.ltAll {t : TypeId} {w : World} {bd bm : Nat} {bv : Value} {D : Ds} {F G : Nat → Prop} (h : RDeskS t w bd bm bv D F G) : ∀ k, F k ∨ G k ∨ k = bd → k < w.heap.size := by
  rintro k (e | e | rfl)
  · exact h.mem.ltF k e
  · exact h.ltG k e
  · exact lt_of_obj h.obj

/-- A desk of the reference in blocks that are new since w. -/
structure RDkL (t : TypeId) (w wr : World) (bd bm : Nat) (bv : Value) (D : Ds) (F G : Nat → Prop) : Prop where
  grew : Grew w wr
  desk : RDeskS t wr bd bm bv D F G
  new : ∀ k, F k ∨ G k ∨ k = bd → w.heap.size ≤ k

theorem RDkL.grown {t : TypeId} {w wr w' : World} {bd bm : Nat} {bv : Value} {D : Ds} {F G : Nat → Prop} (h : RDkL t w wr bd bm bv D F G) (hg : Grew wr w') : RDkL t w w' bd bm bv D F G := ⟨grew_trans h.grew hg, h.desk.grew hg, h.new⟩

theorem RDkL.step {t : TypeId} {w wr w' : World} {bd bm : Nat} {bv : Value} {D : Ds} {F G : Nat → Prop} {D' : Ds} (h : RDkL t w wr bd bm bv D F G) (hd : ∃ bv' F' G', RDeskS t w' bd bm bv' D' F' G' ∧ Wider wr F F' ∧ Wider wr G G') (hk : Keeps (fun k _ => F k ∨ G k ∨ k = bd) wr w') :
    ∃ bv' F' G', RDkL t w w' bd bm bv' D' F' G' ∧ Wider wr F F' ∧ Wider wr G G' := by
  obtain ⟨bv', F', G', hd, hF, hG⟩ := hd
  refine ⟨bv', F', G', ⟨grew_b h.grew (hk.below h.grew.size (fun k _ e => h.new k e)), hd, ?_⟩, hF, hG⟩
  have hz := h.grew.size
  rintro k (e | e | e)
  · exact (hF k e).elim (fun e => h.new k (.inl e)) (fun e => Nat.le_trans hz e)
  · exact (hG k e).elim (fun e => h.new k (.inr (.inl e))) (fun e => Nat.le_trans hz e)
  · exact h.new k (.inr (.inr e))

/-- The program's desk and the reference's side by side. -/
structure Side (t : TypeId) (w wr : World) (bd bm : Nat) (bv : Value) (D : Ds) (F G : Nat → Prop) (rd rm : Nat) (rv : Value) (D' : Ds) (F' G' : Nat → Prop) : Prop where
  a : DkL w wr bd bm bv D F G
  b : RDkL t w wr rd rm rv D' F' G'
  dis : ∀ k, F k ∨ G k ∨ k = bd → ¬ (F' k ∨ G' k ∨ k = rd)

theorem Side.grown {t : TypeId} {w wr w' : World} {bd bm : Nat} {bv : Value} {D : Ds} {F G : Nat → Prop} {rd rm : Nat} {rv : Value} {D' : Ds} {F' G' : Nat → Prop} (h : Side t w wr bd bm bv D F G rd rm rv D' F' G') (hg : Grew wr w') : Side t w w' bd bm bv D F G rd rm rv D' F' G' :=
  ⟨h.a.grown hg, h.b.grown hg, h.dis⟩

theorem Side.stepA {t : TypeId} {w wr w' : World} {bd bm : Nat} {bv : Value} {D D2 : Ds} {F G : Nat → Prop} {rd rm : Nat} {rv : Value} {D' : Ds} {F' G' : Nat → Prop} (h : Side t w wr bd bm bv D F G rd rm rv D' F' G')
    (hd : ∃ bv' F' G', DeskS w' bd bm bv' D2 F' G' ∧ Wider wr F F' ∧ Wider wr G G') (hk : Keeps (fun k _ => F k ∨ G k ∨ k = bd) wr w') :
    ∃ bv2 F2 G2, Side t w w' bd bm bv2 D2 F2 G2 rd rm rv D' F' G' := by
  obtain ⟨bv2, F2, G2, h2, hF, hG⟩ := h.a.step hd hk
  refine ⟨bv2, F2, G2, h2, ⟨h2.grew, h.b.desk.keeps hk (fun k o e e' => h.dis k e' e), h.b.new⟩, fun k e e' => ?_⟩
  have hlt := h.b.desk.ltAll k e'
  rcases e with e | e | e
  · exact (hF k e).elim (fun e => h.dis k (.inl e) e') (fun e => by omega)
  · exact (hG k e).elim (fun e => h.dis k (.inr (.inl e)) e') (fun e => by omega)
  · exact h.dis k (.inr (.inr e)) e'

theorem Side.stepB {t : TypeId} {w wr w' : World} {bd bm : Nat} {bv : Value} {D D2 : Ds} {F G : Nat → Prop} {rd rm : Nat} {rv : Value} {D' : Ds} {F' G' : Nat → Prop} (h : Side t w wr bd bm bv D F G rd rm rv D' F' G')
    (hd : ∃ bv' F2 G2, RDeskS t w' rd rm bv' D2 F2 G2 ∧ Wider wr F' F2 ∧ Wider wr G' G2) (hk : Keeps (fun k _ => F' k ∨ G' k ∨ k = rd) wr w') :
    ∃ rv2 F2 G2, Side t w w' bd bm bv D F G rd rm rv2 D2 F2 G2 := by
  obtain ⟨bv2, F2, G2, h2, hF, hG⟩ := h.b.step hd hk
  refine ⟨bv2, F2, G2, ⟨h2.grew, h.a.desk.keeps hk (fun k o e e' => h.dis k e e'), h.a.new⟩, h2, fun k e' e => ?_⟩
  have hlt := h.a.desk.ltAll k e'
  rcases e with e | e | e
  · exact (hF k e).elim (fun e => h.dis k e' (.inl e)) (fun e => by omega)
  · exact (hG k e).elim (fun e => h.dis k e' (.inr (.inl e))) (fun e => by omega)
  · exact h.dis k e' (.inr (.inr e))

set_option maxHeartbeats 4000000 in
set_option maxRecDepth 20000 in
theorem rstep38_write (bd bm : Nat) (bv v : Value) (D : Ds) (F G : Nat → Prop) (x : StepV) (w : World) (h : RDeskS 78 w bd bm bv D F G) (hv : IsStepS (fun k _ => k ≠ bm) w v x) (hw : x.what.tmod 10 = 0) (hok : DsOk D) (hLe : DsLe D) (hsz : D.M.size + 20 < 1000000000) :
    Calls Tryz.prog 38 #[ptr bd, v] w (RStepLeft 78 w bd bm F G (stepM askA D 0 x.a x.b x.cells x.text.data.toList)) := by
  have hall := And.intro hok (And.intro hLe hsz)
  clear hall
  obtain ⟨c, rfl, hc, hx⟩ := hv
  obtain ⟨W, hW, g, k0, k1, k2, k3, k4, hz⟩ := box5 w (.int .u8 x.what) (.int .i64 x.a) (.int .i64 x.b) c (.string x.text) 68
  have hD := h.grew g
  have d0 := cell_of_row W bd 0 _ _ _ hD.obj
  have d1 := cell_of_row W bd 1 _ _ _ hD.obj
  simp only [List.getElem?_toArray, List.getElem?_cons_zero, List.getElem?_cons_succ] at d0 d1
  have hbd := lt_of_obj hD.obj
  have hcW : IsInts (fun k _ => k ≠ bm) W.drew c x.cells := Reads.grew hc (grew_drew g)
  have HDD := hid (hD.grew (grew_drew (grew_refl _))); have HG := hid (grew_drew g)
  have HWR := hid (rwrite74_any bm D.M F x.a x.b W.drew HDD.out.mem hok.M (by omega))
  unfold stepM
  clear hD g h hc hcW
  go_enter Tryz.func38, Tryz.ntmps38
  go_wp2
  go_still_tail 8, (by kernel_rfl)
  change wpList _ _ _ _ _ W.drew
  go_wp2_with (go_at_call 74; (with_reducible refine HWR.out.mono ?_); rintro e w2 ⟨rfl, hm, hk⟩; have HM := hid hm; have HK := hid hk; clear hm hk)
  go_ret2
  refine ⟨rfl, ⟨bv, F, G, HDD.out.memory HM.out wider_refl HK.out, fun k e => .inl e, fun k e => .inl e⟩, ?_⟩
  exact HG.out.keeps.trans (HK.out.mono fun _ _ e => .inl e)

set_option maxHeartbeats 4000000 in
set_option maxRecDepth 20000 in
theorem rstep38_flush (bd bm : Nat) (bv v : Value) (D : Ds) (F G : Nat → Prop) (x : StepV) (w : World) (h : RDeskS 78 w bd bm bv D F G) (hv : IsStepS (fun k _ => k ≠ bm) w v x) (hw : x.what.tmod 10 = 1) (hok : DsOk D) (hLe : DsLe D) (hsz : D.M.size + 20 < 1000000000) :
    Calls Tryz.prog 38 #[ptr bd, v] w (RStepLeft 78 w bd bm F G (stepM askA D 1 x.a x.b x.cells x.text.data.toList)) := by
  have hall := And.intro hok (And.intro hLe hsz)
  clear hall
  obtain ⟨c, rfl, hc, hx⟩ := hv
  obtain ⟨W, hW, g, k0, k1, k2, k3, k4, hz⟩ := box5 w (.int .u8 x.what) (.int .i64 x.a) (.int .i64 x.b) c (.string x.text) 68
  have hD := h.grew g
  have d0 := cell_of_row W bd 0 _ _ _ hD.obj
  have d1 := cell_of_row W bd 1 _ _ _ hD.obj
  simp only [List.getElem?_toArray, List.getElem?_cons_zero, List.getElem?_cons_succ] at d0 d1
  have hbd := lt_of_obj hD.obj
  have hcW : IsInts (fun k _ => k ≠ bm) W.drew c x.cells := Reads.grew hc (grew_drew g)
  have HDD := hid (hD.grew (grew_drew (grew_refl _))); have HG := hid (grew_drew g)
  have HWR := hid (rflush75_any bm D.M F x.a W.drew HDD.out.mem hok.M (by omega))
  unfold stepM
  clear hD g h hc hcW
  go_enter Tryz.func38, Tryz.ntmps38
  go_wp2
  go_still_tail 6, (by kernel_rfl)
  change wpList _ _ _ _ _ W.drew
  go_wp2_with (go_at_call 75; (with_reducible refine HWR.out.mono ?_); rintro e w2 ⟨rfl, hm, hk⟩; have HM := hid hm; have HK := hid hk; clear hm hk)
  go_ret2
  refine ⟨rfl, ⟨bv, F, G, HDD.out.memory HM.out wider_refl HK.out, fun k e => .inl e, fun k e => .inl e⟩, ?_⟩
  exact HG.out.keeps.trans (HK.out.mono fun _ _ e => .inl e)

set_option maxHeartbeats 4000000 in
set_option maxRecDepth 20000 in
theorem rstep38_fence (bd bm : Nat) (bv v : Value) (D : Ds) (F G : Nat → Prop) (x : StepV) (w : World) (h : RDeskS 78 w bd bm bv D F G) (hv : IsStepS (fun k _ => k ≠ bm) w v x) (hw : x.what.tmod 10 = 2) (hok : DsOk D) (hLe : DsLe D) (hsz : D.M.size + 20 < 1000000000) :
    Calls Tryz.prog 38 #[ptr bd, v] w (RStepLeft 78 w bd bm F G (stepM askA D 2 x.a x.b x.cells x.text.data.toList)) := by
  have hall := And.intro hok (And.intro hLe hsz)
  clear hall
  obtain ⟨c, rfl, hc, hx⟩ := hv
  obtain ⟨W, hW, g, k0, k1, k2, k3, k4, hz⟩ := box5 w (.int .u8 x.what) (.int .i64 x.a) (.int .i64 x.b) c (.string x.text) 68
  have hD := h.grew g
  have d0 := cell_of_row W bd 0 _ _ _ hD.obj
  have d1 := cell_of_row W bd 1 _ _ _ hD.obj
  simp only [List.getElem?_toArray, List.getElem?_cons_zero, List.getElem?_cons_succ] at d0 d1
  have hbd := lt_of_obj hD.obj
  have HDD := hid hD; have HG := hid g
  have HWR := hid (rfence76_any bm D.M F W HDD.out.mem hok.M (by omega))
  unfold stepM
  clear hD g h hc
  go_enter Tryz.func38, Tryz.ntmps38
  go_wp2_with (go_at_call 76; (with_reducible refine HWR.out.mono ?_); rintro e w2 ⟨rfl, hm, hk⟩; have HM := hid hm; have HK := hid hk; clear hm hk)
  go_ret2
  refine ⟨rfl, ⟨bv, F, G, HDD.out.memory HM.out wider_refl HK.out, fun k e => .inl e, fun k e => .inl e⟩, ?_⟩
  exact HG.out.keeps.trans (HK.out.mono fun _ _ e => .inl e)

set_option maxHeartbeats 4000000 in
set_option maxRecDepth 20000 in
theorem rstep38_fail (bd bm : Nat) (bv v : Value) (D : Ds) (F G : Nat → Prop) (x : StepV) (w : World) (h : RDeskS 78 w bd bm bv D F G) (hv : IsStepS (fun k _ => k ≠ bm) w v x) (hw : x.what.tmod 10 = 3) (hok : DsOk D) (hLe : DsLe D) (hsz : D.M.size + 20 < 1000000000) :
    Calls Tryz.prog 38 #[ptr bd, v] w (RStepLeft 78 w bd bm F G (stepM askA D 3 x.a x.b x.cells x.text.data.toList)) := by
  have hall := And.intro hok (And.intro hLe hsz)
  clear hall
  obtain ⟨c, rfl, hc, hx⟩ := hv
  obtain ⟨W, hW, g, k0, k1, k2, k3, k4, hz⟩ := box5 w (.int .u8 x.what) (.int .i64 x.a) (.int .i64 x.b) c (.string x.text) 68
  have hD := h.grew g
  have d0 := cell_of_row W bd 0 _ _ _ hD.obj
  have d1 := cell_of_row W bd 1 _ _ _ hD.obj
  simp only [List.getElem?_toArray, List.getElem?_cons_zero, List.getElem?_cons_succ] at d0 d1
  have hbd := lt_of_obj hD.obj
  have hcW : IsInts (fun k _ => k ≠ bm) W.drew c x.cells := Reads.grew hc (grew_drew g)
  have HDD := hid (hD.grew (grew_drew (grew_refl _))); have HG := hid (grew_drew g)
  have HWR := hid (rfail77_any bm D.M F x.a c x.cells W.drew HDD.out.mem hcW.any)
  unfold stepM
  obtain ⟨ca, cc, rfl, -⟩ := id hc
  clear hD g h hc hcW
  go_enter Tryz.func38, Tryz.ntmps38
  go_wp2
  go_still_tail 8, (by kernel_rfl)
  change wpList _ _ _ _ _ W.drew
  go_wp2_with (go_at_call 77; (with_reducible refine HWR.out.mono ?_); rintro e w2 ⟨rfl, hk, F2, hm, hF⟩; have HM := hid hm; have HK := hid hk; have HF := hid hF; clear hm hk hF)
  go_ret2
  refine ⟨rfl, ⟨bv, F2, G, HDD.out.memory HM.out HF.out HK.out, fun k e => (HF.out k e).imp id (fun e => Nat.le_trans HG.out.size e), fun k e => .inl e⟩, ?_⟩
  exact HG.out.keeps.trans (HK.out.mono fun _ _ e => .inl e)

set_option maxHeartbeats 4000000 in
set_option maxRecDepth 20000 in
theorem rstep38_crash (bd bm : Nat) (bv v : Value) (D : Ds) (F G : Nat → Prop) (x : StepV) (w : World) (h : RDeskS 78 w bd bm bv D F G) (hv : IsStepS (fun k _ => k ≠ bm) w v x) (hw : x.what.tmod 10 = 4) (hok : DsOk D) (hLe : DsLe D) (hsz : D.M.size + 20 < 1000000000) :
    Calls Tryz.prog 38 #[ptr bd, v] w (RStepLeft 78 w bd bm F G (stepM askA D 4 x.a x.b x.cells x.text.data.toList)) := by
  have hall := And.intro hok (And.intro hLe hsz)
  clear hall
  obtain ⟨c, rfl, hc, hx⟩ := hv
  obtain ⟨W, hW, g, k0, k1, k2, k3, k4, hz⟩ := box5 w (.int .u8 x.what) (.int .i64 x.a) (.int .i64 x.b) c (.string x.text) 68
  have hD := h.grew g
  have d0 := cell_of_row W bd 0 _ _ _ hD.obj
  have d1 := cell_of_row W bd 1 _ _ _ hD.obj
  simp only [List.getElem?_toArray, List.getElem?_cons_zero, List.getElem?_cons_succ] at d0 d1
  have hbd := lt_of_obj hD.obj
  have hcW : IsInts (fun k _ => k ≠ bm) W.drew c x.cells := Reads.grew hc (grew_drew g)
  have HDD := hid (hD.grew (grew_drew (grew_refl _))); have HG := hid (grew_drew g)
  have HWR := hid (rcrash78_any bm D.M F c x.cells W.drew HDD.out.mem (by omega) hcW)
  unfold stepM
  obtain ⟨ca, cc, rfl, -⟩ := id hc
  clear hD g h hc hcW
  go_enter Tryz.func38, Tryz.ntmps38
  go_wp2
  go_still_tail 6, (by kernel_rfl)
  change wpList _ _ _ _ _ W.drew
  go_wp2_with (go_at_call 78; (with_reducible refine HWR.out.mono ?_); rintro e w2 ⟨rfl, hm, hk⟩; have HM := hid hm; have HK := hid hk; clear hm hk)
  go_ret2
  refine ⟨rfl, ⟨bv, F, G, HDD.out.memory HM.out wider_refl HK.out, fun k e => .inl e, fun k e => .inl e⟩, ?_⟩
  exact HG.out.keeps.trans (HK.out.mono fun _ _ e => .inl e)

set_option maxHeartbeats 4000000 in
set_option maxRecDepth 20000 in
theorem rstep38_start (bd bm : Nat) (bv v : Value) (D : Ds) (F G : Nat → Prop) (x : StepV) (w : World) (h : RDeskS 78 w bd bm bv D F G) (hv : IsStepS (fun k _ => k ≠ bm) w v x) (hw : x.what.tmod 10 = 5) (hok : DsOk D) (hLe : DsLe D) (hsz : D.M.size + 20 < 1000000000) :
    Calls Tryz.prog 38 #[ptr bd, v] w (RStepLeft 78 w bd bm F G (stepM askA D 5 x.a x.b x.cells x.text.data.toList)) := by
  have hall := And.intro hok (And.intro hLe hsz)
  clear hall
  obtain ⟨c, rfl, hc, hx⟩ := hv
  obtain ⟨W, hW, g, k0, k1, k2, k3, k4, hz⟩ := box5 w (.int .u8 x.what) (.int .i64 x.a) (.int .i64 x.b) c (.string x.text) 68
  have hD := h.grew g
  have d0 := cell_of_row W bd 0 _ _ _ hD.obj
  have d1 := cell_of_row W bd 1 _ _ _ hD.obj
  simp only [List.getElem?_toArray, List.getElem?_cons_zero, List.getElem?_cons_succ] at d0 d1
  have hbd := lt_of_obj hD.obj
  have HDD := hid hD; have HG := hid g
  have HWR := hid (rstart79_any bm D.M F W HDD.out.mem hok.M)
  unfold stepM
  clear hD g h hc
  go_enter Tryz.func38, Tryz.ntmps38
  go_wp2_with (go_at_call 79; (with_reducible refine HWR.out.mono ?_); rintro e w2 ⟨rfl, hm, hk⟩; have HM := hid hm; have HK := hid hk; clear hm hk)
  go_ret2
  refine ⟨rfl, ⟨bv, F, G, HDD.out.memory HM.out wider_refl HK.out, fun k e => .inl e, fun k e => .inl e⟩, ?_⟩
  exact HG.out.keeps.trans (HK.out.mono fun _ _ e => .inl e)

set_option maxHeartbeats 4000000 in
set_option maxRecDepth 20000 in
theorem rstep38_add_none (bd bm : Nat) (bv v : Value) (D : Ds) (F G : Nat → Prop) (x : StepV) (w : World) (h : RDeskS 78 w bd bm bv D F G) (hbn : D.b = none) (hv : IsStepS (fun k _ => k ≠ bm) w v x) (hw : x.what.tmod 10 = 7) (hok : DsOk D) (hLe : DsLe D) (hsz : D.M.size + 20 < 1000000000) :
    Calls Tryz.prog 38 #[ptr bd, v] w (RStepLeft 78 w bd bm F G (stepM askA D 7 x.a x.b x.cells x.text.data.toList)) := by
  have hall := And.intro hok (And.intro hLe hsz)
  clear hall
  obtain ⟨c, rfl, hc, hx⟩ := hv
  obtain ⟨W, hW, g, k0, k1, k2, k3, k4, hz⟩ := box5 w (.int .u8 x.what) (.int .i64 x.a) (.int .i64 x.b) c (.string x.text) 68
  obtain rfl : bv = .pointer none := by have := h.book; rw [hbn] at this; exact this
  have hD := h.grew g
  have d0 := cell_of_row W bd 0 _ _ _ hD.obj
  have d1 := cell_of_row W bd 1 _ _ _ hD.obj
  simp only [List.getElem?_toArray, List.getElem?_cons_zero, List.getElem?_cons_succ] at d0 d1
  have hbd := lt_of_obj hD.obj
  have HDD := hid hD; have HG := hid g
  unfold stepM
  rw [hbn]
  have hDe : (⟨D.M, none⟩ : Ds) = D := by rw [← hbn]
  show Calls _ _ _ _ (RStepLeft 78 w bd bm F G (([], 102), D))
  clear hDe
  clear hD g h hc
  go_enter Tryz.func38, Tryz.ntmps38
  go_wp2
  go_ret2
  refine ⟨rfl, ⟨.pointer none, F, G, HDD.out, fun k e => .inl e, fun k e => .inl e⟩, ?_⟩
  exact HG.out.keeps

set_option maxHeartbeats 4000000 in
set_option maxRecDepth 20000 in
theorem rstep38_change_none (bd bm : Nat) (bv v : Value) (D : Ds) (F G : Nat → Prop) (x : StepV) (w : World) (h : RDeskS 78 w bd bm bv D F G) (hbn : D.b = none) (hv : IsStepS (fun k _ => k ≠ bm) w v x) (hw : x.what.tmod 10 = 8) (hok : DsOk D) (hLe : DsLe D) (hsz : D.M.size + 20 < 1000000000) :
    Calls Tryz.prog 38 #[ptr bd, v] w (RStepLeft 78 w bd bm F G (stepM askA D 8 x.a x.b x.cells x.text.data.toList)) := by
  have hall := And.intro hok (And.intro hLe hsz)
  clear hall
  obtain ⟨c, rfl, hc, hx⟩ := hv
  obtain ⟨W, hW, g, k0, k1, k2, k3, k4, hz⟩ := box5 w (.int .u8 x.what) (.int .i64 x.a) (.int .i64 x.b) c (.string x.text) 68
  obtain rfl : bv = .pointer none := by have := h.book; rw [hbn] at this; exact this
  have hD := h.grew g
  have d0 := cell_of_row W bd 0 _ _ _ hD.obj
  have d1 := cell_of_row W bd 1 _ _ _ hD.obj
  simp only [List.getElem?_toArray, List.getElem?_cons_zero, List.getElem?_cons_succ] at d0 d1
  have hbd := lt_of_obj hD.obj
  have HDD := hid hD; have HG := hid g
  unfold stepM
  rw [hbn]
  have hDe : (⟨D.M, none⟩ : Ds) = D := by rw [← hbn]
  show Calls _ _ _ _ (RStepLeft 78 w bd bm F G (([], 102), D))
  clear hDe
  clear hD g h hc
  go_enter Tryz.func38, Tryz.ntmps38
  go_wp2
  go_ret2
  refine ⟨rfl, ⟨.pointer none, F, G, HDD.out, fun k e => .inl e, fun k e => .inl e⟩, ?_⟩
  exact HG.out.keeps

set_option maxHeartbeats 4000000 in
set_option maxRecDepth 20000 in
theorem rstep38_ask_none (bd bm : Nat) (bv v : Value) (D : Ds) (F G : Nat → Prop) (x : StepV) (w : World) (h : RDeskS 78 w bd bm bv D F G) (hbn : D.b = none) (hv : IsStepS (fun k _ => k ≠ bm) w v x) (hw : x.what.tmod 10 = 9) (hok : DsOk D) (hLe : DsLe D) (hsz : D.M.size + 20 < 1000000000) :
    Calls Tryz.prog 38 #[ptr bd, v] w (RStepLeft 78 w bd bm F G (stepM askA D 9 x.a x.b x.cells x.text.data.toList)) := by
  have hall := And.intro hok (And.intro hLe hsz)
  clear hall
  obtain ⟨c, rfl, hc, hx⟩ := hv
  obtain ⟨W, hW, g, k0, k1, k2, k3, k4, hz⟩ := box5 w (.int .u8 x.what) (.int .i64 x.a) (.int .i64 x.b) c (.string x.text) 68
  obtain rfl : bv = .pointer none := by have := h.book; rw [hbn] at this; exact this
  have hD := h.grew g
  have d0 := cell_of_row W bd 0 _ _ _ hD.obj
  have d1 := cell_of_row W bd 1 _ _ _ hD.obj
  simp only [List.getElem?_toArray, List.getElem?_cons_zero, List.getElem?_cons_succ] at d0 d1
  have hbd := lt_of_obj hD.obj
  have HDD := hid hD; have HG := hid g
  unfold stepM
  rw [hbn]
  have hDe : (⟨D.M, none⟩ : Ds) = D := by rw [← hbn]
  show Calls _ _ _ _ (RStepLeft 78 w bd bm F G (([], 102), D))
  clear hDe
  clear hD g h hc
  go_enter Tryz.func38, Tryz.ntmps38
  go_wp2
  go_ret2
  refine ⟨rfl, ⟨.pointer none, F, G, HDD.out, fun k e => .inl e, fun k e => .inl e⟩, ?_⟩
  exact HG.out.keeps

set_option maxHeartbeats 4000000 in
set_option maxRecDepth 20000 in
theorem rstep38_add_some (bd bm : Nat) (bv v : Value) (D : Ds) (F G : Nat → Prop) (x : StepV) (w : World) (h : RDeskS 78 w bd bm bv D F G) (b : Bk) (hbn : D.b = some b) (hv : IsStepS (fun k _ => k ≠ bm) w v x) (hw : x.what.tmod 10 = 7) (hok : DsOk D) (hLe : DsLe D) (hsz : D.M.size + 20 < 1000000000) :
    Calls Tryz.prog 38 #[ptr bd, v] w (RStepLeft 78 w bd bm F G (stepM askA D 7 x.a x.b x.cells x.text.data.toList)) := by
  have hall := And.intro hok (And.intro hLe hsz)
  clear hall
  obtain ⟨c, rfl, hc, hx⟩ := hv
  obtain ⟨W, hW, g, k0, k1, k2, k3, k4, hz⟩ := box5 w (.int .u8 x.what) (.int .i64 x.a) (.int .i64 x.b) c (.string x.text) 68
  obtain ⟨bb, rfl, hbk⟩ : ∃ bb, bv = ptr bb ∧ IsRBook w bb bm b G := by have := h.book; rw [hbn] at this; exact this
  have hBO := hok.b b hbn
  have hD := h.grew g
  have hbkW := hbk.grew (grew_drew g)
  have d0 := cell_of_row W bd 0 _ _ _ hD.obj
  have d1 := cell_of_row W bd 1 _ _ _ hD.obj
  simp only [List.getElem?_toArray, List.getElem?_cons_zero, List.getElem?_cons_succ] at d0 d1
  have hbd := lt_of_obj hD.obj
  have hcW : IsInts (fun k _ => k ≠ bm) W.drew c x.cells := Reads.grew hc (grew_drew g)
  have HDD := hid (hD.grew (grew_drew (grew_refl _))); have HG := hid (grew_drew g)
  have HWR := hid (radd80_any bb bm b D.M F G x.b W.drew hbkW HDD.out.mem HDD.out.disj hok.M (by omega) hBO (hLe b hbn))
  unfold stepM
  rw [hbn]
  dsimp only
  clear hD g h hc hcW hbk hbkW hBO
  go_enter Tryz.func38, Tryz.ntmps38
  go_wp2
  go_still_tail 6, (by kernel_rfl)
  change wpList _ _ _ _ _ W.drew
  go_wp2_with (go_at_call 80; (with_reducible refine HWR.out.mono ?_); rintro e w2 ⟨rfl, hm, ⟨G2, hb2, hG2⟩, hk⟩; have HM := hid hm; have HB2 := hid hb2; have HG2 := hid hG2; have HK := hid hk; clear hm hb2 hG2 hk)
  go_ret2
  refine ⟨rfl, ⟨ptr bb, F, G2, HDD.out.deed HM.out HB2.out HG2.out HK.out, fun k e => .inl e, fun k e => (HG2.out k e).imp id (fun e => Nat.le_trans HG.out.size e)⟩, ?_⟩
  exact HG.out.keeps.trans (HK.out.mono fun _ _ e => e.elim .inl (fun e => .inr (.inl e)))

set_option maxHeartbeats 4000000 in
set_option maxRecDepth 20000 in
theorem rstep38_change_some (bd bm : Nat) (bv v : Value) (D : Ds) (F G : Nat → Prop) (x : StepV) (w : World) (h : RDeskS 78 w bd bm bv D F G) (b : Bk) (hbn : D.b = some b) (hv : IsStepS (fun k _ => k ≠ bm) w v x) (hw : x.what.tmod 10 = 8) (hok : DsOk D) (hLe : DsLe D) (hsz : D.M.size + 20 < 1000000000) :
    Calls Tryz.prog 38 #[ptr bd, v] w (RStepLeft 78 w bd bm F G (stepM askA D 8 x.a x.b x.cells x.text.data.toList)) := by
  have hall := And.intro hok (And.intro hLe hsz)
  clear hall
  obtain ⟨c, rfl, hc, hx⟩ := hv
  obtain ⟨W, hW, g, k0, k1, k2, k3, k4, hz⟩ := box5 w (.int .u8 x.what) (.int .i64 x.a) (.int .i64 x.b) c (.string x.text) 68
  obtain ⟨bb, rfl, hbk⟩ : ∃ bb, bv = ptr bb ∧ IsRBook w bb bm b G := by have := h.book; rw [hbn] at this; exact this
  have hBO := hok.b b hbn
  have hD := h.grew g
  have hbkW := hbk.grew (grew_drew g)
  have d0 := cell_of_row W bd 0 _ _ _ hD.obj
  have d1 := cell_of_row W bd 1 _ _ _ hD.obj
  simp only [List.getElem?_toArray, List.getElem?_cons_zero, List.getElem?_cons_succ] at d0 d1
  have hbd := lt_of_obj hD.obj
  have hcW : IsInts (fun k _ => k ≠ bm) W.drew c x.cells := Reads.grew hc (grew_drew g)
  have HDD := hid (hD.grew (grew_drew (grew_refl _))); have HG := hid (grew_drew g)
  have HWR := hid (rchange81_any bb bm b D.M F G x.a x.b W.drew hbkW HDD.out.mem HDD.out.disj hok.M (by omega) hBO (hLe b hbn))
  unfold stepM
  rw [hbn]
  dsimp only
  clear hD g h hc hcW hbk hbkW hBO
  go_enter Tryz.func38, Tryz.ntmps38
  go_wp2
  go_still_tail 8, (by kernel_rfl)
  change wpList _ _ _ _ _ W.drew
  go_wp2_with (go_at_call 81; (with_reducible refine HWR.out.mono ?_); rintro e w2 ⟨rfl, hm, ⟨G2, hb2, hG2⟩, hk⟩; have HM := hid hm; have HB2 := hid hb2; have HG2 := hid hG2; have HK := hid hk; clear hm hb2 hG2 hk)
  go_ret2
  refine ⟨rfl, ⟨ptr bb, F, G2, HDD.out.deed HM.out HB2.out HG2.out HK.out, fun k e => .inl e, fun k e => (HG2.out k e).imp id (fun e => Nat.le_trans HG.out.size e)⟩, ?_⟩
  exact HG.out.keeps.trans (HK.out.mono fun _ _ e => e.elim .inl (fun e => .inr (.inl e)))

set_option maxHeartbeats 4000000 in
set_option maxRecDepth 20000 in
theorem rstep38_ask_some (bd bm : Nat) (bv v : Value) (D : Ds) (F G : Nat → Prop) (x : StepV) (w : World) (h : RDeskS 78 w bd bm bv D F G) (b : Bk) (hbn : D.b = some b) (hv : IsStepS (fun k _ => k ≠ bm) w v x) (hw : x.what.tmod 10 = 9) (hok : DsOk D) (hLe : DsLe D) (hsz : D.M.size + 20 < 1000000000) :
    Calls Tryz.prog 38 #[ptr bd, v] w (RStepLeft 78 w bd bm F G (stepM askA D 9 x.a x.b x.cells x.text.data.toList)) := by
  have hall := And.intro hok (And.intro hLe hsz)
  clear hall
  obtain ⟨c, rfl, hc, hx⟩ := hv
  obtain ⟨W, hW, g, k0, k1, k2, k3, k4, hz⟩ := box5 w (.int .u8 x.what) (.int .i64 x.a) (.int .i64 x.b) c (.string x.text) 68
  obtain ⟨bb, rfl, hbk⟩ : ∃ bb, bv = ptr bb ∧ IsRBook w bb bm b G := by have := h.book; rw [hbn] at this; exact this
  have hBO := hok.b b hbn
  have hD := h.grew g
  have hbkW := hbk.grew (grew_drew g)
  have d0 := cell_of_row W bd 0 _ _ _ hD.obj
  have d1 := cell_of_row W bd 1 _ _ _ hD.obj
  simp only [List.getElem?_toArray, List.getElem?_cons_zero, List.getElem?_cons_succ] at d0 d1
  have hbd := lt_of_obj hD.obj
  have hcW : IsInts (fun k _ => k ≠ bm) W.drew c x.cells := Reads.grew hc (grew_drew g)
  have HDD := hid (hD.grew (grew_drew (grew_refl _))); have HG := hid (grew_drew g)
  have HWR := hid (rask82_any bb bm b G x.text W.drew hbkW hBO)
  unfold stepM
  rw [hbn]
  dsimp only
  clear hD g h hc hcW hbk hbkW hBO
  go_enter Tryz.func38, Tryz.ntmps38
  go_wp2
  go_region_law (go_simp; go_at_call 82; (with_reducible refine HWR.out.mono ?_); rintro e w2 ⟨rfl, hg⟩; have HW2 := hid hg; clear hg)
  all_goals (
    go_wp2
    go_ret2
    refine ⟨rfl, ⟨ptr bb, F, G, HDD.out.grew HW2.out, fun k e => .inl e, fun k e => .inl e⟩, ?_⟩
    exact (grew_trans HG.out HW2.out).keeps)

set_option maxHeartbeats 4000000 in
set_option maxRecDepth 20000 in
theorem rstep38_open (bd bm : Nat) (bv v : Value) (D : Ds) (F G : Nat → Prop) (x : StepV) (w : World) (h : RDeskS 78 w bd bm bv D F G) (hv : IsStepS (fun k _ => k ≠ bm) w v x) (hw : x.what.tmod 10 = 6) (hok : DsOk D) (hLe : DsLe D) (hsz : D.M.size + 20 < 1000000000) :
    Calls Tryz.prog 38 #[ptr bd, v] w (RStepLeft 78 w bd bm F G (stepM askA D 6 x.a x.b x.cells x.text.data.toList)) := by
  have hall := And.intro hok (And.intro hLe hsz)
  clear hall
  obtain ⟨c, rfl, hc, hx⟩ := hv
  obtain ⟨W, hW, g, k0, k1, k2, k3, k4, hz⟩ := box5 w (.int .u8 x.what) (.int .i64 x.a) (.int .i64 x.b) c (.string x.text) 68
  have hD := h.grew g
  have d0 := cell_of_row W bd 0 _ _ _ hD.obj
  have d1 := cell_of_row W bd 1 _ _ _ hD.obj
  simp only [List.getElem?_toArray, List.getElem?_cons_zero, List.getElem?_cons_succ] at d0 d1
  have hbd := lt_of_obj hD.obj
  have HDD := hid hD; have HG := hid g
  have HOP := hid (ropen49_any bm D.M F W HDD.out.mem hok.M (by omega))
  have HER := hid (open_err (M := D.M))
  unfold stepM
  (try dsimp only)
  obtain ⟨⟨ob, err, M'⟩, hop⟩ : ∃ x, D.M.open_ = x := ⟨_, rfl⟩
  rw [hop] at HOP HER ⊢
  simp only at HER ⊢
  clear hop hD g h hc hok hLe hsz
  cases ob with
  | none =>
    have her : (err != 0) = true := by rw [bne_iff_ne]; exact HER.out.2 rfl
    have her2 : (err == 0) = false := by rw [beq_eq_false_iff_ne]; exact HER.out.2 rfl
    go_enter Tryz.func38, Tryz.ntmps38
    go_wp2_with (go_at_call 49; (with_reducible refine HOP.out.mono ?_); rintro e w2 ⟨hm, hk, rfl⟩; have HM := hid hm; have HK := hid hk; clear hm hk)
    go_ret2
    refine ⟨rfl, ⟨bv, F, G, HDD.out.memory HM.out wider_refl HK.out, fun k e => .inl e, fun k e => .inl e⟩, ?_⟩
    exact HG.out.keeps.trans (HK.out.mono fun _ _ e => .inl e)
  | some b' =>
    obtain rfl : err = 0 := HER.out.1 b' rfl
    go_enter Tryz.func38, Tryz.ntmps38
    go_wp2_with (go_at_call 49; (with_reducible refine HOP.out.mono ?_); rintro e w2 ⟨hm, hk, bb', G', rfl, hb, hG⟩; have HM := hid hm; have HK := hid hk; have HB := hid hb; have HGL := hid hG; have ho2 := hk.obj _ _ HDD.out.obj HDD.out.nF; have d2 := cell_of_row w2 bd 1 _ _ _ ho2; have f2 := frozen_of_row w2 bd 1 _ _ ho2; have HO2 := hid ho2; clear hm hk hb hG ho2)
    go_ret2
    have hbd1 := lt_of_obj HDD.out.obj
    have hkd : Keeps (fun k _ => k = bd) w2 (w2.setCell ⟨bd, 1, none⟩ (ptr bb')) := keeps_set1 _ _ (fun _ => rfl)
    have hGw : ∀ k, G' k → k ≠ bd := fun k e e2 => by have := HGL.out k e; omega
    have hGlt : ∀ k, G' k → k < w2.heap.size := by obtain ⟨_, hb⟩ := HB.out; exact hb.lt
    refine ⟨rfl, ⟨ptr bb', F, G', ⟨by rw [heap_setCell_same w2 bd 1 _ _ _ HO2.out]; rfl, HM.out.keeps hkd (fun k _ hF e => HDD.out.nF (e ▸ hF)), ⟨bb', rfl, HB.out.keeps hkd (fun k _ hG e => hGw k hG e)⟩, fun k hF hG => by have := HDD.out.mem.ltF k hF; have := HGL.out k hG; omega, HDD.out.nF, fun e => hGw _ e rfl, fun k e => by rw [World.size_setCell]; exact hGlt k e⟩, fun k e => .inl e, fun k e => .inr (Nat.le_trans HG.out.size (HGL.out k e))⟩, ?_⟩
    exact (HG.out.keeps.trans (HK.out.mono (fun _ _ e => .inl e))).trans (hkd.mono (fun _ _ e => .inr (.inr e)))

/-- A step of the law's desk, whatever it is. -/
theorem rstep38_any (bd bm : Nat) (bv v : Value) (D : Ds) (F G : Nat → Prop) (x : StepV) (w : World) (h : RDeskS 78 w bd bm bv D F G) (hv : IsStepS (fun k _ => k ≠ bm) w v x) (hok : DsOk D) (hLe : DsLe D) (hsz : D.M.size + 20 < 1000000000) :
    Calls Tryz.prog 38 #[ptr bd, v] w (RStepLeft 78 w bd bm F G (stepM askA D (x.what.tmod 10).toNat x.a x.b x.cells x.text.data.toList)) := by
  have hx : 0 ≤ x.what ∧ x.what ≤ 255 := by obtain ⟨c, _, _, hx⟩ := hv; exact hx
  have ht : 0 ≤ x.what.tmod 10 ∧ x.what.tmod 10 < 10 := by rw [Int.tmod_eq_emod_of_nonneg hx.1]; omega
  rcases (show x.what.tmod 10 = 0 ∨ x.what.tmod 10 = 1 ∨ x.what.tmod 10 = 2 ∨ x.what.tmod 10 = 3 ∨ x.what.tmod 10 = 4 ∨ x.what.tmod 10 = 5 ∨ x.what.tmod 10 = 6 ∨ x.what.tmod 10 = 7 ∨ x.what.tmod 10 = 8 ∨ x.what.tmod 10 = 9 by omega) with e | e | e | e | e | e | e | e | e | e
  · rw [e]; exact rstep38_write bd bm bv v D F G x w h hv e hok hLe hsz
  · rw [e]; exact rstep38_flush bd bm bv v D F G x w h hv e hok hLe hsz
  · rw [e]; exact rstep38_fence bd bm bv v D F G x w h hv e hok hLe hsz
  · rw [e]; exact rstep38_fail bd bm bv v D F G x w h hv e hok hLe hsz
  · rw [e]; exact rstep38_crash bd bm bv v D F G x w h hv e hok hLe hsz
  · rw [e]; exact rstep38_start bd bm bv v D F G x w h hv e hok hLe hsz
  · rw [e]; exact rstep38_open bd bm bv v D F G x w h hv e hok hLe hsz
  · rw [e]
    cases hb : D.b with
    | none => exact rstep38_add_none bd bm bv v D F G x w h hb hv e hok hLe hsz
    | some b => exact rstep38_add_some bd bm bv v D F G x w h b hb hv e hok hLe hsz
  · rw [e]
    cases hb : D.b with
    | none => exact rstep38_change_none bd bm bv v D F G x w h hb hv e hok hLe hsz
    | some b => exact rstep38_change_some bd bm bv v D F G x w h b hb hv e hok hLe hsz
  · rw [e]
    cases hb : D.b with
    | none => exact rstep38_ask_none bd bm bv v D F G x w h hb hv e hok hLe hsz
    | some b => exact rstep38_ask_some bd bm bv v D F G x w h b hb hv e hok hLe hsz


end Go.Proofs.YtmohnddglmolgaaGreatDoor
