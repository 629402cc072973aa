/- Walk: a step of the law's desk (34). -/
import Derived.Test.YtmohnddglmolgaaGreatDoorKpStM
import Derived.Test.YtmohnddglmolgaaGreatDoorKpLawA
import Derived.Test.YtmohnddglmolgaaGreatDoorKpStepA
import Derived.Test.YtmohnddglmolgaaGreatDoorKpNilA
import Derived.Test.YtmohnddglmolgaaGreatDoorKpSays
import Derived.StillTailTactics
namespace Go.Proofs.YtmohnddglmolgaaGreatDoor
open Go Go.RowKit Go.Lin Go.Lin.Kp

/-- The book of a desk: none, or one in block bb. -/
def BookV (w : World) (bm : Nat) (bv : Value) (ob : Option Bk) (G : Nat → Prop) : Prop := match ob with
  | none => bv = .pointer none
  | some b => ∃ bb, bv = ptr bb ∧ IsBook w bb bm b G

/-- The law's desk in memory. -/
structure DeskS (w : World) (bd bm : Nat) (bv : Value) (D : Ds) (F G : Nat → Prop) : Prop where
  obj : w.heap[bd]? = some (.cells #[ptr bm, bv] 65 (0, 0))
  mem : IsMem w bm D.M F
  book : BookV w bm bv D.b G
  disj : ∀ k, F k → ¬ G k
  nF : ¬ F bd
  nG : ¬ G bd
  ltG : ∀ k, G k → k < w.heap.size

theorem BookV.keeps {w w' : World} {bm : Nat} {bv : Value} {ob : Option Bk} {G : Nat → Prop} {may : Nat → Obj → Prop} (h : BookV w bm bv ob G) (hk : Keeps may w w') (hm : ∀ k o, G k → ¬ may k o) : BookV w' bm bv ob G := by
  unfold BookV at h ⊢
  cases ob with
  | none => exact h
  | some b => obtain ⟨bb, e, hb⟩ := h; exact ⟨bb, e, hb.keeps hk hm⟩

theorem DeskS.grew {w w' : World} {bd bm : Nat} {bv : Value} {D : Ds} {F G : Nat → Prop} (h : DeskS w bd bm bv D F G) (hg : Grew w w') : DeskS w' bd bm bv D F G :=
  ⟨(hg.block _ (lt_of_obj h.obj)).trans h.obj, h.mem.grew hg, h.book.keeps (may := fun _ _ => False) hg.keeps (fun _ _ _ h => h), h.disj, h.nF, h.nG, fun k hk => Nat.lt_of_lt_of_le (h.ltG k hk) hg.size⟩

/-- Behind a call that turns the memory alone. -/
theorem DeskS.memory {w w' : World} {bd bm : Nat} {bv : Value} {D : Ds} {F F' G : Nat → Prop} {M' : Mem} (h : DeskS w bd bm bv D F G) (hm : IsMem w' bm M' F') (hF : Wider w F F') (hk : Keeps (InF F) w w') : DeskS w' bd bm bv ⟨M', D.b⟩ F' G :=
  ⟨hk.obj _ _ h.obj h.nF, hm, h.book.keeps hk (fun k _ hG hF => h.disj k hF hG), fun k hF' hG => (hF k hF').elim (fun e => h.disj k e hG) (fun e => by have := h.ltG k hG; omega),
    fun e => (hF bd e).elim h.nF (fun e => by have := lt_of_obj h.obj; omega), h.nG, fun k hG => Nat.lt_of_lt_of_le (h.ltG k hG) hk.size⟩

/-- Behind a deed. -/
theorem DeskS.deed {w w' : World} {bd bm bb : Nat} {D : Ds} {F G G' : Nat → Prop} {M' : Mem} {b' : Bk} (h : DeskS w bd bm (ptr bb) D F G) (hm : IsMem w' bm M' F) (hb : IsBook w' bb bm b' G') (hG : Wider w G G') (hk : Keeps (fun k _ => F k ∨ G k) w w') : DeskS w' bd bm (ptr bb) ⟨M', some b'⟩ F G' :=
  ⟨hk.obj _ _ h.obj (fun e => e.elim h.nF h.nG), hm, ⟨bb, rfl, hb⟩, fun k hF hG' => (hG k hG').elim (h.disj k hF) (fun e => by have := h.mem.ltF k hF; omega), h.nF,
    fun e => (hG bd e).elim h.nG (fun e => by have := lt_of_obj h.obj; omega), fun k hk2 => by obtain ⟨_, hb⟩ := hb; exact hb.lt k hk2⟩

/-- What a step leaves. -/
def StepLeft (w : World) (bd bm : Nat) (F G : Nat → Prop) (r : (List UInt8 × Int) × Ds) (e : Ending) (w' : World) : Prop :=
  e = .returned (.tuple #[.string ⟨r.1.1.toArray⟩, .int .i64 r.1.2]) ∧ (∃ bv' F' G', DeskS w' bd bm bv' r.2 F' G' ∧ Wider w F F' ∧ Wider w G G') ∧ Keeps (fun k _ => F k ∨ G k ∨ k = bd) w w'

/-- A step's value, its cells in blocks of a kind. -/
def IsStepS (S : Nat → Obj → Prop) (w : World) (v : Value) (x : StepV) : Prop := ∃ c, v = .agg #[.int .u8 x.what, .int .i64 x.a, .int .i64 x.b, c, .string x.text] ∧ IsInts S w c x.cells ∧ (0 ≤ x.what ∧ x.what ≤ 255)

set_option maxHeartbeats 4000000 in
set_option maxRecDepth 20000 in
theorem step34_write (A : Bk → List UInt8 → List UInt8 × Int) (bd bm : Nat) (bv v : Value) (D : Ds) (F G : Nat → Prop) (x : StepV) (w : World) (h : DeskS w bd bm bv D F G) (hv : IsStepS (fun k _ => k ≠ bm) w v x) (hw : x.what.tmod 10 = 0) (hok : DsOk D) (hsz : D.M.size + 20 < 1000000000) :
    Calls Tryz.prog 34 #[ptr bd, v] w (StepLeft w bd bm F G (stepM A D 0 x.a x.b x.cells x.text.data.toList)) := by
  have hall := And.intro hok hsz
  clear hall
  obtain ⟨c, rfl, hc, hx⟩ := hv
  obtain ⟨W, hW, g, k0, k1, k2, k3, k4, hz⟩ := box5 w (.int .u8 x.what) (.int .i64 x.a) (.int .i64 x.b) c (.string x.text) 68
  have hD := h.grew g
  have d0 := cell_of_row W bd 0 _ _ _ hD.obj
  have d1 := cell_of_row W bd 1 _ _ _ hD.obj
  simp only [List.getElem?_toArray, List.getElem?_cons_zero, List.getElem?_cons_succ] at d0 d1
  have hbd := lt_of_obj hD.obj
  have hcW : IsInts (fun k _ => k ≠ bm) W.drew c x.cells := Reads.grew hc (grew_drew g)
  have HDD := hid (hD.grew (grew_drew (grew_refl _))); have HG := hid (grew_drew g)
  have HWR := hid (write28_any bm D.M F x.a x.b W.drew HDD.out.mem hok.M (by omega))
  unfold stepM
  clear hD g h hc hcW
  go_enter Tryz.func34, Tryz.ntmps34
  go_wp2
  go_still_tail 8, (by kernel_rfl)
  change wpList _ _ _ _ _ W.drew
  go_wp2_with (go_at_call 28; (with_reducible refine HWR.out.mono ?_); rintro e w2 ⟨rfl, hm, hk⟩; have HM := hid hm; have HK := hid hk; clear hm hk)
  go_ret2
  refine ⟨rfl, ⟨bv, F, G, HDD.out.memory HM.out wider_refl HK.out, fun k e => .inl e, fun k e => .inl e⟩, ?_⟩
  exact HG.out.keeps.trans (HK.out.mono fun _ _ e => .inl e)

set_option maxHeartbeats 4000000 in
set_option maxRecDepth 20000 in
theorem step34_flush (A : Bk → List UInt8 → List UInt8 × Int) (bd bm : Nat) (bv v : Value) (D : Ds) (F G : Nat → Prop) (x : StepV) (w : World) (h : DeskS w bd bm bv D F G) (hv : IsStepS (fun k _ => k ≠ bm) w v x) (hw : x.what.tmod 10 = 1) (hok : DsOk D) (hsz : D.M.size + 20 < 1000000000) :
    Calls Tryz.prog 34 #[ptr bd, v] w (StepLeft w bd bm F G (stepM A D 1 x.a x.b x.cells x.text.data.toList)) := by
  have hall := And.intro hok hsz
  clear hall
  obtain ⟨c, rfl, hc, hx⟩ := hv
  obtain ⟨W, hW, g, k0, k1, k2, k3, k4, hz⟩ := box5 w (.int .u8 x.what) (.int .i64 x.a) (.int .i64 x.b) c (.string x.text) 68
  have hD := h.grew g
  have d0 := cell_of_row W bd 0 _ _ _ hD.obj
  have d1 := cell_of_row W bd 1 _ _ _ hD.obj
  simp only [List.getElem?_toArray, List.getElem?_cons_zero, List.getElem?_cons_succ] at d0 d1
  have hbd := lt_of_obj hD.obj
  have hcW : IsInts (fun k _ => k ≠ bm) W.drew c x.cells := Reads.grew hc (grew_drew g)
  have HDD := hid (hD.grew (grew_drew (grew_refl _))); have HG := hid (grew_drew g)
  have HWR := hid (flush42_any bm D.M F x.a W.drew HDD.out.mem hok.M (by omega))
  unfold stepM
  clear hD g h hc hcW
  go_enter Tryz.func34, Tryz.ntmps34
  go_wp2
  go_still_tail 6, (by kernel_rfl)
  change wpList _ _ _ _ _ W.drew
  go_wp2_with (go_at_call 42; (with_reducible refine HWR.out.mono ?_); rintro e w2 ⟨rfl, hm, hk⟩; have HM := hid hm; have HK := hid hk; clear hm hk)
  go_ret2
  refine ⟨rfl, ⟨bv, F, G, HDD.out.memory HM.out wider_refl HK.out, fun k e => .inl e, fun k e => .inl e⟩, ?_⟩
  exact HG.out.keeps.trans (HK.out.mono fun _ _ e => .inl e)

set_option maxHeartbeats 4000000 in
set_option maxRecDepth 20000 in
theorem step34_fence (A : Bk → List UInt8 → List UInt8 × Int) (bd bm : Nat) (bv v : Value) (D : Ds) (F G : Nat → Prop) (x : StepV) (w : World) (h : DeskS w bd bm bv D F G) (hv : IsStepS (fun k _ => k ≠ bm) w v x) (hw : x.what.tmod 10 = 2) (hok : DsOk D) (hsz : D.M.size + 20 < 1000000000) :
    Calls Tryz.prog 34 #[ptr bd, v] w (StepLeft w bd bm F G (stepM A D 2 x.a x.b x.cells x.text.data.toList)) := by
  have hall := And.intro hok hsz
  clear hall
  obtain ⟨c, rfl, hc, hx⟩ := hv
  obtain ⟨W, hW, g, k0, k1, k2, k3, k4, hz⟩ := box5 w (.int .u8 x.what) (.int .i64 x.a) (.int .i64 x.b) c (.string x.text) 68
  have hD := h.grew g
  have d0 := cell_of_row W bd 0 _ _ _ hD.obj
  have d1 := cell_of_row W bd 1 _ _ _ hD.obj
  simp only [List.getElem?_toArray, List.getElem?_cons_zero, List.getElem?_cons_succ] at d0 d1
  have hbd := lt_of_obj hD.obj
  have HDD := hid hD; have HG := hid g
  have HWR := hid (fence43_any bm D.M F W HDD.out.mem hok.M (by omega))
  unfold stepM
  clear hD g h hc
  go_enter Tryz.func34, Tryz.ntmps34
  go_wp2_with (go_at_call 43; (with_reducible refine HWR.out.mono ?_); rintro e w2 ⟨rfl, hm, hk⟩; have HM := hid hm; have HK := hid hk; clear hm hk)
  go_ret2
  refine ⟨rfl, ⟨bv, F, G, HDD.out.memory HM.out wider_refl HK.out, fun k e => .inl e, fun k e => .inl e⟩, ?_⟩
  exact HG.out.keeps.trans (HK.out.mono fun _ _ e => .inl e)

set_option maxHeartbeats 4000000 in
set_option maxRecDepth 20000 in
theorem step34_fail (A : Bk → List UInt8 → List UInt8 × Int) (bd bm : Nat) (bv v : Value) (D : Ds) (F G : Nat → Prop) (x : StepV) (w : World) (h : DeskS w bd bm bv D F G) (hv : IsStepS (fun k _ => k ≠ bm) w v x) (hw : x.what.tmod 10 = 3) (hok : DsOk D) (hsz : D.M.size + 20 < 1000000000) :
    Calls Tryz.prog 34 #[ptr bd, v] w (StepLeft w bd bm F G (stepM A D 3 x.a x.b x.cells x.text.data.toList)) := by
  have hall := And.intro hok hsz
  clear hall
  obtain ⟨c, rfl, hc, hx⟩ := hv
  obtain ⟨W, hW, g, k0, k1, k2, k3, k4, hz⟩ := box5 w (.int .u8 x.what) (.int .i64 x.a) (.int .i64 x.b) c (.string x.text) 68
  have hD := h.grew g
  have d0 := cell_of_row W bd 0 _ _ _ hD.obj
  have d1 := cell_of_row W bd 1 _ _ _ hD.obj
  simp only [List.getElem?_toArray, List.getElem?_cons_zero, List.getElem?_cons_succ] at d0 d1
  have hbd := lt_of_obj hD.obj
  have hcW : IsInts (fun k _ => k ≠ bm) W.drew c x.cells := Reads.grew hc (grew_drew g)
  have HDD := hid (hD.grew (grew_drew (grew_refl _))); have HG := hid (grew_drew g)
  have HWR := hid (fail20_any bm D.M F x.a c x.cells W.drew HDD.out.mem hcW.any)
  unfold stepM
  obtain ⟨ca, cc, rfl, -⟩ := id hc
  clear hD g h hc hcW
  go_enter Tryz.func34, Tryz.ntmps34
  go_wp2
  go_still_tail 8, (by kernel_rfl)
  change wpList _ _ _ _ _ W.drew
  go_wp2_with (go_at_call 20; (with_reducible refine HWR.out.mono ?_); rintro e w2 ⟨rfl, hk, F2, hm, hF⟩; have HM := hid hm; have HK := hid hk; have HF := hid hF; clear hm hk hF)
  go_ret2
  refine ⟨rfl, ⟨bv, F2, G, HDD.out.memory HM.out HF.out HK.out, fun k e => (HF.out k e).imp id (fun e => Nat.le_trans HG.out.size e), fun k e => .inl e⟩, ?_⟩
  exact HG.out.keeps.trans (HK.out.mono fun _ _ e => .inl e)

set_option maxHeartbeats 4000000 in
set_option maxRecDepth 20000 in
theorem step34_crash (A : Bk → List UInt8 → List UInt8 × Int) (bd bm : Nat) (bv v : Value) (D : Ds) (F G : Nat → Prop) (x : StepV) (w : World) (h : DeskS w bd bm bv D F G) (hv : IsStepS (fun k _ => k ≠ bm) w v x) (hw : x.what.tmod 10 = 4) (hok : DsOk D) (hsz : D.M.size + 20 < 1000000000) :
    Calls Tryz.prog 34 #[ptr bd, v] w (StepLeft w bd bm F G (stepM A D 4 x.a x.b x.cells x.text.data.toList)) := by
  have hall := And.intro hok hsz
  clear hall
  obtain ⟨c, rfl, hc, hx⟩ := hv
  obtain ⟨W, hW, g, k0, k1, k2, k3, k4, hz⟩ := box5 w (.int .u8 x.what) (.int .i64 x.a) (.int .i64 x.b) c (.string x.text) 68
  have hD := h.grew g
  have d0 := cell_of_row W bd 0 _ _ _ hD.obj
  have d1 := cell_of_row W bd 1 _ _ _ hD.obj
  simp only [List.getElem?_toArray, List.getElem?_cons_zero, List.getElem?_cons_succ] at d0 d1
  have hbd := lt_of_obj hD.obj
  have hcW : IsInts (fun k _ => k ≠ bm) W.drew c x.cells := Reads.grew hc (grew_drew g)
  have HDD := hid (hD.grew (grew_drew (grew_refl _))); have HG := hid (grew_drew g)
  have HWR := hid (crash30_any bm D.M F c x.cells _ W.drew HDD.out.mem (by omega) hcW (fun k o h => h))
  unfold stepM
  obtain ⟨ca, cc, rfl, -⟩ := id hc
  clear hD g h hc hcW
  go_enter Tryz.func34, Tryz.ntmps34
  go_wp2
  go_still_tail 6, (by kernel_rfl)
  change wpList _ _ _ _ _ W.drew
  go_wp2_with (go_at_call 30; (with_reducible refine HWR.out.mono ?_); rintro e w2 ⟨rfl, hm, hk⟩; have HM := hid hm; have HK := hid hk; clear hm hk)
  go_ret2
  refine ⟨rfl, ⟨bv, F, G, HDD.out.memory HM.out wider_refl HK.out, fun k e => .inl e, fun k e => .inl e⟩, ?_⟩
  exact HG.out.keeps.trans (HK.out.mono fun _ _ e => .inl e)

set_option maxHeartbeats 4000000 in
set_option maxRecDepth 20000 in
theorem step34_start (A : Bk → List UInt8 → List UInt8 × Int) (bd bm : Nat) (bv v : Value) (D : Ds) (F G : Nat → Prop) (x : StepV) (w : World) (h : DeskS w bd bm bv D F G) (hv : IsStepS (fun k _ => k ≠ bm) w v x) (hw : x.what.tmod 10 = 5) (hok : DsOk D) (hsz : D.M.size + 20 < 1000000000) :
    Calls Tryz.prog 34 #[ptr bd, v] w (StepLeft w bd bm F G (stepM A D 5 x.a x.b x.cells x.text.data.toList)) := by
  have hall := And.intro hok hsz
  clear hall
  obtain ⟨c, rfl, hc, hx⟩ := hv
  obtain ⟨W, hW, g, k0, k1, k2, k3, k4, hz⟩ := box5 w (.int .u8 x.what) (.int .i64 x.a) (.int .i64 x.b) c (.string x.text) 68
  have hD := h.grew g
  have d0 := cell_of_row W bd 0 _ _ _ hD.obj
  have d1 := cell_of_row W bd 1 _ _ _ hD.obj
  simp only [List.getElem?_toArray, List.getElem?_cons_zero, List.getElem?_cons_succ] at d0 d1
  have hbd := lt_of_obj hD.obj
  have HDD := hid hD; have HG := hid g
  have HWR := hid (start26_mem bm D.M F W HDD.out.mem)
  unfold stepM
  clear hD g h hc
  go_enter Tryz.func34, Tryz.ntmps34
  go_wp2_with (go_at_call 26; (with_reducible refine HWR.out.mono ?_); rintro e w2 ⟨rfl, hm, hk⟩; have HM := hid hm; have HK := hid hk; clear hm hk)
  go_ret2
  refine ⟨rfl, ⟨bv, F, G, HDD.out.memory HM.out wider_refl HK.out, fun k e => .inl e, fun k e => .inl e⟩, ?_⟩
  exact HG.out.keeps.trans (HK.out.mono fun _ _ e => .inl e)

set_option maxHeartbeats 4000000 in
set_option maxRecDepth 20000 in
theorem step34_add_none (A : Bk → List UInt8 → List UInt8 × Int) (bd bm : Nat) (bv v : Value) (D : Ds) (F G : Nat → Prop) (x : StepV) (w : World) (h : DeskS w bd bm bv D F G) (hbn : D.b = none) (hv : IsStepS (fun k _ => k ≠ bm) w v x) (hw : x.what.tmod 10 = 7) (hok : DsOk D) (hsz : D.M.size + 20 < 1000000000) :
    Calls Tryz.prog 34 #[ptr bd, v] w (StepLeft w bd bm F G (stepM A D 7 x.a x.b x.cells x.text.data.toList)) := by
  have hall := And.intro hok hsz
  clear hall
  obtain ⟨c, rfl, hc, hx⟩ := hv
  obtain ⟨W, hW, g, k0, k1, k2, k3, k4, hz⟩ := box5 w (.int .u8 x.what) (.int .i64 x.a) (.int .i64 x.b) c (.string x.text) 68
  obtain rfl : bv = .pointer none := by have := h.book; rw [hbn] at this; exact this
  have hD := h.grew g
  have d0 := cell_of_row W bd 0 _ _ _ hD.obj
  have d1 := cell_of_row W bd 1 _ _ _ hD.obj
  simp only [List.getElem?_toArray, List.getElem?_cons_zero, List.getElem?_cons_succ] at d0 d1
  have hbd := lt_of_obj hD.obj
  have hcW : IsInts (fun k _ => k ≠ bm) W.drew c x.cells := Reads.grew hc (grew_drew g)
  have HDD := hid (hD.grew (grew_drew (grew_refl _))); have HG := hid (grew_drew g)
  have HWR := hid ((add31_none (.pointer none) x.b W.drew (noBook_nil _)).mono fun e w' h => (⟨h.1, h.2 ▸ grew_refl _⟩ : e = .returned (.int .i64 102) ∧ Grew W.drew w'))
  unfold stepM
  rw [hbn]
  have hDe : (⟨D.M, none⟩ : Ds) = D := by rw [← hbn]
  show Calls _ _ _ _ (StepLeft w bd bm F G (([], 102), D))
  clear hDe
  clear hD g h hc hcW
  go_enter Tryz.func34, Tryz.ntmps34
  go_wp2
  go_still_tail 6, (by kernel_rfl)
  change wpList _ _ _ _ _ W.drew
  go_wp2_with (go_at_call 31; (with_reducible refine HWR.out.mono ?_); rintro e w2 ⟨rfl, hg⟩; have HW2 := hid hg; clear hg)
  go_ret2
  refine ⟨rfl, ⟨.pointer none, F, G, HDD.out.grew HW2.out, fun k e => .inl e, fun k e => .inl e⟩, ?_⟩
  exact (grew_trans HG.out HW2.out).keeps

set_option maxHeartbeats 4000000 in
set_option maxRecDepth 20000 in
theorem step34_change_none (A : Bk → List UInt8 → List UInt8 × Int) (bd bm : Nat) (bv v : Value) (D : Ds) (F G : Nat → Prop) (x : StepV) (w : World) (h : DeskS w bd bm bv D F G) (hbn : D.b = none) (hv : IsStepS (fun k _ => k ≠ bm) w v x) (hw : x.what.tmod 10 = 8) (hok : DsOk D) (hsz : D.M.size + 20 < 1000000000) :
    Calls Tryz.prog 34 #[ptr bd, v] w (StepLeft w bd bm F G (stepM A D 8 x.a x.b x.cells x.text.data.toList)) := by
  have hall := And.intro hok hsz
  clear hall
  obtain ⟨c, rfl, hc, hx⟩ := hv
  obtain ⟨W, hW, g, k0, k1, k2, k3, k4, hz⟩ := box5 w (.int .u8 x.what) (.int .i64 x.a) (.int .i64 x.b) c (.string x.text) 68
  obtain rfl : bv = .pointer none := by have := h.book; rw [hbn] at this; exact this
  have hD := h.grew g
  have d0 := cell_of_row W bd 0 _ _ _ hD.obj
  have d1 := cell_of_row W bd 1 _ _ _ hD.obj
  simp only [List.getElem?_toArray, List.getElem?_cons_zero, List.getElem?_cons_succ] at d0 d1
  have hbd := lt_of_obj hD.obj
  have hcW : IsInts (fun k _ => k ≠ bm) W.drew c x.cells := Reads.grew hc (grew_drew g)
  have HDD := hid (hD.grew (grew_drew (grew_refl _))); have HG := hid (grew_drew g)
  have HWR := hid ((change32_none (.pointer none) x.a x.b W.drew (noBook_nil _)).mono fun e w' h => (⟨h.1, h.2 ▸ grew_refl _⟩ : e = .returned (.int .i64 102) ∧ Grew W.drew w'))
  unfold stepM
  rw [hbn]
  have hDe : (⟨D.M, none⟩ : Ds) = D := by rw [← hbn]
  show Calls _ _ _ _ (StepLeft w bd bm F G (([], 102), D))
  clear hDe
  clear hD g h hc hcW
  go_enter Tryz.func34, Tryz.ntmps34
  go_wp2
  go_still_tail 8, (by kernel_rfl)
  change wpList _ _ _ _ _ W.drew
  go_wp2_with (go_at_call 32; (with_reducible refine HWR.out.mono ?_); rintro e w2 ⟨rfl, hg⟩; have HW2 := hid hg; clear hg)
  go_ret2
  refine ⟨rfl, ⟨.pointer none, F, G, HDD.out.grew HW2.out, fun k e => .inl e, fun k e => .inl e⟩, ?_⟩
  exact (grew_trans HG.out HW2.out).keeps

set_option maxHeartbeats 4000000 in
set_option maxRecDepth 20000 in
theorem step34_ask_none (A : Bk → List UInt8 → List UInt8 × Int) (bd bm : Nat) (bv v : Value) (D : Ds) (F G : Nat → Prop) (x : StepV) (w : World) (h : DeskS w bd bm bv D F G) (hbn : D.b = none) (hv : IsStepS (fun k _ => k ≠ bm) w v x) (hw : x.what.tmod 10 = 9) (hok : DsOk D) (hsz : D.M.size + 20 < 1000000000) :
    Calls Tryz.prog 34 #[ptr bd, v] w (StepLeft w bd bm F G (stepM A D 9 x.a x.b x.cells x.text.data.toList)) := by
  have hall := And.intro hok hsz
  clear hall
  obtain ⟨c, rfl, hc, hx⟩ := hv
  obtain ⟨W, hW, g, k0, k1, k2, k3, k4, hz⟩ := box5 w (.int .u8 x.what) (.int .i64 x.a) (.int .i64 x.b) c (.string x.text) 68
  obtain rfl : bv = .pointer none := by have := h.book; rw [hbn] at this; exact this
  have hD := h.grew g
  have d0 := cell_of_row W bd 0 _ _ _ hD.obj
  have d1 := cell_of_row W bd 1 _ _ _ hD.obj
  simp only [List.getElem?_toArray, List.getElem?_cons_zero, List.getElem?_cons_succ] at d0 d1
  have hbd := lt_of_obj hD.obj
  have hcW : IsInts (fun k _ => k ≠ bm) W.drew c x.cells := Reads.grew hc (grew_drew g)
  have HDD := hid (hD.grew (grew_drew (grew_refl _))); have HG := hid (grew_drew g)
  have HWR := hid ((ask44_none (.pointer none) x.text W.drew (noBook_nil _)).mono fun e w' h => (⟨h.1, h.2 ▸ grew_refl _⟩ : e = .returned (.tuple #[.string ⟨#[]⟩, .int .i64 102]) ∧ Grew W.drew w'))
  unfold stepM
  rw [hbn]
  have hDe : (⟨D.M, none⟩ : Ds) = D := by rw [← hbn]
  show Calls _ _ _ _ (StepLeft w bd bm F G (([], 102), D))
  clear hDe
  clear hD g h hc hcW
  go_enter Tryz.func34, Tryz.ntmps34
  go_wp2
  go_region_law (go_simp; go_at_call 44; (with_reducible refine HWR.out.mono ?_); rintro e w2 ⟨rfl, hg⟩; have HW2 := hid hg; clear hg)
  all_goals (
    go_wp2
    go_ret2
    refine ⟨rfl, ⟨.pointer none, F, G, HDD.out.grew HW2.out, fun k e => .inl e, fun k e => .inl e⟩, ?_⟩
    exact (grew_trans HG.out HW2.out).keeps)

set_option maxHeartbeats 4000000 in
set_option maxRecDepth 20000 in
theorem step34_add_some (A : Bk → List UInt8 → List UInt8 × Int) (bd bm : Nat) (bv v : Value) (D : Ds) (F G : Nat → Prop) (x : StepV) (w : World) (h : DeskS w bd bm bv D F G) (b : Bk) (hbn : D.b = some b) (hv : IsStepS (fun k _ => k ≠ bm) w v x) (hw : x.what.tmod 10 = 7) (hok : DsOk D) (hsz : D.M.size + 20 < 1000000000) :
    Calls Tryz.prog 34 #[ptr bd, v] w (StepLeft w bd bm F G (stepM A D 7 x.a x.b x.cells x.text.data.toList)) := by
  have hall := And.intro hok hsz
  clear hall
  obtain ⟨c, rfl, hc, hx⟩ := hv
  obtain ⟨W, hW, g, k0, k1, k2, k3, k4, hz⟩ := box5 w (.int .u8 x.what) (.int .i64 x.a) (.int .i64 x.b) c (.string x.text) 68
  obtain ⟨bb, rfl, hbk⟩ : ∃ bb, bv = ptr bb ∧ IsBook w bb bm b G := by have := h.book; rw [hbn] at this; exact this
  have hBO := hok.b b hbn
  have hD := h.grew g
  have hbkW := hbk.grew (grew_drew g)
  have d0 := cell_of_row W bd 0 _ _ _ hD.obj
  have d1 := cell_of_row W bd 1 _ _ _ hD.obj
  simp only [List.getElem?_toArray, List.getElem?_cons_zero, List.getElem?_cons_succ] at d0 d1
  have hbd := lt_of_obj hD.obj
  have hcW : IsInts (fun k _ => k ≠ bm) W.drew c x.cells := Reads.grew hc (grew_drew g)
  have HDD := hid (hD.grew (grew_drew (grew_refl _))); have HG := hid (grew_drew g)
  have HWR := hid (add31_any bb bm b D.M F G x.b W.drew hbkW HDD.out.mem HDD.out.disj hok.M (by omega) hBO.1)
  unfold stepM
  rw [hbn]
  dsimp only
  clear hD g h hc hcW hbk hbkW hBO
  go_enter Tryz.func34, Tryz.ntmps34
  go_wp2
  go_still_tail 6, (by kernel_rfl)
  change wpList _ _ _ _ _ W.drew
  go_wp2_with (go_at_call 31; (with_reducible refine HWR.out.mono ?_); rintro e w2 ⟨rfl, hm, ⟨G2, hb2, hG2⟩, hk⟩; have HM := hid hm; have HB2 := hid hb2; have HG2 := hid hG2; have HK := hid hk; clear hm hb2 hG2 hk)
  go_ret2
  refine ⟨rfl, ⟨ptr bb, F, G2, HDD.out.deed HM.out HB2.out HG2.out HK.out, fun k e => .inl e, fun k e => (HG2.out k e).imp id (fun e => Nat.le_trans HG.out.size e)⟩, ?_⟩
  exact HG.out.keeps.trans (HK.out.mono fun _ _ e => e.elim .inl (fun e => .inr (.inl e)))

set_option maxHeartbeats 4000000 in
set_option maxRecDepth 20000 in
theorem step34_change_some (A : Bk → List UInt8 → List UInt8 × Int) (bd bm : Nat) (bv v : Value) (D : Ds) (F G : Nat → Prop) (x : StepV) (w : World) (h : DeskS w bd bm bv D F G) (b : Bk) (hbn : D.b = some b) (hv : IsStepS (fun k _ => k ≠ bm) w v x) (hw : x.what.tmod 10 = 8) (hok : DsOk D) (hsz : D.M.size + 20 < 1000000000) :
    Calls Tryz.prog 34 #[ptr bd, v] w (StepLeft w bd bm F G (stepM A D 8 x.a x.b x.cells x.text.data.toList)) := by
  have hall := And.intro hok hsz
  clear hall
  obtain ⟨c, rfl, hc, hx⟩ := hv
  obtain ⟨W, hW, g, k0, k1, k2, k3, k4, hz⟩ := box5 w (.int .u8 x.what) (.int .i64 x.a) (.int .i64 x.b) c (.string x.text) 68
  obtain ⟨bb, rfl, hbk⟩ : ∃ bb, bv = ptr bb ∧ IsBook w bb bm b G := by have := h.book; rw [hbn] at this; exact this
  have hBO := hok.b b hbn
  have hD := h.grew g
  have hbkW := hbk.grew (grew_drew g)
  have d0 := cell_of_row W bd 0 _ _ _ hD.obj
  have d1 := cell_of_row W bd 1 _ _ _ hD.obj
  simp only [List.getElem?_toArray, List.getElem?_cons_zero, List.getElem?_cons_succ] at d0 d1
  have hbd := lt_of_obj hD.obj
  have hcW : IsInts (fun k _ => k ≠ bm) W.drew c x.cells := Reads.grew hc (grew_drew g)
  have HDD := hid (hD.grew (grew_drew (grew_refl _))); have HG := hid (grew_drew g)
  have HWR := hid (change32_any bb bm b D.M F G x.a x.b W.drew hbkW HDD.out.mem HDD.out.disj hok.M (by omega) hBO.1)
  unfold stepM
  rw [hbn]
  dsimp only
  clear hD g h hc hcW hbk hbkW hBO
  go_enter Tryz.func34, Tryz.ntmps34
  go_wp2
  go_still_tail 8, (by kernel_rfl)
  change wpList _ _ _ _ _ W.drew
  go_wp2_with (go_at_call 32; (with_reducible refine HWR.out.mono ?_); rintro e w2 ⟨rfl, hm, ⟨G2, hb2, hG2⟩, hk⟩; have HM := hid hm; have HB2 := hid hb2; have HG2 := hid hG2; have HK := hid hk; clear hm hb2 hG2 hk)
  go_ret2
  refine ⟨rfl, ⟨ptr bb, F, G2, HDD.out.deed HM.out HB2.out HG2.out HK.out, fun k e => .inl e, fun k e => (HG2.out k e).imp id (fun e => Nat.le_trans HG.out.size e)⟩, ?_⟩
  exact HG.out.keeps.trans (HK.out.mono fun _ _ e => e.elim .inl (fun e => .inr (.inl e)))

set_option maxHeartbeats 4000000 in
set_option maxRecDepth 20000 in
theorem step34_ask_some (A : Bk → List UInt8 → List UInt8 × Int) (bd bm : Nat) (bv v : Value) (D : Ds) (F G : Nat → Prop) (x : StepV) (w : World) (h : DeskS w bd bm bv D F G) (hA : AskOk A) (hL : Lay w) (hts : x.text.size ≤ 10000) (b : Bk) (hbn : D.b = some b) (hv : IsStepS (fun k _ => k ≠ bm) w v x) (hw : x.what.tmod 10 = 9) (hok : DsOk D) (hsz : D.M.size + 20 < 1000000000) :
    Calls Tryz.prog 34 #[ptr bd, v] w (StepLeft w bd bm F G (stepM A D 9 x.a x.b x.cells x.text.data.toList)) := by
  have hall := And.intro hok hsz
  clear hall
  obtain ⟨c, rfl, hc, hx⟩ := hv
  obtain ⟨W, hW, g, k0, k1, k2, k3, k4, hz⟩ := box5 w (.int .u8 x.what) (.int .i64 x.a) (.int .i64 x.b) c (.string x.text) 68
  obtain ⟨bb, rfl, hbk⟩ : ∃ bb, bv = ptr bb ∧ IsBook w bb bm b G := by have := h.book; rw [hbn] at this; exact this
  have hBO := hok.b b hbn
  have hD := h.grew g
  have hbkW := hbk.grew (grew_drew g)
  have d0 := cell_of_row W bd 0 _ _ _ hD.obj
  have d1 := cell_of_row W bd 1 _ _ _ hD.obj
  simp only [List.getElem?_toArray, List.getElem?_cons_zero, List.getElem?_cons_succ] at d0 d1
  have hbd := lt_of_obj hD.obj
  have hcW : IsInts (fun k _ => k ≠ bm) W.drew c x.cells := Reads.grew hc (grew_drew g)
  have HDD := hid (hD.grew (grew_drew (grew_refl _))); have HG := hid (grew_drew g)
  have HWR := hid (hA bb bm b G x.text W.drew hbkW hBO hts (hL.grew (grew_drew g)))
  unfold stepM
  rw [hbn]
  dsimp only
  clear hD g h hc hcW hbk hbkW hBO
  go_enter Tryz.func34, Tryz.ntmps34
  go_wp2
  go_region_law (go_simp; go_at_call 44; (with_reducible refine HWR.out.mono ?_); rintro e w2 ⟨rfl, hg⟩; have HW2 := hid hg; clear hg)
  all_goals (
    go_wp2
    go_ret2
    refine ⟨rfl, ⟨ptr bb, F, G, HDD.out.grew HW2.out, fun k e => .inl e, fun k e => .inl e⟩, ?_⟩
    exact (grew_trans HG.out HW2.out).keeps)

set_option maxHeartbeats 4000000 in
set_option maxRecDepth 20000 in
theorem step34_open (A : Bk → List UInt8 → List UInt8 × Int) (bd bm : Nat) (bv v : Value) (D : Ds) (F G : Nat → Prop) (x : StepV) (w : World) (h : DeskS w bd bm bv D F G) (hv : IsStepS (fun k _ => k ≠ bm) w v x) (hw : x.what.tmod 10 = 6) (hok : DsOk D) (hsz : D.M.size + 20 < 1000000000) :
    Calls Tryz.prog 34 #[ptr bd, v] w (StepLeft w bd bm F G (stepM A D 6 x.a x.b x.cells x.text.data.toList)) := by
  have hall := And.intro hok hsz
  clear hall
  obtain ⟨c, rfl, hc, hx⟩ := hv
  obtain ⟨W, hW, g, k0, k1, k2, k3, k4, hz⟩ := box5 w (.int .u8 x.what) (.int .i64 x.a) (.int .i64 x.b) c (.string x.text) 68
  have hD := h.grew g
  have d0 := cell_of_row W bd 0 _ _ _ hD.obj
  have d1 := cell_of_row W bd 1 _ _ _ hD.obj
  simp only [List.getElem?_toArray, List.getElem?_cons_zero, List.getElem?_cons_succ] at d0 d1
  have hbd := lt_of_obj hD.obj
  have HDD := hid hD; have HG := hid g
  have HOP := hid (open41_mem bm D.M F W HDD.out.mem hok.M (by omega))
  have HER := hid (open_err (M := D.M))
  unfold stepM
  (try dsimp only)
  obtain ⟨⟨ob, err, M'⟩, hop⟩ : ∃ x, D.M.open_ = x := ⟨_, rfl⟩
  rw [hop] at HOP HER ⊢
  simp only at HER ⊢
  clear hop hD g h hc hok hsz
  cases ob with
  | none =>
    have her : (err != 0) = true := by rw [bne_iff_ne]; exact HER.out.2 rfl
    have her2 : (err == 0) = false := by rw [beq_eq_false_iff_ne]; exact HER.out.2 rfl
    go_enter Tryz.func34, Tryz.ntmps34
    go_wp2_with (go_at_call 41; (with_reducible refine HOP.out.mono ?_); rintro e w2 ⟨hm, hk, rfl⟩; have HM := hid hm; have HK := hid hk; clear hm hk)
    go_ret2
    refine ⟨rfl, ⟨bv, F, G, HDD.out.memory HM.out wider_refl HK.out, fun k e => .inl e, fun k e => .inl e⟩, ?_⟩
    exact HG.out.keeps.trans (HK.out.mono fun _ _ e => .inl e)
  | some b' =>
    obtain rfl : err = 0 := HER.out.1 b' rfl
    go_enter Tryz.func34, Tryz.ntmps34
    go_wp2_with (go_at_call 41; (with_reducible refine HOP.out.mono ?_); rintro e w2 ⟨hm, hk, bb', G', rfl, hb, hG⟩; have HM := hid hm; have HK := hid hk; have HB := hid hb; have HGL := hid hG; have ho2 := hk.obj _ _ HDD.out.obj HDD.out.nF; have d2 := cell_of_row w2 bd 1 _ _ _ ho2; have f2 := frozen_of_row w2 bd 1 _ _ ho2; have HO2 := hid ho2; clear hm hk hb hG ho2)
    go_ret2
    have hbd1 := lt_of_obj HDD.out.obj
    have hkd : Keeps (fun k _ => k = bd) w2 (w2.setCell ⟨bd, 1, none⟩ (ptr bb')) := keeps_set1 _ _ (fun _ => rfl)
    have hGw : ∀ k, G' k → k ≠ bd := fun k e e2 => by have := HGL.out k e; omega
    have hGlt : ∀ k, G' k → k < w2.heap.size := by obtain ⟨_, hb⟩ := HB.out; exact hb.lt
    refine ⟨rfl, ⟨ptr bb', F, G', ⟨by rw [heap_setCell_same w2 bd 1 _ _ _ HO2.out]; rfl, HM.out.keeps hkd (fun k _ hF e => HDD.out.nF (e ▸ hF)), ⟨bb', rfl, HB.out.keeps hkd (fun k _ hG e => hGw k hG e)⟩, fun k hF hG => by have := HDD.out.mem.ltF k hF; have := HGL.out k hG; omega, HDD.out.nF, fun e => hGw _ e rfl, fun k e => by rw [World.size_setCell]; exact hGlt k e⟩, fun k e => .inl e, fun k e => .inr (Nat.le_trans HG.out.size (HGL.out k e))⟩, ?_⟩
    exact (HG.out.keeps.trans (HK.out.mono (fun _ _ e => .inl e))).trans (hkd.mono (fun _ _ e => .inr (.inr e)))

/-- A step of the law's desk, whatever it is. -/
theorem step34_any (A : Bk → List UInt8 → List UInt8 × Int) (hA : AskOk A) (bd bm : Nat) (bv v : Value) (D : Ds) (F G : Nat → Prop) (x : StepV) (w : World) (h : DeskS w bd bm bv D F G) (hv : IsStepS (fun k _ => k ≠ bm) w v x) (hok : DsOk D) (hsz : D.M.size + 20 < 1000000000) (hL : Lay w) (hts : x.text.size ≤ 10000) :
    Calls Tryz.prog 34 #[ptr bd, v] w (StepLeft w bd bm F G (stepM A D (x.what.tmod 10).toNat x.a x.b x.cells x.text.data.toList)) := by
  have hx : 0 ≤ x.what ∧ x.what ≤ 255 := by obtain ⟨c, _, _, hx⟩ := hv; exact hx
  have ht : 0 ≤ x.what.tmod 10 ∧ x.what.tmod 10 < 10 := by rw [Int.tmod_eq_emod_of_nonneg hx.1]; omega
  rcases (show x.what.tmod 10 = 0 ∨ x.what.tmod 10 = 1 ∨ x.what.tmod 10 = 2 ∨ x.what.tmod 10 = 3 ∨ x.what.tmod 10 = 4 ∨ x.what.tmod 10 = 5 ∨ x.what.tmod 10 = 6 ∨ x.what.tmod 10 = 7 ∨ x.what.tmod 10 = 8 ∨ x.what.tmod 10 = 9 by omega) with e | e | e | e | e | e | e | e | e | e
  · rw [e]; exact step34_write A bd bm bv v D F G x w h hv e hok hsz
  · rw [e]; exact step34_flush A bd bm bv v D F G x w h hv e hok hsz
  · rw [e]; exact step34_fence A bd bm bv v D F G x w h hv e hok hsz
  · rw [e]; exact step34_fail A bd bm bv v D F G x w h hv e hok hsz
  · rw [e]; exact step34_crash A bd bm bv v D F G x w h hv e hok hsz
  · rw [e]; exact step34_start A bd bm bv v D F G x w h hv e hok hsz
  · rw [e]; exact step34_open A bd bm bv v D F G x w h hv e hok hsz
  · rw [e]
    cases hb : D.b with
    | none => exact step34_add_none A bd bm bv v D F G x w h hb hv e hok hsz
    | some b => exact step34_add_some A bd bm bv v D F G x w h b hb hv e hok hsz
  · rw [e]
    cases hb : D.b with
    | none => exact step34_change_none A bd bm bv v D F G x w h hb hv e hok hsz
    | some b => exact step34_change_some A bd bm bv v D F G x w h b hb hv e hok hsz
  · rw [e]
    cases hb : D.b with
    | none => exact step34_ask_none A bd bm bv v D F G x w h hb hv e hok hsz
    | some b => exact step34_ask_some A bd bm bv v D F G x w h hA hL hts b hb hv e hok hsz


end Go.Proofs.YtmohnddglmolgaaGreatDoor
