/- A desk of the reference in memory: a memory, and a book if there is one. As the head of KrDesk, for scripts. -/
import Derived.Test.YtmohnddglmolgaaGreatDoorKrOpen
import Derived.Test.YtmohnddglmolgaaGreatDoorKrAsk
namespace Go.Proofs.YtmohnddglmolgaaGreatDoor
open Go Go.RowKit Go.Lin Go.Lin.Kp

/-- The book of the desk of the reference: none, or one in block bb. -/
def RBookV (w : World) (bm : Nat) (bv : Value) (ob : Option Bk) (G : Nat → Prop) : Prop := match ob with
  | none => bv = .pointer none
  | some b => ∃ bb, bv = ptr bb ∧ IsRBook w bb bm b G

/-- The reference's desk of the law in memory. -/
structure RDeskS (t : TypeId) (w : World) (bd bm : Nat) (bv : Value) (D : Ds) (F G : Nat → Prop) : Prop where
  obj : w.heap[bd]? = some (.cells #[ptr bm, bv] t (0, 0))
  mem : IsRMem w bm D.M F
  book : RBookV w bm bv D.b G
  disj : ∀ k, F k → ¬ G k
  nF : ¬ F bd
  nG : ¬ G bd
  ltG : ∀ k, G k → k < w.heap.size

theorem RBookV.keeps {w w' : World} {bm : Nat} {bv : Value} {ob : Option Bk} {G : Nat → Prop} {may : Nat → Obj → Prop} (h : RBookV w bm bv ob G) (hk : Keeps may w w') (hm : ∀ k o, G k → ¬ may k o) : RBookV w' bm bv ob G := by
  unfold RBookV at h ⊢
  cases ob with
  | none => exact h
  | some b => obtain ⟨bb, e, hb⟩ := h; exact ⟨bb, e, hb.keeps hk hm⟩

theorem RDeskS.grew {t : TypeId} {w w' : World} {bd bm : Nat} {bv : Value} {D : Ds} {F G : Nat → Prop} (h : RDeskS t w bd bm bv D F G) (hg : Grew w w') : RDeskS t w' bd bm bv D F G :=
  ⟨(hg.block _ (lt_of_obj h.obj)).trans h.obj, h.mem.grew hg, h.book.keeps (may := fun _ _ => False) hg.keeps (fun _ _ _ h => h), h.disj, h.nF, h.nG, fun k hk => Nat.lt_of_lt_of_le (h.ltG k hk) hg.size⟩

/-- Behind a call that turns the memory alone. -/
theorem RDeskS.memory {t : TypeId} {w w' : World} {bd bm : Nat} {bv : Value} {D : Ds} {F F' G : Nat → Prop} {M' : Mem} (h : RDeskS t w bd bm bv D F G) (hm : IsRMem w' bm M' F') (hF : Wider w F F') (hk : Keeps (InF F) w w') : RDeskS t w' bd bm bv ⟨M', D.b⟩ F' G :=
  ⟨hk.obj _ _ h.obj h.nF, hm, h.book.keeps hk (fun k _ hG hF => h.disj k hF hG), fun k hF' hG => (hF k hF').elim (fun e => h.disj k e hG) (fun e => by have := h.ltG k hG; omega),
    fun e => (hF bd e).elim h.nF (fun e => by have := lt_of_obj h.obj; omega), h.nG, fun k hG => Nat.lt_of_lt_of_le (h.ltG k hG) hk.size⟩

/-- Behind a deed. -/
theorem RDeskS.deed {t : TypeId} {w w' : World} {bd bm bb : Nat} {D : Ds} {F G G' : Nat → Prop} {M' : Mem} {b' : Bk} (h : RDeskS t w bd bm (ptr bb) D F G) (hm : IsRMem w' bm M' F) (hb : IsRBook w' bb bm b' G') (hG : Wider w G G') (hk : Keeps (fun k _ => F k ∨ G k) w w') : RDeskS t w' bd bm (ptr bb) ⟨M', some b'⟩ F G' :=
  ⟨hk.obj _ _ h.obj (fun e => e.elim h.nF h.nG), hm, ⟨bb, rfl, hb⟩, fun k hF hG' => (hG k hG').elim (h.disj k hF) (fun e => by have := h.mem.ltF k hF; omega), h.nF,
    fun e => (hG bd e).elim h.nG (fun e => by have := lt_of_obj h.obj; omega), fun k hk2 => by obtain ⟨_, hb⟩ := hb; exact hb.lt k hk2⟩


end Go.Proofs.YtmohnddglmolgaaGreatDoor
