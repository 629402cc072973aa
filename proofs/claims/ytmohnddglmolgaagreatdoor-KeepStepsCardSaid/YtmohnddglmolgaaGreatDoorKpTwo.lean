/- The law's desk in new blocks; two desks side by side. -/
import Derived.Test.YtmohnddglmolgaaGreatDoorKpSt34
import Derived.Test.YtmohnddglmolgaaGreatDoorKpStepA
namespace Go.Proofs.YtmohnddglmolgaaGreatDoor
open Go Go.RowKit Go.Lin Go.Lin.Kp

theorem DeskS.keeps {w w' : World} {bd bm : Nat} {bv : Value} {D : Ds} {F G : Nat → Prop} {may : Nat → Obj → Prop} (h : DeskS w bd bm bv D F G) (hk : Keeps may w w') (hm : ∀ k o, F k ∨ G k ∨ k = bd → ¬ may k o) : DeskS w' bd bm bv D F G :=
  ⟨hk.obj _ _ h.obj (hm _ _ (.inr (.inr rfl))), h.mem.keeps hk (fun k o e => hm k o (.inl e)), h.book.keeps hk (fun k o e => hm k o (.inr (.inl e))), h.disj, h.nF, h.nG, fun k e => Nat.lt_of_lt_of_le (h.ltG k e) hk.size⟩

theorem DeskS.ltAll {w : World} {bd bm : Nat} {bv : Value} {D : Ds} {F G : Nat → Prop} (h : DeskS w bd bm bv D F G) : ∀ k, F k ∨ G k ∨ k = bd → k < w.heap.size := by
  rintro k (e | e | rfl)
  · exact h.mem.ltF k e
  · exact h.ltG k e
  · exact lt_of_obj h.obj

/-- A desk in blocks that are new since w. -/
structure DkL (w wr : World) (bd bm : Nat) (bv : Value) (D : Ds) (F G : Nat → Prop) : Prop where
  grew : Grew w wr
  desk : DeskS wr bd bm bv D F G
  new : ∀ k, F k ∨ G k ∨ k = bd → w.heap.size ≤ k

theorem DkL.grown {w wr w' : World} {bd bm : Nat} {bv : Value} {D : Ds} {F G : Nat → Prop} (h : DkL w wr bd bm bv D F G) (hg : Grew wr w') : DkL w w' bd bm bv D F G := ⟨grew_trans h.grew hg, h.desk.grew hg, h.new⟩

theorem DkL.step {w wr w' : World} {bd bm : Nat} {bv : Value} {D : Ds} {F G : Nat → Prop} {D' : Ds} (h : DkL w wr bd bm bv D F G) (hd : ∃ bv' F' G', DeskS w' bd bm bv' D' F' G' ∧ Wider wr F F' ∧ Wider wr G G') (hk : Keeps (fun k _ => F k ∨ G k ∨ k = bd) wr w') :
    ∃ bv' F' G', DkL w w' bd bm bv' D' F' G' ∧ Wider wr F F' ∧ Wider wr G G' := by
  obtain ⟨bv', F', G', hd, hF, hG⟩ := hd
  refine ⟨bv', F', G', ⟨grew_b h.grew (hk.below h.grew.size (fun k _ e => h.new k e)), hd, ?_⟩, hF, hG⟩
  have hz := h.grew.size
  rintro k (e | e | e)
  · exact (hF k e).elim (fun e => h.new k (.inl e)) (fun e => Nat.le_trans hz e)
  · exact (hG k e).elim (fun e => h.new k (.inr (.inl e))) (fun e => Nat.le_trans hz e)
  · exact h.new k (.inr (.inr e))

/-- Two desks side by side. -/
structure Two (w wr : World) (bd bm : Nat) (bv : Value) (D : Ds) (F G : Nat → Prop) (bd' bm' : Nat) (bv' : Value) (D' : Ds) (F' G' : Nat → Prop) : Prop where
  a : DkL w wr bd bm bv D F G
  b : DkL w wr bd' bm' bv' D' F' G'
  dis : ∀ k, F k ∨ G k ∨ k = bd → ¬ (F' k ∨ G' k ∨ k = bd')

theorem Two.swap {w wr : World} {bd bm : Nat} {bv : Value} {D : Ds} {F G : Nat → Prop} {bd' bm' : Nat} {bv' : Value} {D' : Ds} {F' G' : Nat → Prop} (h : Two w wr bd bm bv D F G bd' bm' bv' D' F' G') : Two w wr bd' bm' bv' D' F' G' bd bm bv D F G :=
  ⟨h.b, h.a, fun k e e' => h.dis k e' e⟩

theorem Two.grown {w wr w' : World} {bd bm : Nat} {bv : Value} {D : Ds} {F G : Nat → Prop} {bd' bm' : Nat} {bv' : Value} {D' : Ds} {F' G' : Nat → Prop} (h : Two w wr bd bm bv D F G bd' bm' bv' D' F' G') (hg : Grew wr w') : Two w w' bd bm bv D F G bd' bm' bv' D' F' G' :=
  ⟨h.a.grown hg, h.b.grown hg, h.dis⟩

theorem Two.step {w wr w' : World} {bd bm : Nat} {bv : Value} {D D2 : Ds} {F G : Nat → Prop} {bd' bm' : Nat} {bv' : Value} {D' : Ds} {F' G' : Nat → Prop} (h : Two w wr bd bm bv D F G bd' bm' bv' D' F' G')
    (hd : ∃ bv' F' G', DeskS w' bd bm bv' D2 F' G' ∧ Wider wr F F' ∧ Wider wr G G') (hk : Keeps (fun k _ => F k ∨ G k ∨ k = bd) wr w') :
    ∃ bv2 F2 G2, Two w w' bd bm bv2 D2 F2 G2 bd' bm' bv' D' F' G' := by
  obtain ⟨bv2, F2, G2, h2, hF, hG⟩ := h.a.step hd hk
  refine ⟨bv2, F2, G2, h2, ⟨h2.grew, h.b.desk.keeps hk (fun k o e e' => h.dis k e' e), h.b.new⟩, fun k e e' => ?_⟩
  have hlt := h.b.desk.ltAll k e'
  rcases e with e | e | e
  · exact (hF k e).elim (fun e => h.dis k (.inl e) e') (fun e => by omega)
  · exact (hG k e).elim (fun e => h.dis k (.inr (.inl e)) e') (fun e => by omega)
  · exact h.dis k (.inr (.inr e)) e'

/-- A step's value, read from steps older than the desk. -/
theorem stepS {w wr : World} {bm : Nat} {x : StepV} {c : Value} (hc : IsInts (fun k _ => k < w.heap.size) w c x.cells) (hb : 0 ≤ x.what ∧ x.what ≤ 255) (hg : Grew w wr) (hm : w.heap.size ≤ bm) :
    IsStepS (fun k _ => k ≠ bm) wr (.agg #[.int .u8 x.what, .int .i64 x.a, .int .i64 x.b, c, .string x.text]) x :=
  ⟨c, rfl, (Reads.grew hc hg).mono (fun k o h => by omega), hb⟩

end Go.Proofs.YtmohnddglmolgaaGreatDoor
