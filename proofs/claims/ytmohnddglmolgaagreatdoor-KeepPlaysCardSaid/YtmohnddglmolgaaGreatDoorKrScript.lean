/- Walk of the reference: a line of a script (50). -/
import Derived.Test.YtmohnddglmolgaaGreatDoorKrDeskH
import Derived.Test.YtmohnddglmolgaaGreatDoorKrCells
import Derived.Test.YtmohnddglmolgaaGreatDoorKrPl2
import Derived.Deep.RegionLaw
namespace Go.Proofs.YtmohnddglmolgaaGreatDoor
open Go Go.RowKit Go.Lin Go.Lin.Kp

/-- What a line of the reference's script leaves. -/
def RLine (w : World) (bs bm : Nat) (F G : Nat → Prop) (r : (List UInt8 × Int) × Dk) (e : Ending) (w' : World) : Prop :=
  e = .returned (.tuple #[.string ⟨r.1.1.toArray⟩, .int .i64 r.1.2]) ∧ (∃ bb' F' G', RDeskS 117 w' bs bm (ptr bb') ⟨r.2.M, some r.2.b⟩ F' G' ∧ Wider w F F' ∧ Wider w G G') ∧ Keeps (fun k _ => F k ∨ G k ∨ k = bs) w w'

section
variable {w W w' : World} {bs bm bb : Nat} {D : Dk} {F G : Nat → Prop} {a : List UInt8 × Int}
theorem rline_grew (h : RDeskS 117 w bs bm (ptr bb) ⟨D.M, some D.b⟩ F G) (hg : Grew w w') : RLine w bs bm F G (a, D) (.returned (.tuple #[.string ⟨a.1.toArray⟩, .int .i64 a.2])) w' :=
  ⟨rfl, ⟨bb, F, G, h.grew hg, fun _ e => .inl e, fun _ e => .inl e⟩, hg.keeps⟩
theorem rline_mem {M' : Mem} {F' : Nat → Prop} (h : RDeskS 117 w bs bm (ptr bb) ⟨D.M, some D.b⟩ F G) (hg : Grew w W) (hm : IsRMem w' bm M' F') (hF : Wider W F F') (hk : Keeps (InF F) W w') : RLine w bs bm F G (a, ⟨M', D.b⟩) (.returned (.tuple #[.string ⟨a.1.toArray⟩, .int .i64 a.2])) w' :=
  ⟨rfl, ⟨bb, F', G, (h.grew hg).memory hm hF hk, fun k e => (hF k e).imp id (fun e => Nat.le_trans hg.size e), fun _ e => .inl e⟩, hg.keeps.trans (hk.mono fun _ _ e => .inl e)⟩
theorem rline_deed {M' : Mem} {b' : Bk} (h : RDeskS 117 w bs bm (ptr bb) ⟨D.M, some D.b⟩ F G) (hg : Grew w W) (hm : IsRMem w' bm M' F) (hb : ∃ G', IsRBook w' bb bm b' G' ∧ Wider W G G') (hk : Keeps (fun k _ => F k ∨ G k) W w') : RLine w bs bm F G (a, ⟨M', b'⟩) (.returned (.tuple #[.string ⟨a.1.toArray⟩, .int .i64 a.2])) w' := by
  obtain ⟨G', hb, hG⟩ := hb
  exact ⟨rfl, ⟨bb, F, G', (h.grew hg).deed hm hb hG hk, fun _ e => .inl e, fun k e => (hG k e).imp id (fun e => Nat.le_trans hg.size e)⟩, hg.keeps.trans (hk.mono fun _ _ e => e.elim .inl (fun e => .inr (.inl e)))⟩
theorem rline_open {M' : Mem} {b' : Bk} {bb' : Nat} {G' : Nat → Prop} (h : RDeskS 117 w bs bm (ptr bb) ⟨D.M, some D.b⟩ F G) (hg : Grew w W) (hm : IsRMem w' bm M' F) (hk : Keeps (InF F) W w') (hb : IsRBook w' bb' bm b' G') (hG : ∀ k, G' k → W.heap.size ≤ k) :
    RLine w bs bm F G (a, ⟨M', b'⟩) (.returned (.tuple #[.string ⟨a.1.toArray⟩, .int .i64 a.2])) (w'.setCell ⟨bs, 1, none⟩ (ptr bb')) := by
  have hW := h.grew hg
  have hbd1 := lt_of_obj hW.obj
  have ho2 := hk.obj _ _ hW.obj hW.nF
  have hkd : Keeps (fun k _ => k = bs) w' (w'.setCell ⟨bs, 1, none⟩ (ptr bb')) := keeps_set1 _ _ (fun _ => rfl)
  have hGw : ∀ k, G' k → k ≠ bs := fun k e e2 => by have := hG k e; omega
  have hGlt := hb.ltG
  refine ⟨rfl, ⟨bb', F, G', ⟨by rw [heap_setCell_same w' bs 1 _ _ _ ho2]; rfl, hm.keeps hkd (fun k _ hF e => hW.nF (e ▸ hF)), ⟨bb', rfl, hb.keeps hkd (fun k _ hG e => hGw k hG e)⟩, fun k hF hG2 => by have := hW.mem.ltF k hF; have := hG k hG2; omega, hW.nF, fun e => hGw _ e rfl, fun k e => by rw [World.size_setCell]; exact hGlt k e⟩, fun k e => .inl e, fun k e => .inr (Nat.le_trans hg.size (hG k e))⟩, ?_⟩
  exact (hg.keeps.trans (hk.mono (fun _ _ e => .inl e))).trans (hkd.mono (fun _ _ e => .inr (.inr e)))
end

theorem rbook_here {t : TypeId} {w : World} {bs bm bb : Nat} {M : Mem} {b : Bk} {F G : Nat → Prop} (h : RDeskS t w bs bm (ptr bb) ⟨M, some b⟩ F G) : IsRBook w bb bm b G := by
  obtain ⟨bb', e, hb⟩ := h.book
  have : bb = bb' := by simpa [ptr] using e
  rw [this]; exact hb

theorem bytesOf_two {ws : List ByteArray} {a : List UInt8} (h : bytesOf ws = [a]) : ∃ x, ws = [x] ∧ x.data.toList = a := by
  rcases ws with _ | ⟨x, _ | ⟨y, t⟩⟩
  · cases h
  · exact ⟨x, rfl, (List.cons.inj h).1⟩
  · cases (List.cons.inj h).2

end Go.Proofs.YtmohnddglmolgaaGreatDoor
