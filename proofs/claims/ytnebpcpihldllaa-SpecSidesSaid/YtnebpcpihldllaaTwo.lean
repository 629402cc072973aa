/- Plain: two slices of ints that a call builds beside each other. -/
import Derived.Test.YtnebpcpihldllaaAppend
namespace Go.Lin
open Go.RowKit

structure Two (wy wi : World) (u v : Value) (xs ys : List Int) : Prop where
  grew : Grew wy wi
  one : Seg wi wy.heap.size 3 1 u xs.length (xs.map (.int .i64))
  two : Seg wi wy.heap.size 3 1 v ys.length (ys.map (.int .i64))
  ne : ∀ k, u.ownBlock = some k → v.ownBlock ≠ some k

theorem Two.start (w : World) : Two w w (.slice none 0 0) (.slice none 0 0) [] [] := ⟨grew_refl w, Seg.nil _ _ _ _, Seg.nil _ _ _ _, fun k h => by simp [Value.ownBlock] at h⟩

theorem Two.later {wy wi x : World} {u v : Value} {xs ys : List Int} (h : Two wy wi u v xs ys) (hx : Grew wi x) : Two wy x u v xs ys := ⟨grew_trans h.grew hx, h.one.grew hx, h.two.grew hx, h.ne⟩

theorem Two.app1 {wy wi x w' : World} {u v u' : Value} {xs ys : List Int} {a : Int} (h : Two wy wi u v xs ys) (hx : Grew wi x) (hs : Seg w' wy.heap.size 3 1 u' (xs.length + 1) (xs.map (.int .i64) ++ [.int .i64 a]))
    (hg : x.grownBy w' u.ownBlock) (hb : u'.ownBlock = u.ownBlock ∨ ∃ k, u'.ownBlock = some k ∧ wi.heap.size ≤ k) : Two wy w' u' v (xs ++ [a]) ys := by
  have hX := h.later hx
  refine ⟨hX.grew.grown hg hX.grew.size (fun k e => (hX.one.own k e).1), by simpa using hs, ?_, ?_⟩
  · exact hX.two.keeps (may := fun k _ => u.ownBlock = some k) ((Keeps.refl _ x).grown hg (fun k o e _ => e)) (fun k o hv _ e => h.ne k e hv)
  · intro k hk hv
    rcases hb with e | ⟨k', e, hge⟩
    · exact h.ne k (e ▸ hk) hv
    · rw [e] at hk; cases hk
      have := (h.two.own k hv).2.1
      omega

theorem Two.app2 {wy wi x w' : World} {u v v' : Value} {xs ys : List Int} {a : Int} (h : Two wy wi u v xs ys) (hx : Grew wi x) (hs : Seg w' wy.heap.size 3 1 v' (ys.length + 1) (ys.map (.int .i64) ++ [.int .i64 a]))
    (hg : x.grownBy w' v.ownBlock) (hb : v'.ownBlock = v.ownBlock ∨ ∃ k, v'.ownBlock = some k ∧ wi.heap.size ≤ k) : Two wy w' u v' xs (ys ++ [a]) := by
  have hX := h.later hx
  refine ⟨hX.grew.grown hg hX.grew.size (fun k e => (hX.two.own k e).1), ?_, by simpa using hs, ?_⟩
  · exact hX.one.keeps (may := fun k _ => v.ownBlock = some k) ((Keeps.refl _ x).grown hg (fun k o e _ => e)) (fun k o hv _ e => h.ne k hv e)
  · intro k hk hv
    rcases hb with e | ⟨k', e, hge⟩
    · exact h.ne k hk (e ▸ hv)
    · rw [e] at hv; cases hv
      have := (h.one.own k hk).2.1
      omega
end Go.Lin
