/- Plain: slices of ints that a call builds beside each other, as many as one likes. -/
import Derived.Test.YtnebpcpihldllaaAppend
namespace Go.Lin
open Go.RowKit

structure Fam (N : Nat) (wy wi : World) (U : Nat → Value) (X : Nat → List Int) : Prop where
  grew : Grew wy wi
  seg : ∀ i, i < N → Seg wi wy.heap.size 3 1 (U i) (X i).length ((X i).map (.int .i64))
  ne : ∀ i j, i < N → j < N → i ≠ j → ∀ k, (U i).ownBlock = some k → (U j).ownBlock ≠ some k

theorem Fam.later {N : Nat} {wy wi x : World} {U : Nat → Value} {X : Nat → List Int} (h : Fam N wy wi U X) (hx : Grew wi x) : Fam N wy x U X := ⟨grew_trans h.grew hx, fun i hi => (h.seg i hi).grew hx, h.ne⟩

theorem Fam.app {N : Nat} {wy wi x w' : World} {U : Nat → Value} {X : Nat → List Int} {u' : Value} {a : Int} (i0 : Nat) (hi0 : i0 < N) (h : Fam N wy wi U X) (hx : Grew wi x)
    (hs : Seg w' wy.heap.size 3 1 u' ((X i0).length + 1) ((X i0).map (.int .i64) ++ [.int .i64 a])) (hg : x.grownBy w' (U i0).ownBlock) (hb : u'.ownBlock = (U i0).ownBlock ∨ ∃ k, u'.ownBlock = some k ∧ wi.heap.size ≤ k) :
    Fam N wy w' (fun i => if i = i0 then u' else U i) (fun i => if i = i0 then X i0 ++ [a] else X i) := by
  have hX := h.later hx
  refine ⟨hX.grew.grown hg hX.grew.size (fun k e => ((hX.seg i0 hi0).own k e).1), fun i hi => ?_, fun i j hi hj hij k hk hv => ?_⟩
  · by_cases he : i = i0
    · subst he
      simp only [if_true]
      simpa using hs
    · simp only [he, if_false]
      exact (hX.seg i hi).keeps (may := fun k _ => (U i0).ownBlock = some k) ((Keeps.refl _ x).grown hg (fun k o e _ => e)) (fun k o hv _ e => h.ne i i0 hi hi0 he k hv e)
  · by_cases h1 : i = i0
    · subst h1
      have h2 : j ≠ i := fun e => hij e.symm
      simp only [if_true] at hk
      simp only [h2, if_false] at hv
      rcases hb with e | ⟨k', e, hge⟩
      · exact h.ne i j hi hj hij k (e ▸ hk) hv
      · rw [e] at hk; cases hk
        have := ((h.seg j hj).own k hv).2.1
        omega
    · simp only [h1, if_false] at hk
      by_cases h2 : j = i0
      · subst h2
        simp only [if_true] at hv
        rcases hb with e | ⟨k', e, hge⟩
        · exact h.ne i j hi hj h1 k hk (e ▸ hv)
        · rw [e] at hv; cases hv
          have := ((h.seg i hi).own k hk).2.1
          omega
      · simp only [h2, if_false] at hv
        exact h.ne i j hi hj hij k hk hv

def pick4 {α : Type} (a b c d : α) : Nat → α
  | 0 => a
  | 1 => b
  | 2 => c
  | _ => d

theorem Fam.congr {N : Nat} {wy wi : World} {U V : Nat → Value} {X Y : Nat → List Int} (h : Fam N wy wi U X) (hU : ∀ i, i < N → U i = V i) (hX : ∀ i, i < N → X i = Y i) : Fam N wy wi V Y :=
  ⟨h.grew, fun i hi => by rw [← hU i hi, ← hX i hi]; exact h.seg i hi, fun i j hi hj hij k hk => by rw [← hU i hi] at hk; rw [← hU j hj]; exact h.ne i j hi hj hij k hk⟩

theorem four_cases {P : Nat → Prop} (h0 : P 0) (h1 : P 1) (h2 : P 2) (h3 : P 3) : ∀ i, i < 4 → P i := fun i hi => by
  have : i = 0 ∨ i = 1 ∨ i = 2 ∨ i = 3 := by omega
  rcases this with rfl | rfl | rfl | rfl <;> assumption

/-- Four of them. -/
abbrev Four (wy wi : World) (u0 u1 u2 u3 : Value) (x0 x1 x2 x3 : List Int) : Prop := Fam 4 wy wi (pick4 u0 u1 u2 u3) (pick4 x0 x1 x2 x3)

theorem Four.start (w : World) : Four w w (.slice none 0 0) (.slice none 0 0) (.slice none 0 0) (.slice none 0 0) [] [] [] [] :=
  ⟨grew_refl w, fun i hi => by
    have : i = 0 ∨ i = 1 ∨ i = 2 ∨ i = 3 := by omega
    rcases this with rfl | rfl | rfl | rfl <;> exact Seg.nil _ _ _ _, fun i j hi hj _ k hk => by
    have : i = 0 ∨ i = 1 ∨ i = 2 ∨ i = 3 := by omega
    rcases this with rfl | rfl | rfl | rfl <;> simp [pick4, Value.ownBlock] at hk⟩

section
variable {wy wi x w' : World} {u0 u1 u2 u3 u' : Value} {x0 x1 x2 x3 : List Int} {a : Int} (h : Four wy wi u0 u1 u2 u3 x0 x1 x2 x3)
include h

theorem Four.s0 : Seg wi wy.heap.size 3 1 u0 x0.length (x0.map (.int .i64)) := h.seg 0 (by omega)
theorem Four.s1 : Seg wi wy.heap.size 3 1 u1 x1.length (x1.map (.int .i64)) := h.seg 1 (by omega)
theorem Four.s2 : Seg wi wy.heap.size 3 1 u2 x2.length (x2.map (.int .i64)) := h.seg 2 (by omega)
theorem Four.s3 : Seg wi wy.heap.size 3 1 u3 x3.length (x3.map (.int .i64)) := h.seg 3 (by omega)

theorem Four.a0 (hx : Grew wi x) (hs : Seg w' wy.heap.size 3 1 u' (x0.length + 1) (x0.map (.int .i64) ++ [.int .i64 a])) (hg : x.grownBy w' u0.ownBlock) (hb : u'.ownBlock = u0.ownBlock ∨ ∃ k, u'.ownBlock = some k ∧ wi.heap.size ≤ k) :
    Four wy w' u' u1 u2 u3 (x0 ++ [a]) x1 x2 x3 := by
  exact (Fam.app 0 (by omega) h hx hs hg hb).congr (four_cases rfl rfl rfl rfl) (four_cases rfl rfl rfl rfl)
theorem Four.a1 (hx : Grew wi x) (hs : Seg w' wy.heap.size 3 1 u' (x1.length + 1) (x1.map (.int .i64) ++ [.int .i64 a])) (hg : x.grownBy w' u1.ownBlock) (hb : u'.ownBlock = u1.ownBlock ∨ ∃ k, u'.ownBlock = some k ∧ wi.heap.size ≤ k) :
    Four wy w' u0 u' u2 u3 x0 (x1 ++ [a]) x2 x3 := by
  exact (Fam.app 1 (by omega) h hx hs hg hb).congr (four_cases rfl rfl rfl rfl) (four_cases rfl rfl rfl rfl)
theorem Four.a2 (hx : Grew wi x) (hs : Seg w' wy.heap.size 3 1 u' (x2.length + 1) (x2.map (.int .i64) ++ [.int .i64 a])) (hg : x.grownBy w' u2.ownBlock) (hb : u'.ownBlock = u2.ownBlock ∨ ∃ k, u'.ownBlock = some k ∧ wi.heap.size ≤ k) :
    Four wy w' u0 u1 u' u3 x0 x1 (x2 ++ [a]) x3 := by
  exact (Fam.app 2 (by omega) h hx hs hg hb).congr (four_cases rfl rfl rfl rfl) (four_cases rfl rfl rfl rfl)
theorem Four.a3 (hx : Grew wi x) (hs : Seg w' wy.heap.size 3 1 u' (x3.length + 1) (x3.map (.int .i64) ++ [.int .i64 a])) (hg : x.grownBy w' u3.ownBlock) (hb : u'.ownBlock = u3.ownBlock ∨ ∃ k, u'.ownBlock = some k ∧ wi.heap.size ≤ k) :
    Four wy w' u0 u1 u2 u' x0 x1 x2 (x3 ++ [a]) := by
  exact (Fam.app 3 (by omega) h hx hs hg hb).congr (four_cases rfl rfl rfl rfl) (four_cases rfl rfl rfl rfl)
end
end Go.Lin
