/- What functions of letters and words answer, whatever holds these words. -/
import Derived.Test.YtddnpooffcjhnaaWvValidP
namespace Go.Proofs.Ytddnpooffcjhnaa
open Go.RowKit Go.Lin Go.Lin.Wv

/-- f answers the words la, lb with a list and an error. -/
abbrev Ans2 (f : Nat) (v : Value) (w : World) (la lb : List Int) (r : List Int × Int) : Prop :=
  ∀ W, Grew w W → ∀ a b, IsWd W a la → IsWd W b lb → Calls Try.prog f #[v, a, b] W fun e w' => ∃ u, e = .returned (.tuple #[u, .int .i64 r.2]) ∧ IsWd w' u r.1 ∧ Grew W w'
abbrev Ans1 (f : Nat) (v : Value) (w : World) (la : List Int) (r : List Int × Int) : Prop :=
  ∀ W, Grew w W → ∀ a, IsWd W a la → Calls Try.prog f #[v, a] W fun e w' => ∃ u, e = .returned (.tuple #[u, .int .i64 r.2]) ∧ IsWd w' u r.1 ∧ Grew W w'
/-- .. with a Bool and an error. -/
abbrev AnsB (f : Nat) (v : Value) (w : World) (la lb : List Int) (r : Bool × Int) : Prop :=
  ∀ W, Grew w W → ∀ a b, IsWd W a la → IsWd W b lb → Calls Try.prog f #[v, a, b] W fun e w' => e = .returned (.tuple #[.bool r.1, .int .i64 r.2]) ∧ Grew W w'

section
variable {v : Value} {L : Lt} {w : World} (hn : L.n ≤ 9223372036854775807) (hv : IsLt w v L) {la lb : List Int} {r : List Int × Int} {b : Bool × Int}
include hn hv
theorem ans26 (h : joinedM L la lb = r) : Ans2 26 v w la lb r := fun W hW a b ha hb => by subst h; exact joined26_any v L a b la lb W hn (hv.grew hW) ha hb
theorem ans30 (h : restM L la lb = r) : Ans2 30 v w la lb r := fun W hW a b ha hb => by subst h; exact rest30_any v L a b la lb W hn (hv.grew hW) ha hb
theorem ans33 (h : firstM L la = r) : Ans1 33 v w la r := fun W hW a ha => by subst h; exact first33_any v L a la W hn (hv.grew hW) ha
theorem ansb28 (h : beginsM L la lb = b) : AnsB 28 v w la lb b := fun W hW a b ha hb => by subst h; exact begins28_any v L a b la lb W hn (hv.grew hW) ha hb
end

theorem same_true (a b : Value) (l : List Int) (W : World) (ha : IsInts Any W a l) (hb : IsInts Any W b l) : Calls Try.prog 23 #[a, b] W fun e w' => e = .returned (.bool true) ∧ Grew W w' :=
  (sameInts_any a b l l W ha hb).mono fun e w' ⟨h1, h2⟩ => ⟨by rw [h1, beq_self_eq_true], h2⟩

theorem rows_three {w : World} {v u t : Value} {xs ys zs : List Int} (h : IsInts Any w v xs) (h2 : IsInts Any w u ys) (h3 : IsInts Any w t zs) (ty : TypeId) : IsRows Any (w.alloc (.cells #[v, u, t] ty)) (.slice (some ⟨w.heap.size, 0, none⟩) 3 3) [xs, ys, zs] := by
  refine ⟨fun i => if i = 0 then v else if i = 1 then u else t, ⟨_, _, rfl, by simp, fun i hi => ?_⟩, fun i hi => ?_⟩
  · have hi' : i = 0 ∨ i = 1 ∨ i = 2 := by simp at hi; omega
    rcases hi' with rfl | rfl | rfl <;> exact ⟨_, _, _, rfl, heap_alloc_new w _, trivial, by simp⟩
  · have hi' : i = 0 ∨ i = 1 ∨ i = 2 := by simp at hi; omega
    have hg := grew_alloc (grew_refl w) (.cells #[v, u, t] ty)
    rcases hi' with rfl | rfl | rfl
    · simpa [nthL] using Reads.grew h hg
    · simpa [nthL] using Reads.grew h2 hg
    · simpa [nthL] using Reads.grew h3 hg

end Go.Proofs.Ytddnpooffcjhnaa
