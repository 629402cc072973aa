/- Predicates on memory, and small laws, of no program: what a value reads as, what is kept from one world to a later one, slices that the call itself owns. -/
import Derived.WalkKit
import Derived.WalkSpells
import Derived.WalkLawsBesides
import Derived.BigQuiet
import Derived.Deep.QuietTactic
import Derived.Deep.LoopGhost
import Derived.Deep.AppendSrc
import Derived.Deep.DeepMust
import Derived.ProofKit
import Derived.BigGuardPart
namespace Go.Lin
open Go.RowKit

theorem ret_bool {a b : Bool} (h : a = b) : Ending.returned (.bool a) = .returned (.bool b) := by rw [h]
theorem ret_int {k : IntKind} {a b : Int} (h : a = b) : Ending.returned (.int k a) = .returned (.int k b) := by rw [h]

theorem hid {p : Prop} (h : p) : RowKit.Hid p := h

/-- The i-th number of a list (0 behind its end). -/
def nth (xs : List Int) (i : Nat) : Int := xs.getD i 0

theorem nth_lt {xs : List Int} {i : Nat} (h : i < xs.length) : nth xs i = xs[i] := by
  simp [nth, List.getD, List.getElem?_eq_getElem h]

theorem ext_nth {xs ys : List Int} (hl : xs.length = ys.length) (h : ∀ i, i < xs.length → nth xs i = nth ys i) : xs = ys := by
  apply List.ext_getElem hl
  intro i h1 h2
  have := h i h1
  rwa [nth_lt h1, nth_lt h2] at this

theorem nth_append_left {xs ys : List Int} {i : Nat} (h : i < xs.length) : nth (xs ++ ys) i = nth xs i := by
  rw [nth_lt (by simp; omega), nth_lt h, List.getElem_append_left h]

theorem nth_append_right {xs ys : List Int} {i : Nat} (h : xs.length ≤ i) : nth (xs ++ ys) i = nth ys (i - xs.length) := by
  simp [nth, List.getD, List.getElem?_append_right h]

theorem take_succ_nth {xs : List Int} {k : Nat} (h : k < xs.length) : xs.take (k + 1) = xs.take k ++ [nth xs k] := by
  rw [List.take_succ_eq_append_getElem h, nth_lt h]

/-- One index more. -/
theorem lt_succ_all {P : Nat → Prop} {t : Nat} (h : ∀ r, r < t → P r) (ht : P t) : ∀ r, r < t + 1 → P r := by
  intro r hr
  rcases Nat.lt_or_ge r t with h1 | h1
  · exact h r h1
  · obtain rfl : r = t := by omega
    exact ht

/-! ### What is kept -/

/-- All that lay in w, but what may turn, lies in w' as it lay. -/
structure Keeps (may : Nat → Obj → Prop) (w w' : World) : Prop where
  os : w'.os = w.os
  tape : w'.tape = w.tape
  output : w'.output = w.output
  size : w.heap.size ≤ w'.heap.size
  obj : ∀ k o, w.heap[k]? = some o → ¬ may k o → w'.heap[k]? = some o

/-- All that lay in w lies in w' as it lay. -/
abbrev Grew (w w' : World) : Prop := Below w.heap.size w w'

theorem Keeps.refl (may : Nat → Obj → Prop) (w : World) : Keeps may w w := ⟨rfl, rfl, rfl, Nat.le_refl _, fun _ _ h _ => h⟩

theorem Keeps.trans {may : Nat → Obj → Prop} {a b c : World} (h : Keeps may a b) (k : Keeps may b c) : Keeps may a c :=
  ⟨k.os.trans h.os, k.tape.trans h.tape, k.output.trans h.output, Nat.le_trans h.size k.size, fun i o hi hm => k.obj i o (h.obj i o hi hm) hm⟩

theorem Keeps.mono {may may' : Nat → Obj → Prop} {w w' : World} (h : Keeps may w w') (hm : ∀ k o, may k o → may' k o) : Keeps may' w w' :=
  ⟨h.os, h.tape, h.output, h.size, fun k o hk hn => h.obj k o hk (fun m => hn (hm k o m))⟩

theorem Keeps.drew {may : Nat → Obj → Prop} {a w : World} (h : Keeps may a w) : Keeps may a w.drew := ⟨h.os, h.tape, h.output, h.size, h.obj⟩

theorem below_drewN {B : Nat} {a w : World} (h : Below B a w) (n : Nat) : Below B a (w.drewN n) := ⟨h.os, h.tape, h.output, h.size, h.block⟩

theorem Keeps.drewN {may : Nat → Obj → Prop} {a w : World} (h : Keeps may a w) (n : Nat) : Keeps may a (w.drewN n) := ⟨h.os, h.tape, h.output, h.size, h.obj⟩

theorem lt_of_obj {w : World} {k : Nat} {o : Obj} (h : w.heap[k]? = some o) : k < w.heap.size := (Array.getElem?_eq_some_iff.1 h).1

theorem Below.keeps {B : Nat} {w w' : World} (h : Below B w w') : Keeps (fun k _ => B ≤ k) w w' :=
  ⟨h.os, h.tape, h.output, h.size, fun k _ hk hn => (h.block k (by omega)).trans hk⟩

theorem Keeps.below {B : Nat} {may : Nat → Obj → Prop} {w w' : World} (h : Keeps may w w') (hB : B ≤ w.heap.size) (hm : ∀ k o, may k o → B ≤ k) : Below B w w' :=
  ⟨h.os, h.tape, h.output, h.size, fun k hk => by
    have hs : k < w.heap.size := by omega
    rw [h.obj k _ (Array.getElem?_eq_getElem hs) (fun m => by have := hm _ _ m; omega), Array.getElem?_eq_getElem hs]⟩

theorem Grew.keeps {may : Nat → Obj → Prop} {w w' : World} (h : Grew w w') : Keeps may w w' :=
  ⟨h.os, h.tape, h.output, h.size, fun k _ hk _ => (h.block k (lt_of_obj hk)).trans hk⟩

theorem grew_trans {a b c : World} (h : Grew a b) (k : Grew b c) : Grew a c := h.trans (k.mono h.size)

theorem grew_refl (w : World) : Grew w w := Below.refl _ _

theorem grew_alloc {a w : World} (h : Grew a w) (o : Obj) : Grew a (w.alloc o) := h.alloc h.size o
theorem grew_drew {a w : World} (h : Grew a w) : Grew a w.drew := h.drew
theorem grew_drewN {a w : World} (h : Grew a w) (n : Nat) : Grew a (w.drewN n) := below_drewN h n

theorem Keeps.alloc {may : Nat → Obj → Prop} {a w : World} (h : Keeps may a w) (o : Obj) : Keeps may a (w.alloc o) :=
  h.trans (Grew.keeps ((Below.refl _ _).alloc (Nat.le_refl _) _))

theorem below_alloc {B : Nat} {a w : World} (h : Below B a w) (hB : B ≤ w.heap.size) (o : Obj) : Below B a (w.alloc o) := h.alloc hB o

/-- Behind a law that ends in 'grownBy'. -/
theorem Keeps.grown {may : Nat → Obj → Prop} {a w w' : World} {row : Option Nat} (h : Keeps may a w) (hg : w.grownBy w' row) (hm : ∀ k o, row = some k → w.heap[k]? = some o → may k o) : Keeps may a w' :=
  h.trans ⟨hg.os, hg.tape, hg.output, hg.size, fun k o hk hn => (hg.block k (lt_of_obj hk) (fun e => hn (hm k o e.symm hk))).trans hk⟩

/-- A boxed struct of four cells. -/
theorem box4 (w : World) (c0 c1 c2 c3 : Value) (t : TypeId) : ∃ W0, w.alloc (.cells #[c0, c1, c2, c3] t) = W0 ∧ Grew w W0 ∧ W0.cell? ⟨w.heap.size, 0, none⟩ = some c0 ∧ W0.cell? ⟨w.heap.size, 1, none⟩ = some c1 ∧
    W0.cell? ⟨w.heap.size, 2, none⟩ = some c2 ∧ W0.cell? ⟨w.heap.size, 3, none⟩ = some c3 ∧ w.heap.size < W0.heap.size :=
  ⟨_, rfl, grew_alloc (grew_refl w) _, by simp, by simp, by simp, by simp, by simp⟩

/-- .. with its marks. -/
theorem boxf4 (w : World) (c0 c1 c2 c3 : Value) (t : TypeId) : ∃ W0, w.alloc (.cells #[c0, c1, c2, c3] t) = W0 ∧ Grew w W0 ∧ W0.cell? ⟨w.heap.size, 0, none⟩ = some c0 ∧ W0.cell? ⟨w.heap.size, 1, none⟩ = some c1 ∧
    W0.cell? ⟨w.heap.size, 2, none⟩ = some c2 ∧ W0.cell? ⟨w.heap.size, 3, none⟩ = some c3 ∧ w.heap.size < W0.heap.size ∧ ∀ j, W0.frozen? ⟨w.heap.size, j, none⟩ = false :=
  ⟨_, rfl, grew_alloc (grew_refl w) _, by simp, by simp, by simp, by simp, by simp, fun j => by simp⟩

theorem box3 (w : World) (c0 c1 c2 : Value) (t : TypeId) : ∃ W0, w.alloc (.cells #[c0, c1, c2] t) = W0 ∧ Grew w W0 ∧ W0.cell? ⟨w.heap.size, 0, none⟩ = some c0 ∧ W0.cell? ⟨w.heap.size, 1, none⟩ = some c1 ∧
    W0.cell? ⟨w.heap.size, 2, none⟩ = some c2 ∧ w.heap.size < W0.heap.size :=
  ⟨_, rfl, grew_alloc (grew_refl w) _, by simp, by simp, by simp, by simp⟩

theorem box2 (w : World) (c0 c1 : Value) (t : TypeId) : ∃ W0, w.alloc (.cells #[c0, c1] t) = W0 ∧ Grew w W0 ∧ W0.cell? ⟨w.heap.size, 0, none⟩ = some c0 ∧ W0.cell? ⟨w.heap.size, 1, none⟩ = some c1 ∧ w.heap.size < W0.heap.size :=
  ⟨_, rfl, grew_alloc (grew_refl w) _, by simp, by simp, by simp⟩

theorem box1 (w : World) (c0 : Value) (t : TypeId) : ∃ W0, w.alloc (.cells #[c0] t) = W0 ∧ Grew w W0 ∧ W0.cell? ⟨w.heap.size, 0, none⟩ = some c0 ∧ w.heap.size < W0.heap.size :=
  ⟨_, rfl, grew_alloc (grew_refl w) _, by simp, by simp⟩

/-- The two rules by which the walk reads old cells in a later world. -/
theorem bcell {B : Nat} {w w' : World} (hb : Below B w w') : (∀ b o, b < B → w'.cell? ⟨b, o, none⟩ = w.cell? ⟨b, o, none⟩) ∧ (∀ b o, b < B → w'.frozen? ⟨b, o, none⟩ = w.frozen? ⟨b, o, none⟩) :=
  ⟨fun b o h => hb.cell (p := ⟨b, o, none⟩) h, fun b o h => hb.frozen (p := ⟨b, o, none⟩) h⟩

theorem cell_of_obj {w w' : World} {b o : Nat} {x : Obj} {v : Value} (h : w.heap[b]? = some x) (h' : w'.heap[b]? = some x) (hc : w.cell? ⟨b, o, none⟩ = some v) : w'.cell? ⟨b, o, none⟩ = some v := by
  rw [World.cell?_of_block (w := w) (a := ⟨b, o, none⟩) (h'.trans h.symm)]; exact hc

/-! ### Slices that are read -/

/-- The value v is a slice of len(f) cells, the i-th of which is f i; S: what its block is. -/
def Reads (S : Nat → Obj → Prop) (w : World) (v : Value) (n : Nat) (f : Nat → Value) : Prop :=
  ∃ (a : Option Addr) (cap : Nat), v = .slice a n cap ∧ n ≤ 9223372036854775807 ∧
    ∀ i, i < n → ∃ b off o, a = some ⟨b, off, none⟩ ∧ w.heap[b]? = some o ∧ S b o ∧ w.cell? ⟨b, off + i, none⟩ = some (f i)

abbrev Any : Nat → Obj → Prop := fun _ _ => True

/-- A slice of ints that reads as xs. -/
abbrev IsInts (S : Nat → Obj → Prop) (w : World) (v : Value) (xs : List Int) : Prop := Reads S w v xs.length (fun i => .int .i64 (nth xs i))

theorem Reads.mono {S S' : Nat → Obj → Prop} {w : World} {v : Value} {n : Nat} {f : Nat → Value} (h : Reads S w v n f) (hS : ∀ k o, S k o → S' k o) : Reads S' w v n f := by
  obtain ⟨a, cap, hv, hm, hc⟩ := h
  exact ⟨a, cap, hv, hm, fun i hi => let ⟨b, off, o, h1, h2, h3, h4⟩ := hc i hi; ⟨b, off, o, h1, h2, hS _ _ h3, h4⟩⟩

theorem Reads.any {S : Nat → Obj → Prop} {w : World} {v : Value} {n : Nat} {f : Nat → Value} (h : Reads S w v n f) : Reads Any w v n f := h.mono fun _ _ _ => trivial

theorem Reads.keeps {S may : Nat → Obj → Prop} {w w' : World} {v : Value} {n : Nat} {f : Nat → Value} (h : Reads S w v n f) (hk : Keeps may w w') (hS : ∀ k o, S k o → ¬ may k o) : Reads S w' v n f := by
  obtain ⟨a, cap, hv, hm, hc⟩ := h
  refine ⟨a, cap, hv, hm, fun i hi => ?_⟩
  obtain ⟨b, off, o, h1, h2, h3, h4⟩ := hc i hi
  have h5 := hk.obj b o h2 (hS _ _ h3)
  exact ⟨b, off, o, h1, h5, h3, cell_of_obj h2 h5 h4⟩

theorem Reads.grew {S : Nat → Obj → Prop} {w w' : World} {v : Value} {n : Nat} {f : Nat → Value} (h : Reads S w v n f) (hg : Grew w w') : Reads S w' v n f := by
  obtain ⟨a, cap, hv, hm, hc⟩ := h
  refine ⟨a, cap, hv, hm, fun i hi => ?_⟩
  obtain ⟨b, off, o, h1, h2, h3, h4⟩ := hc i hi
  have h5 := (hg.block b (lt_of_obj h2)).trans h2
  exact ⟨b, off, o, h1, h5, h3, cell_of_obj h2 h5 h4⟩

theorem Reads.congr {S : Nat → Obj → Prop} {w : World} {v : Value} {n : Nat} {f g : Nat → Value} (h : Reads S w v n f) (hfg : ∀ i, i < n → f i = g i) : Reads S w v n g := by
  obtain ⟨a, cap, hv, hm, hc⟩ := h
  exact ⟨a, cap, hv, hm, fun i hi => let ⟨b, off, o, h1, h2, h3, h4⟩ := hc i hi; ⟨b, off, o, h1, h2, h3, by rw [h4, hfg i hi]⟩⟩

theorem Reads.nil (S : Nat → Obj → Prop) (w : World) (a : Option Addr) (c : Nat) (f : Nat → Value) : Reads S w (.slice a 0 c) 0 f := ⟨a, c, rfl, by omega, fun i hi => by omega⟩

/-! ### Slices that the call itself owns -/

/-- The slice v of n elements (type e, of 'size' cells each) owns the cells xs: it is nil (then n = 0), or lies at 'off' in a block of rows of its own, from 'base' on. -/
def Seg (w : World) (base : Nat) (e : TypeId) (size : Nat) (v : Value) (n : Nat) (xs : List Value) : Prop :=
  xs.length = n * size ∧
  ((v = .slice none 0 0 ∧ n = 0) ∨
   ∃ g off cap cur, v = .slice (some ⟨g, off, none⟩) n cap ∧ base ≤ g ∧ w.heap[g]? = some (.cells cur e (0, 0)) ∧ n ≤ cap ∧ cap ≤ maxLen ∧ off + cap * size ≤ cur.size ∧ (cur.toList.drop off).take (n * size) = xs)

theorem Seg.nil (w : World) (base : Nat) (e : TypeId) (size : Nat) : Seg w base e size (.slice none 0 0) 0 [] := ⟨by simp, .inl ⟨rfl, rfl⟩⟩

theorem Seg.of_ownsRow {w : World} {base : Nat} {e : TypeId} {size : Nat} {v : Value} {n : Nat} {xs : List Value} (h : w.ownsRow base e size v n xs) : Seg w base e size v n xs := by
  obtain ⟨h1, h2⟩ := h
  refine ⟨h1, ?_⟩
  rcases h2 with h2 | ⟨g, cap, cur, hv, hb, hg, hn, hm, hs, ht⟩
  · exact .inl h2
  · exact .inr ⟨g, 0, cap, cur, hv, hb, hg, hn, hm, by omega, by simpa using ht⟩

theorem Seg.mono {w : World} {base base' : Nat} {e : TypeId} {size : Nat} {v : Value} {n : Nat} {xs : List Value} (h : Seg w base e size v n xs) (hb : base' ≤ base) : Seg w base' e size v n xs := by
  obtain ⟨h1, h2⟩ := h
  refine ⟨h1, ?_⟩
  rcases h2 with h2 | ⟨g, off, cap, cur, hv, hb2, r⟩
  · exact .inl h2
  · exact .inr ⟨g, off, cap, cur, hv, by omega, r⟩

theorem Seg.own {w : World} {base : Nat} {e : TypeId} {size : Nat} {v : Value} {n : Nat} {xs : List Value} (h : Seg w base e size v n xs) : ∀ k, v.ownBlock = some k → base ≤ k ∧ k < w.heap.size ∧ ∃ cur, w.heap[k]? = some (.cells cur e (0, 0)) := by
  rintro k hk
  rcases h.2 with ⟨rfl, _⟩ | ⟨g, off, cap, cur, rfl, hb, hg, _⟩
  · simp [Value.ownBlock] at hk
  · simp [Value.ownBlock] at hk; subst hk; exact ⟨hb, lt_of_obj hg, cur, hg⟩

theorem Seg.keeps {w w' : World} {may : Nat → Obj → Prop} {base : Nat} {e : TypeId} {size : Nat} {v : Value} {n : Nat} {xs : List Value} (h : Seg w base e size v n xs) (hk : Keeps may w w') (hm : ∀ k o, v.ownBlock = some k → (∃ cur, o = .cells cur e (0, 0)) → ¬ may k o) : Seg w' base e size v n xs := by
  refine ⟨h.1, ?_⟩
  rcases h.2 with h2 | ⟨g, off, cap, cur, rfl, hb, hg, r⟩
  · exact .inl h2
  · exact .inr ⟨g, off, cap, cur, rfl, hb, hk.obj g _ hg (hm _ _ rfl ⟨cur, rfl⟩), r⟩

theorem Seg.grew {w w' : World} {base : Nat} {e : TypeId} {size : Nat} {v : Value} {n : Nat} {xs : List Value} (h : Seg w base e size v n xs) (hk : Grew w w') : Seg w' base e size v n xs :=
  h.keeps (Grew.keeps (may := fun _ _ => False) hk) (fun _ _ _ _ h => h)

theorem Seg.alloc {w : World} {base : Nat} {e : TypeId} {size : Nat} {v : Value} {n : Nat} {xs : List Value} (h : Seg w base e size v n xs) (o : Obj) : Seg (w.alloc o) base e size v n xs :=
  h.grew ((Below.refl _ _).alloc (Nat.le_refl _) _)

theorem Seg.drewN {w : World} {base : Nat} {e : TypeId} {size : Nat} {v : Value} {n : Nat} {xs : List Value} (h : Seg w base e size v n xs) (k : Nat) : Seg (w.drewN k) base e size v n xs := h

theorem Seg.shape {w : World} {base : Nat} {e : TypeId} {size : Nat} {v : Value} {n : Nat} {xs : List Value} (h : Seg w base e size v n xs) : ∃ a cap, v = .slice a n cap ∧ n ≤ maxLen := by
  rcases h.2 with ⟨rfl, rfl⟩ | ⟨g, off, cap, cur, rfl, _, _, hn, hm, _⟩
  · exact ⟨none, 0, rfl, by unfold maxLen; omega⟩
  · exact ⟨_, _, rfl, by omega⟩

/-- A cell of an owned slice. -/
theorem Seg.cell {w : World} {base : Nat} {e : TypeId} {size : Nat} {v : Value} {n : Nat} {xs : List Value} (h : Seg w base e size v n xs) (j : Nat) (hj : j < n * size) :
    ∃ g off cap cur, v = .slice (some ⟨g, off, none⟩) n cap ∧ base ≤ g ∧ w.heap[g]? = some (.cells cur e (0, 0)) ∧ w.cell? ⟨g, off + j, none⟩ = xs[j]? := by
  rcases h.2 with ⟨rfl, rfl⟩ | ⟨g, off, cap, cur, rfl, hb, hg, hn, hm, hs, ht⟩
  · simp at hj
  · refine ⟨g, off, cap, cur, rfl, hb, hg, ?_⟩
    rw [cell_of_row w g (off + j) cur e _ hg, ← ht, List.getElem?_take_of_lt hj, List.getElem?_drop, ← Array.getElem?_toList]

/-- An owned slice of one-cell elements reads as its cells. -/
theorem Seg.reads {w : World} {base : Nat} {e : TypeId} {v : Value} {n : Nat} {xs : List Value} (h : Seg w base e 1 v n xs) (f : Nat → Value) (hf : ∀ i, i < n → xs[i]? = some (f i)) :
    Reads (fun k o => base ≤ k ∧ ∃ cur, o = .cells cur e (0, 0)) w v n f := by
  obtain ⟨a, cap, hv, hm⟩ := h.shape
  refine ⟨a, cap, hv, by unfold maxLen at hm; omega, fun i hi => ?_⟩
  obtain ⟨g, off, cap', cur, hv', hb, hg, hc⟩ := h.cell i (by omega)
  rw [hv] at hv'
  simp only [Value.slice.injEq] at hv'
  exact ⟨g, off, _, hv'.1, hg, ⟨hb, cur, rfl⟩, by rw [hc, hf i hi]⟩

theorem Seg.isInts {w : World} {base : Nat} {e : TypeId} {v : Value} {n : Nat} {xs : List Int} (h : Seg w base e 1 v n (xs.map (.int .i64))) : IsInts (fun k o => base ≤ k ∧ ∃ cur, o = .cells cur e (0, 0)) w v xs := by
  have hl : n = xs.length := by have := h.1; simp at this; omega
  subst hl
  exact h.reads _ (fun i hi => by simp [nth, List.getD, List.getElem?_eq_getElem hi])

/-- 's[1:]' of an owned slice. -/
theorem Seg.tail {w : World} {base : Nat} {e : TypeId} {size : Nat} {v : Value} {n : Nat} {xs : List Value} (h : Seg w base e size v (n + 1) xs) :
    ∃ g off cap, v = .slice (some ⟨g, off, none⟩) (n + 1) cap ∧ n + 1 ≤ cap ∧ Seg w base e size (.slice (some (if cap = 1 then ⟨g, off, none⟩ else ⟨g, off + size, none⟩)) n (cap - 1)) n (xs.drop size) := by
  obtain ⟨h1, h2⟩ := h
  rcases h2 with ⟨_, h0⟩ | ⟨g, off, cap, cur, rfl, hb, hg, hn, hm, hs, ht⟩
  · omega
  · refine ⟨g, off, cap, rfl, hn, by rw [List.length_drop, h1, Nat.add_mul]; omega, .inr ?_⟩
    by_cases hc : cap = 1
    · subst hc
      obtain rfl : n = 0 := by omega
      refine ⟨g, off, 0, cur, by simp, hb, hg, by omega, by omega, by omega, ?_⟩
      have : xs.drop size = [] := List.drop_eq_nil_of_le (by omega)
      simp [this]
    · refine ⟨g, off + size, cap - 1, cur, by simp [hc], hb, hg, by omega, by omega, ?_, ?_⟩
      · have : cap * size = (cap - 1) * size + size := by
          obtain ⟨c, rfl⟩ : ∃ c, cap = c + 1 := ⟨cap - 1, by omega⟩
          simp [Nat.add_mul]
        omega
      · rw [← ht, List.drop_take, List.drop_drop]
        congr 1
        rw [Nat.add_mul]; omega

/-! ### A region that draws its order, whose operations each yield one value in whatever later world -/

/-- A world in which all that lay in W lies as it lay. -/
def Later (W : World) : Type := { x : World // Grew W x }

instance (W : World) : Nonempty (Later W) := ⟨⟨W, grew_refl W⟩⟩

theorem wp_region_later {P : Program} {id : Nat} {Q : Exit → Act → World → Prop} {a : Act} {W : World} {l : List Oper} (hm : P.follows .mixedOrders = true) (hB : Region.lexB .any l.toArray = true)
    (h : (∀ (x : Later W) b o, b < W.heap.size → x.1.cell? ⟨b, o, none⟩ = W.cell? ⟨b, o, none⟩) →
      wpQuiet P l.toArray (fun w' => ∃ x : Later W, w' = x.1) (fun a' => ∀ w', (∃ x : Later W, w' = x.1) → Q .normal a' w') l a) : (Code.region id l.toArray true).wp P Q a W :=
  wp_region_quiet (C := fun w' => ∃ x : Later W, w' = x.1) hm hB ⟨⟨W.drew, (Below.refl _ _).drew⟩, rfl⟩ (by simpa using h (fun x b o hb => x.2.cell (p := ⟨b, o, none⟩) hb))

/-- A callee's contract at a later world. -/
theorem calls_later {P : Program} {f : FuncId} {args : Array Value} {W : World} {x : Later W} {v : Value}
    (h : Calls P f args x.1 fun e w' => e = .returned v ∧ Grew x.1 w') : Calls P f args x.1 fun e w' => e = .returned v ∧ ∃ y : Later W, w' = y.1 :=
  h.mono fun _ w' ⟨he, hg⟩ => ⟨he, ⟨w', grew_trans x.2 hg⟩, rfl⟩

end Go.Lin
