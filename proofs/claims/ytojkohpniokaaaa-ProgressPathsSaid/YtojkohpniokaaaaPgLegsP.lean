/- The line of the search for ways, in memory. -/
import Derived.Test.YtojkohpniokaaaaPgW
import Derived.Test.YtojkohpniokaaaaPgG
import Derived.Test.YtojkohpniokaaaaInLaws
import Derived.Test.YtojkohpniokaaaaRangeSepM
import Derived.Test.YtojkohpniokaaaaRoundHeld
namespace Go.Lin.Pg
open Go Go.RowKit Go.Proofs.Ytojkohpniokaaaa

/-- An entry, and the slice of its path. -/
abbrev LX := Leg × Value
def lPl (l : List LX) : List Int := l.map (·.1.1)
def pInts (u : List Nat) : List Int := u.map Int.ofNat

/-- What is told of x when it is handed over behind pre. -/
structure HasL (n₀ : Nat) (ms : List Mv) (may : Mv → Bool) (a : Int) (pre : List LX) (x : LX) (W : World) : Prop where
  path : WdOff (fun k o => IntCells k o ∧ n₀ ≤ k) W x.2 (pInts x.1.2)
  way : IsWay ms may a x.1.1 x.1.2
  new : (lPl (pre ++ [x])).Nodup
  few : pre.length < 8
  short : x.1.2.length < 8

/-- What holds of all that was handed over. -/
structure AllL (ms : List Mv) (may : Mv → Bool) (a : Int) (xs : List LX) : Prop where
  ways : ∀ x ∈ xs, IsWay ms may a x.1.1 x.1.2
  new : (lPl xs).Nodup
  all : ∀ v q, goG ms may a v = some q → q ∈ lPl xs

def encL (x : LX) : Array Value := #[.agg #[.int .i64 x.1.1, x.2]]
def encZ (x : Int) : Value := .int .i64 x
theorem encZ_inj (u v : Int) (h : encZ u = encZ v) : u = v := by
  unfold encZ at h
  simpa using h

/-- The cells of the line. -/
def cellsL (L : List LX) : List Value := L.flatMap fun x => [.int .i64 x.1.1, x.2]
def seenL (all : List LX) : Int → Bool := fun p => (lPl all).contains p

theorem seenL_iff {all : List LX} {p : Int} : seenL all p = true ↔ p ∈ lPl all := by
  unfold seenL
  simp only [List.contains_iff_mem]

/-- What holds at the head of the loops: T are the blocks that the call itself has laid; yd: what the loop's body may turn. -/
structure LLine (ms : List Mv) (may : Mv → Bool) (a : Int) (yd : Nat → Obj → Prop) (w W wr : World) (T : Nat → Prop) (lv : Value) (done L : List LX) (H : Leg → Nat → Prop) : Prop where
  keep : Keeps yd w wr
  size : W.heap.size ≤ wr.heap.size
  own : ∀ k, T k → W.heap.size ≤ k ∧ k < wr.heap.size
  inv : GInv ms may a ((done ++ L).map (·.1)) H
  seg : Seg wr W.heap.size 104 2 lv L.length (cellsL L)
  segT : ∀ k, lv.ownBlock = some k → T k
  words : ∀ x ∈ L, WdOff (fun k o => T k ∧ IntCells k o) wr x.2 (pInts x.1.2)
  mapT : T W.heap.size
  map : ∃ n, FMap wr Go.Proofs.Try.prog 3 4 W.heap.size n encZ Lit.bool false (seenL (done ++ L)) ∧ n ≤ (done ++ L).length

theorem LLine.keeps {ms : List Mv} {may : Mv → Bool} {a : Int} {yd : Nat → Obj → Prop} {w W wr wr' : World} {T T' : Nat → Prop} {lv : Value} {done L : List LX} {H : Leg → Nat → Prop} (h : LLine ms may a yd w W wr T lv done L H) (hk : Keeps (fun k o => ¬ T k ∧ yd k o) wr wr') (h1 : ∀ k, T k → T' k) (h2 : ∀ k, T' k → W.heap.size ≤ k ∧ k < wr'.heap.size) :
    LLine ms may a yd w W wr' T' lv done L H := by
  refine ⟨h.keep.trans (hk.mono (fun k o h => h.2)), Nat.le_trans h.size hk.size, h2, h.inv, h.seg.keeps hk (fun k o hv _ hn => hn.1 (h.segT k hv)), fun k hv => h1 k (h.segT k hv), fun x hx => ((h.words x hx).keeps hk (fun k o ho hn => hn.1 ho.1)).re (fun k o _ ho => ⟨h1 k ho.1, ho.2⟩), h1 _ h.mapT, ?_⟩
  obtain ⟨n, hn, hl⟩ := h.map
  exact ⟨n, hn.keeps hk (fun es c hm => hm.1 h.mapT), hl⟩

theorem LLine.grew {ms : List Mv} {may : Mv → Bool} {a : Int} {yd : Nat → Obj → Prop} {w W wr wr' : World} {T T' : Nat → Prop} {lv : Value} {done L : List LX} {H : Leg → Nat → Prop} (h : LLine ms may a yd w W wr T lv done L H) (hg : Grew wr wr') (h1 : ∀ k, T k → T' k) (h2 : ∀ k, T' k → W.heap.size ≤ k ∧ k < wr'.heap.size) :
    LLine ms may a yd w W wr' T' lv done L H := h.keeps hg.keeps h1 h2

theorem LLine.congr {ms : List Mv} {may : Mv → Bool} {a : Int} {yd : Nat → Obj → Prop} {w W wr : World} {T : Nat → Prop} {lv : Value} {done L : List LX} {H H' : Leg → Nat → Prop} (h : LLine ms may a yd w W wr T lv done L H) (hi : GInv ms may a ((done ++ L).map (·.1)) H') : LLine ms may a yd w W wr T lv done L H' :=
  ⟨h.keep, h.size, h.own, hi, h.seg, h.segT, h.words, h.mapT, h.map⟩

theorem LLine.has {ms : List Mv} {may : Mv → Bool} {a : Int} {N : Nat} (h8 : N ≤ 8) (hN : ∀ (v : List Nat) (q : Int), goG ms may a v = some q → 0 ≤ q ∧ q < (N : Int)) {yd : Nat → Obj → Prop} {w W wr : World} {T : Nat → Prop} {lv : Value} {done tail : List LX} {x : LX} (h : LLine ms may a yd w W wr T lv done (x :: tail) (Tried (done.map (·.1)) x.1 0)) : HasL W.heap.size ms may a done x wr := by
  have hi := h.inv
  rw [List.map_append, List.map_cons] at hi
  have hw := hi.isWay_on (e := x.1) (by simp)
  have hc := hi.count (N := N) (fun e he => hN _ _ (hi.path e he))
  have hl := hi.wordlen (f := x.1) (by simp)
  rw [List.length_append, List.length_cons, List.length_map, List.length_map] at hc hl
  refine ⟨(h.words x (by simp)).re (fun k o _ ho => ⟨ho.2, (h.own k ho.1).1⟩), hw, ?_, by omega, by omega⟩
  have hn := hi.nodup
  rw [← List.map_cons (f := fun y : LX => y.1), ← List.map_append, List.map_map] at hn
  have hs : (done ++ [x]).Sublist (done ++ x :: tail) := List.Sublist.append_left (List.Sublist.cons_cons x (List.nil_sublist _)) _
  exact (hs.map _).nodup hn

theorem HasL.keeps {n₀ : Nat} {ms : List Mv} {may : Mv → Bool} {a : Int} {pre : List LX} {x : LX} {W W' : World} {yd : Nat → Obj → Prop} (h : HasL n₀ ms may a pre x W) (hk : Keeps yd W W') (hm : ∀ k c fr, ¬ yd k (.cells c 3 fr)) : HasL n₀ ms may a pre x W' :=
  ⟨h.path.keeps hk (fun k _ ⟨⟨c, fr, ho⟩, _⟩ hmm => hm k c fr (ho ▸ hmm)), h.way, h.new, h.few, h.short⟩

/-- Moves in blocks that are not turned. -/
def MvsOff (S : Nat → Obj → Prop) (w : World) (v : Value) (ms : List Mv) : Prop :=
  ∃ (a : Option Addr) (cap : Nat), v = .slice a ms.length cap ∧ ∀ i m, ms[i]? = some m → ∃ b off o, a = some ⟨b, off, none⟩ ∧ w.heap[b]? = some o ∧ S b o ∧ MvAt w b (off + i * 4) m

theorem MvAt.keeps {yd : Nat → Obj → Prop} {w w' : World} {b o : Nat} {m : Mv} {x : Obj} (h : MvAt w b o m) (hk : Keeps yd w w') (hb : w.heap[b]? = some x) (hn : ¬ yd b x) : MvAt w' b o m := by
  have hb' := hk.obj _ _ hb hn
  exact ⟨lt_of_obj hb', cell_of_obj hb hb' h.c0, cell_of_obj hb hb' h.c1, cell_of_obj hb hb' h.c2, cell_of_obj hb hb' h.c3⟩

theorem mapKeeps {α β : Type} {w w' : World} {P : Program} {kt et : TypeId} {b n : Nat} {enc : α → Value} {mk : β → Lit} {z : β} {S : α → β} (h : FMap w P kt et b n enc mk z S) (hg : w.grownBy w' (some b)) : Keeps (fun k o => k = b ∧ ∃ es c, o = .map es c) w w' :=
  (Keeps.refl _ _).grown hg (fun k o e ho => by
    cases e
    obtain ⟨es, c, h1⟩ := h.obj
    rw [h1] at ho; cases ho; exact ⟨rfl, es, c, rfl⟩)
end Go.Lin.Pg
namespace Go.Proofs.Ytojkohpniokaaaa
open Go Go.RowKit Go.Lin Go.Lin.Pg Go.Maps
theorem keyed3 : Keyed Try.prog 3 := int_keyed Try.underlying3
theorem Try.info104 : (Try.prog.info? 104).map (fun i => (i.zero, i.size, i.bytes)) = some (some (.agg #[.int .i64 0, .slice none 0 0]), 2, 32) := by kernel_rfl
end Go.Proofs.Ytojkohpniokaaaa
