/- Walks: the states that are reached, in the order of their words, of the program's own text: what is ranged over. -/
import Derived.Test.YtnebpcpihldllaaWClone
import Derived.Test.YtnebpcpihldllaaMapFacts
import Derived.Test.YtnebpcpihldllaaWays
import Derived.Test.YtnebpcpihldllaaInLaws
import Derived.Test.YtnebpcpihldllaaRangeSep
import Derived.RangeFuncNested
import Derived.Shelf.Abstract
import Derived.Shelf.RegionOpen
import Derived.TacticsInMore
import Derived.LoopNIn
import Derived.LoopIn
import Derived.Sort.LoopGhostIn
import Derived.Maps.OwnIn
namespace Go.Lin
open Go.RowKit

/-- An entry, and the slice of its word. -/
abbrev WX := E × Value
def wStates (l : List WX) : List Nat := l.map fun x => x.1.1

/-- What is told of x when it is handed over behind pre. -/
structure HasWay (M : Mach) (pre : List WX) (x : WX) (W : World) : Prop where
  word : IsNats (IntObj 3) W x.2 x.1.2.2
  way : IsWay M x.1.1 x.1.2.2
  lt : x.1.1 < M.n
  new : (wStates (pre ++ [x])).Nodup

structure AllWays (M : Mach) (xs : List WX) : Prop where
  ways : ∀ x ∈ xs, IsWay M x.1.1 x.1.2.2 ∧ x.1.1 < M.n
  new : (wStates xs).Nodup
  all : ∀ v, OkW M.k v → stM M 0 v ∈ wStates xs
  sorted : xs.Pairwise fun x y => sle x.1.2.2 y.1.2.2

def encW (x : WX) : Array Value := #[.agg #[.int .i64 (x.1.1 : Int), x.2]]
def encI (x : Nat) : Value := .int .i64 (x : Int)

/-- The cells of the line. -/
def cellsW (L : List WX) : List Value := L.flatMap fun x => [.int .i64 (x.1.1 : Int), x.2]
noncomputable def seenW (all : List WX) : Nat → Bool := fun x => (wStates all).contains x

/-- What holds at the head of the loops: T are the blocks that the call itself has laid, bx the machine's box. -/
structure WLine (M : Mach) (bx : Obj) (w W wr : World) (T : Nat → Prop) (lv : Value) (done L : List WX) (H : E → Nat → Prop) : Prop where
  below : Below w.heap.size w wr
  size : W.heap.size ≤ wr.heap.size
  own : ∀ k, T k → W.heap.size ≤ k ∧ k < wr.heap.size
  inv : WInv M ((done ++ L).map (·.1)) H
  seg : Seg wr W.heap.size 89 2 lv L.length (cellsW L)
  segT : ∀ k, lv.ownBlock = some k → T k
  words : ∀ x ∈ L, Reads (fun k o => T k ∧ ∃ c fr, o = .cells c 3 fr) wr x.2 x.1.2.2.length (fun i => .int .i64 ((nthN x.1.2.2 i : Nat) : Int))
  mapT : T (W.heap.size + 1)
  map : ∃ n, FMap wr Go.Proofs.Try.prog 3 4 (W.heap.size + 1) n encI Lit.bool false (seenW (done ++ L)) ∧ n ≤ (done ++ L).length
  boxT : T W.heap.size
  box : wr.heap[W.heap.size]? = some bx

theorem seenW_iff {all : List WX} {x : Nat} : seenW all x = true ↔ x ∈ wStates all := by
  unfold seenW
  simp only [List.contains_iff_mem]

theorem encI_inj (u v : Nat) (h : encI u = encI v) : u = v := by
  unfold encI at h
  simp only [Value.int.injEq, true_and] at h
  omega

theorem reads_held {O : Nat → Obj → Prop} {w : World} {v : Value} {n : Nat} {f : Nat → Value} (h : Reads O w v n f) : Reads (fun k o => O k o ∧ k < w.heap.size) w v n f := by
  obtain ⟨a, cap, h1, h2, h3⟩ := h
  refine ⟨a, cap, h1, h2, fun i hi => ?_⟩
  obtain ⟨b, off, o, e1, e2, e3, e4⟩ := h3 i hi
  exact ⟨b, off, o, e1, e2, ⟨e3, lt_of_obj e2⟩, e4⟩

theorem WLine.keeps {M : Mach} {bx : Obj} {w W wr wr' : World} {T T' : Nat → Prop} {lv : Value} {done L : List WX} {H : E → Nat → Prop} (h : WLine M bx w W wr T lv done L H) (hk : Keeps (fun k _ => ¬ T k ∧ w.heap.size ≤ k) wr wr') (h1 : ∀ k, T k → T' k) (h2 : ∀ k, T' k → W.heap.size ≤ k ∧ k < wr'.heap.size) :
    WLine M bx w W wr' T' lv done L H := by
  refine ⟨?_, Nat.le_trans h.size hk.size, h2, h.inv, h.seg.keeps hk (fun k o hv _ hn => hn.1 (h.segT k hv)), fun k hv => h1 k (h.segT k hv), fun x hx => ((h.words x hx).keeps hk (fun k o ho hn => hn.1 ho.1)).mono (fun k o ho => ⟨h1 k ho.1, ho.2⟩), h1 _ h.mapT, ?_, h1 _ h.boxT, hk.obj _ _ h.box (fun hn => hn.1 h.boxT)⟩
  · exact h.below.trans (hk.below h.below.size (fun k o hm => hm.2))
  · obtain ⟨n, hn, hl⟩ := h.map
    exact ⟨n, hn.keeps hk (fun es c hm => hm.1 h.mapT), hl⟩

theorem WLine.grew {M : Mach} {bx : Obj} {w W wr wr' : World} {T T' : Nat → Prop} {lv : Value} {done L : List WX} {H : E → Nat → Prop} (h : WLine M bx w W wr T lv done L H) (hg : Grew wr wr') (h1 : ∀ k, T k → T' k) (h2 : ∀ k, T' k → W.heap.size ≤ k ∧ k < wr'.heap.size) :
    WLine M bx w W wr' T' lv done L H := h.keeps hg.keeps h1 h2

theorem WLine.congr {M : Mach} {bx : Obj} {w W wr : World} {T : Nat → Prop} {lv : Value} {done L : List WX} {H H' : E → Nat → Prop} (h : WLine M bx w W wr T lv done L H) (hi : WInv M ((done ++ L).map (·.1)) H') : WLine M bx w W wr T lv done L H' :=
  ⟨h.below, h.size, h.own, hi, h.seg, h.segT, h.words, h.mapT, h.map, h.boxT, h.box⟩

theorem WLine.has {M : Mach} (hM : M.WF) {bx : Obj} {w W wr : World} {T : Nat → Prop} {lv : Value} {done tail : List WX} {x : WX} (h : WLine M bx w W wr T lv done (x :: tail) (Tried (done.map (·.1)) x.1 0)) : HasWay M done x wr := by
  have hi := h.inv
  rw [List.map_append, List.map_cons] at hi
  have hw := hi.isWay (e := x.1) (by simp)
  refine ⟨(h.words x (by simp)).mono (fun k o ho => ho.2), hw, ?_, ?_⟩
  · rw [← hw.leads]
    exact stM_lt hM hM.n1 hw.ok
  · have hn := hi.nodup
    rw [← List.map_cons (f := fun y : WX => y.1), ← List.map_append, List.map_map] at hn
    have hs : (done ++ [x]).Sublist (done ++ x :: tail) := List.Sublist.append_left (List.Sublist.cons_cons x (List.nil_sublist _)) _
    exact (hs.map _).nodup hn
end Go.Lin
namespace Go.Proofs.Ytnebpcpihldllaa
open Go.RowKit Go.Lin Go.Maps Go.Shelf
attribute [local go_sem] Oper.semAt_some

theorem mapKeeps {α β : Type} {w w' : World} {P : Program} {kt et : TypeId} {b n : Nat} {enc : α → Value} {mk : β → Lit} {z : β} {S : α → β} (h : FMap w P kt et b n enc mk z S) (hg : w.grownBy w' (some b)) : Keeps (fun k o => k = b ∧ ∃ es c, o = .map es c) w w' :=
  (Keeps.refl _ _).grown hg (fun k o e ho => by
    cases e
    obtain ⟨es, c, h1⟩ := h.obj
    rw [h1] at ho; cases ho; exact ⟨rfl, es, c, rfl⟩)

theorem Try.info89 : (Try.prog.info? 89).map (fun i => (i.zero, i.size, i.bytes)) = some (some (.agg #[.int .i64 0, .slice none 0 0]), 2, 32) := by kernel_rfl

set_option maxHeartbeats 4000000 in
set_option maxRecDepth 100000 in
theorem ways_stops (M : Mach) (hM : M.WF) (mv : Value) (w : World) (nf : Nat) (hnf : 3 ≤ nf) (hm : IsMach w mv M) : SeqT Fence.wide nf Try.prog 88 #[mv] #[] encW w.heap.size (HasWay M) (AllWays M) w := by
  intro l J Jx W hgW hJ hY h0
  obtain ⟨b1, off1, c1, b2, off2, c2, rfl, t1, t2⟩ := hm
  obtain ⟨W0, hW0, g0, k0, k1, k2, k3, hz⟩ := box4 W (.int .i64 (M.n : Int)) (.int .i64 (M.k : Int)) (.slice (some ⟨b1, off1, none⟩) M.n c1) (.slice (some ⟨b2, off2, none⟩) M.n c2) 60
  have hsz0 : W0.heap.size = W.heap.size + 1 := by rw [← hW0]; simp
  have hbox : W0.heap[W.heap.size]? = some (.cells #[.int .i64 (M.n : Int), .int .i64 (M.k : Int), .slice (some ⟨b1, off1, none⟩) M.n c1, .slice (some ⟨b2, off2, none⟩) M.n c2] 60 (0, 0)) := by rw [← hW0]; exact heap_alloc_new W _
  have HSZ0 := hid hsz0; have HBOX := hid hbox; clear hsz0 hbox
  have n8 := hM.n8; have k4 := hM.k4
  have hmm := @run_makeMap Try.prog
  have hkl : keyOf Try.prog 3 (encI 0) = some (.int .i64 ((0 : Nat) : Int)) := Maps.keyOf_int_mk Try.underlying3 (by decide)
  have HKL := hid hkl; clear hkl
  refine callsIn_of_wp Try.func88 rfl trivial ?_ rfl
  simp only [Try.ntmps88, List.size_toArray, List.length_cons, List.length_nil, Nat.reduceAdd, Nat.reduceSub, Array.replicate_succ, Array.replicate_zero, List.push_toArray, List.append_toArray, List.nil_append, List.cons_append]
  gi_wp2_with (refine wpListIn_update_f rfl _ _ _ 106 (.inr rfl) keyed3 Try.underlying106 rfl (FMap.made W0 Try.prog 3 4 encI Lit.bool false) (by unfold maxLen; omega) (0 : Nat) rfl HKL.out (fun u h => by simpa [encI] using h) (.bool true) rfl (e := true) (plainElem_bool Try.underlying4 true) (seenW [((0, 0, []), .slice none 0 0)]) (by simp [seenW, wStates]) (fun u hu => by simp [seenW, wStates]; exact hu) ?_; intro w2 hmap hgr)
  have hz2 : W0.heap.size < w2.heap.size := hmap.lt
  have gw : Grew W0 w2 := ((grew_refl W0).alloc (Nat.le_refl _) _).grown hgr (by simp) (fun k e => by cases e; exact Nat.le_refl _)
  have gW : Grew W w2 := grew_trans g0 gw
  obtain ⟨w3, hw3, g3, x0, x1, hz3⟩ := box2 w2 (.int .i64 0) (.slice none 0 0) 89
  rw [hw3]
  have hseg3 : Seg w3 W.heap.size 89 2 (.slice (some ⟨w2.heap.size, 0, none⟩) 1 1) 1 (cellsW [((0, 0, []), .slice none 0 0)]) := by
    rw [← hw3]
    exact Seg.lit w2 W.heap.size 89 2 #[.int .i64 0, .slice none 0 0] gW.size rfl
  have g3W := grew_trans gW g3
  have hinv0 : WInv M (([] ++ [((0, 0, []), Value.slice none 0 0)] : List WX).map (·.1)) (fun e _ => e ∈ ([] : List WX).map (·.1)) :=
    (BInv.start (mute M) (oneM M) 0 0).congr (fun e _ o _ => by simp) (fun e o h => h.elim)
  have hline0 : WLine M (.cells #[.int .i64 (M.n : Int), .int .i64 (M.k : Int), .slice (some ⟨b1, off1, none⟩) M.n c1, .slice (some ⟨b2, off2, none⟩) M.n c2] 60 (0, 0)) w W w3 (fun k => W.heap.size ≤ k ∧ k < w3.heap.size) (.slice (some ⟨w2.heap.size, 0, none⟩) 1 1) [] [((0, 0, []), .slice none 0 0)] (fun e _ => e ∈ ([] : List WX).map (·.1)) := by
    refine ⟨hgW.trans (g3W.mono hgW.size), g3W.size, fun k h => h, hinv0, hseg3, ?_, ?_, ⟨by omega, by have := HSZ0.out; have := g3.size; omega⟩, ⟨1, ?_, by simp⟩, ⟨Nat.le_refl _, by have := g3.size; omega⟩, ((grew_trans gw g3).block _ hz).trans HBOX.out⟩
    · intro k hk
      simp [Value.ownBlock] at hk
      subst hk
      exact ⟨gW.size, hz3⟩
    · intro x hx
      simp only [List.mem_singleton] at hx; subst hx
      exact Reads.nil _ _ _ _ _
    · rw [← HSZ0.out]
      exact hmap.grew g3
  have hJ0 : J [] (fun k => W.heap.size ≤ k ∧ k < w3.heap.size) w3 := hJ [] _ W w3 h0 g3W.keeps _ (fun k h => ⟨.inr h.1, h.2⟩)
  have HL0 := hid hline0; have HJ0 := hid hJ0; have HJ := hid hJ; have HY := hid hY
  have T1 := hid t1
  clear hline0 hJ0 hJ hY hgr hmap hmm hinv0 hseg3 h0 hw3 hW0 x0 x1 k0 k1 k2 k3 t1 t2
  gi_loopg [5] 65 (fun g lv wr => ∃ (done L : List WX) (T : Nat → Prop), Hid (g = 65 - done.length) ∧ Hid (J done T wr) ∧ Hid (WLine M (.cells #[.int .i64 (M.n : Int), .int .i64 (M.k : Int), .slice (some ⟨b1, off1, none⟩) M.n c1, .slice (some ⟨b2, off2, none⟩) M.n c2] 60 (0, 0)) w W wr T lv done L (fun e _ => e ∈ done.map (·.1))))
  case atStart => exact ⟨[], _, _, hid rfl, HJ0, HL0⟩
  case round =>
    clear HL0 HJ0
    obtain ⟨done, L, T, HG, HJd, HL⟩ := hrel
    obtain ⟨la, lc, rfl, _⟩ := HL.out.seg.shape
    have hn1 : 1 ≤ nf := by omega
    rcases L with _ | ⟨x, tail⟩
    · simp only [List.length_nil] at *
      gi_wp2
      go_end0
      have hall := HL.out.inv
      rw [List.append_nil] at hall
      refine ⟨⟨_, rfl⟩, .inl ⟨done, T, ⟨fun y hy => ?_, ?_, fun v hv => ?_, (by have h := hall.sorted; rw [List.pairwise_map] at h; exact h)⟩, HJd.out⟩⟩
      · have hw := hall.isWay_done (List.mem_map_of_mem hy)
        refine ⟨hw, ?_⟩
        rw [← hw.leads]
        exact stM_lt hM hM.n1 hw.ok
      · have := hall.nodup
        rw [List.map_map] at this
        exact this
      · obtain ⟨f, hf, hfe, _⟩ := hall.all hv
        obtain ⟨y, hy, rfl⟩ := List.mem_map.1 hf
        rw [← hfe]
        exact List.mem_map_of_mem (f := fun x : WX => x.1.1) hy
    · obtain ⟨⟨xs, xz, xw⟩, xv⟩ := x
      obtain ⟨g, off, cap, cur, hlv, hbg, hgo, hcap, hcapm, hcells⟩ := HL.out.seg.at (by simp)
      simp only [Value.slice.injEq] at hlv
      obtain ⟨rfl, _, rfl⟩ := hlv
      have hinv1 : WInv M ((done ++ ((xs, xz, xw), xv) :: tail).map (·.1)) (Tried (done.map (·.1)) (xs, xz, xw) 0) := by
        have h := HL.out.inv
        rw [List.map_append, List.map_cons] at h ⊢
        exact h.begin
      have hhas := (HL.out.congr hinv1).has hM
      have j0 := hcells 0 (by simp)
      have j1 := hcells 1 (by simp; omega)
      simp only [cellsW, List.flatMap_cons, List.cons_append, List.getElem?_cons_zero, List.getElem?_cons_succ, Nat.add_zero] at j0 j1
      obtain ⟨wva, wvc, hwv, _, _⟩ := hhas.word
      simp only [] at hwv
      subst hwv
      have hlen : (0 : Int) < ((((xs, xz, xw), Value.slice wva xw.length wvc) :: tail).length : Int) := by simp
      obtain ⟨P0, hP0, gp, q0, q1, hzp⟩ := box2 wr (.int .i64 (xs : Int)) (.slice wva xw.length wvc) 89
      have hgt : g < wr.heap.size := lt_of_obj hgo
      have HHAS := hid hhas; have HINV1 := hid hinv1
      clear hcells hgo hhas hinv1
      have hJ1 : J done (fun k => T k ∨ k = wr.heap.size) P0 := HJ.out done T wr P0 HJd.out gp.keeps _ (fun k h => by
        rcases h with h | h
        · have := HL.out.own k h; have := gp.size; exact ⟨.inl h, by omega⟩
        · subst h; exact ⟨.inr (Nat.le_refl _), hzp⟩)
      have hh1 : HasWay M done ((xs, xz, xw), Value.slice wva xw.length wvc) P0 := ⟨HHAS.out.word.grew gp, HHAS.out.way, HHAS.out.lt, HHAS.out.new⟩
      have hy := HY.out done _ _ P0 hJ1 hh1
      dsimp only [encW] at hy
      obtain ⟨fn, tmps, assign, body, hy, hR⟩ := hy
      have HL1 := hid (((HL.out.congr HINV1.out).grew gp (T' := fun k => T k ∨ k = wr.heap.size) (fun k h => .inl h) (fun k h => by
        rcases h with h | h
        · have := HL.out.own k h; have := gp.size; omega
        · subst h; exact ⟨HL.out.size, hzp⟩)))
      have hbx := (lt_of_obj (show P0.heap[wr.heap.size]? = some (.cells #[.int .i64 (xs : Int), .slice wva xw.length wvc] 89 (0, 0)) from by rw [← hP0]; exact heap_alloc_new wr _))
      have hob : P0.heap[wr.heap.size]? = some (.cells #[.int .i64 (xs : Int), .slice wva xw.length wvc] 89 (0, 0)) := by rw [← hP0]; exact heap_alloc_new wr _
      have HOB := hid hob
      clear hob hJ1 hh1
      gi_wp2
      refine hR.mono ?_
      rintro e W3 (⟨rfl, hJ3, hk3⟩ | ⟨rfl, hJx3⟩)
      · clear q0 q1 j0 j1 hy hR hbx
        have hk3' := hk3.size
        have HL3 := hid (HL1.out.keeps hk3 (fun k h => h) (fun k h => by have := HL1.out.own k h; omega))
        have hob3 := hk3.obj _ _ HOB.out (fun hn => hn.1 (.inr rfl))
        have HOB3 := hid hob3
        have HJ3 := hid hJ3
        have hlt1 := HHAS.out.lt
        simp only [] at hlt1
        obtain ⟨b5, off5, c5, r2, r2b, r2c⟩ := T1.out.2 xs hlt1
        have hbl3 := HL3.out.below
        have hb1 := T1.out.1
        have e0 : W3.cell? ⟨wr.heap.size, 0, none⟩ = some (.int .i64 (xs : Int)) := cell_of_row _ _ _ _ _ _ hob3
        have m2 : W3.cell? ⟨W.heap.size, 2, none⟩ = some (.slice (some ⟨b1, off1, none⟩) M.n c1) := cell_of_row _ _ _ _ _ _ HL3.out.box
        have r3 := (hbl3.cell (p := ⟨b1, off1 + xs, none⟩) hb1).trans r2
        have R2C := hid r2c; have R2 := hid r2; have R2B := hid r2b
        clear r2 r2b r2c hob3 hJ3 hk3 hbl3 HL1 HOB hP0
        have hown : (Value.slice (some ⟨g, off, none⟩) (tail.length + 1) lc).ownBlock ≠ some wr.heap.size := by
          simp [Value.ownBlock]; omega
        have HOWN := hid hown; clear hown
        obtain ⟨wo, rfl⟩ : ∃ wo : World, wo = wr := ⟨_, rfl⟩
        gi_wp2
        clear e0 r3 m2
        gi_loopg [5, 32] M.k (fun gk lv oi wi => ∃ (op : Nat) (tl : List WX) (T' : Nat → Prop), oi = .int .i64 op ∧ op ≤ M.k ∧ Hid (gk = M.k - op) ∧ Hid (J (done ++ [((xs, xz, xw), Value.slice wva xw.length wvc)]) T' wi) ∧
          Hid (WLine M (.cells #[.int .i64 (M.n : Int), .int .i64 (M.k : Int), .slice (some ⟨b1, off1, none⟩) M.n c1, .slice (some ⟨b2, off2, none⟩) M.n c2] 60 (0, 0)) w W wi T' lv done (((xs, xz, xw), Value.slice wva xw.length wvc) :: tl) (Tried (done.map (·.1)) (xs, xz, xw) op)) ∧
          Hid (lv.ownBlock ≠ some wo.heap.size) ∧ Hid (T' wo.heap.size) ∧ Hid (wi.heap[wo.heap.size]? = some (.cells #[.int .i64 (xs : Int), .slice wva xw.length wvc] 89 (0, 0))))
        case atStart => exact ⟨0, tail, _, rfl, Nat.zero_le _, hid rfl, HJ3, HL3, HOWN, hid (.inr rfl), HOB3⟩
        case round =>
          clear HL3 HOWN HOB3 HJ3 HJd HL
          obtain ⟨op, tl, T', rfl, hop, HGK, HJI, HLI, HOWN, HTB, HOBI⟩ := hrel
          obtain ⟨la', lc', rfl, _⟩ := HLI.out.seg.shape
          by_cases hopk : op < M.k
          · have c5' := (HLI.out.below.cell (p := ⟨b5, off5 + op, none⟩) R2B.out).trans (R2C.out op hopk)
            have e1 : wr.cell? ⟨wo.heap.size, 1, none⟩ = some (.slice wva xw.length wvc) := cell_of_row _ _ _ _ _ _ HOBI.out
            obtain ⟨nm, hmapI, hnm⟩ := HLI.out.map
            rw [← HSZ0.out] at hmapI
            have HM := hid hmapI; have HNM := hid hnm; clear hmapI hnm
            have hnx := hM.nx xs hlt1 op hopk
            have hkl : keyOf Try.prog 3 (encI (M.nx xs op)) = some (.int .i64 ((M.nx xs op : Nat) : Int)) := Maps.keyOf_int_mk Try.underlying3 (WalkArith.wf_i64 (by omega))
            have HKL := hid hkl; clear hkl
            by_cases hseen : seenW (done ++ (((xs, xz, xw), Value.slice wva xw.length wvc) :: tl)) (M.nx xs op) = true
            · have HSEEN := hid hseen
              gi_wp2_with (gi_at_lookup; refine wpListIn_lookup_bool rfl _ _ 106 rfl keyed3 Try.underlying106 Try.underlying4 (zero4 _) rfl HM.out (M.nx xs op) rfl HKL.out ?_)
              gi_roundg (M.k - (op + 1))
              case measure => have := HGK.out; omega
              case rel =>
                refine ⟨op + 1, tl, T', by go_num, by omega, hid rfl, HJI, hid (HLI.out.congr ?_), HOWN, HTB, HOBI⟩
                have hi := HLI.out.inv
                rw [List.map_append, List.map_cons] at hi ⊢
                refine BInv.seen hi hopk rfl ?_
                obtain ⟨y, hy1, hy2⟩ := List.mem_map.1 (seenW_iff.1 HSEEN.out)
                have hm : y.1 ∈ done.map (·.1) ++ (xs, xz, xw) :: tl.map (·.1) := by
                  have := List.mem_map_of_mem (f := fun z : WX => z.1) hy1
                  simpa using this
                exact ⟨y.1, hm, hy2, hi.one hm⟩
            · have HSEEN := hid hseen
              replace hseen : seenW (done ++ (((xs, xz, xw), Value.slice wva xw.length wvc) :: tl)) (M.nx xs op) = false := by simpa using hseen
              have hcnt := WInv.count hM HLI.out.inv
              have hwl := BInv.wordlen HLI.out.inv (f := (xs, xz, xw)) (by simp)
              simp only [List.map_append, List.map_cons, List.length_append, List.length_map, List.length_cons] at hcnt hwl
              have hnm2 : nm < 1000 := by have := HNM.out; simp only [List.length_append, List.length_cons] at this; omega
              have hwl2 : xw.length < 1000 := by omega
              have htl : tl.length + 1 < 1000000000 := by omega
              have HSG := hid HLI.out.seg
              have HWD := hid (HLI.out.words ((xs, xz, xw), Value.slice wva xw.length wvc) (by simp))
              gi_wp2_with (first
                | (gi_at_lookup; refine wpListIn_lookup_bool rfl _ _ 106 rfl keyed3 Try.underlying106 Try.underlying4 (zero4 _) rfl HM.out (M.nx xs op) rfl HKL.out ?_)
                | (gi_at_mapUpdate; go_loud (refine wpListIn_update_f rfl _ _ _ 106 (.inl rfl) keyed3 Try.underlying106 rfl HM.out (by unfold maxLen; omega) (M.nx xs op) rfl HKL.out (fun u h => encI_inj _ _ h) (.bool true) rfl (e := true) (plainElem_bool Try.underlying4 true) (seenW ((done ++ (((xs, xz, xw), Value.slice wva xw.length wvc) :: tl)) ++ [((M.nx xs op, 0, xw ++ [op]), .slice none 0 0)])) (seenW_iff.2 (by simp [wStates])) (fun u hu => by rw [Bool.eq_iff_iff, seenW_iff, seenW_iff]; simp [wStates, hu]) ?_)
                   intro w7 hmap7 hgr7
                   have hk67 := mapKeeps HM.out hgr7
                   have HGR7 := hid hgr7; have HM7 := hid hmap7; clear hgr7 hmap7
                   have e7 : w7.cell? ⟨wo.heap.size, 1, none⟩ = some (.slice wva xw.length wvc) := cell_of_row _ _ _ _ _ _ (hk67.obj _ _ HOBI.out (fun ⟨_, es, c, ho⟩ => by cases ho))
                   have HK67 := hid hk67; clear hk67)
                | (refine ⟨trivial, ?_⟩; gi_at_call 60
                   refine (callsIn_wide.2 (clone_any _ xw.length (fun i => .int .i64 ((nthN xw i : Nat) : Int)) w7 (by omega) ((HWD.out.keeps HK67.out (fun k o ⟨_, c, fr, ho⟩ ⟨_, es, c', ho2⟩ => by rw [ho] at ho2; cases ho2)).mono (fun k o ⟨_, c, fr, ho⟩ => by subst ho; trivial)) (fun i => rfl))).mono ?_
                   rintro e w3' ⟨cv, rfl, hseg3, hg3⟩
                   have HSEG3 := hid hseg3; have HG3 := hid hg3; clear hseg3 hg3)
                | (gi_at_builtin; refine wpListIn_append_one rfl _ _ 34 rfl w7.heap.size 3 Try.underlying34 Try.info3 rfl (by decide) _ xw.length _ rfl (HSEG3.out.alloc _) _ _ _ rfl (one_new _ _ _) rfl (by omega) ?_ ?_
                   (have := HG3.out.size; simp only [World.size_alloc]; omega)
                   intro v4 w4 hown4 hgrow4 hblk4
                   have hg4 := (HG3.out.alloc HG3.out.size _).grown hgrow4 (HG3.out.alloc HG3.out.size _).size (fun k e => (HSEG3.out.own k e).1)
                   obtain ⟨a4, c4', rfl, _⟩ := hown4.shape
                   have HG4 := hid hg4; have HOWN4 := hid hown4; clear hg4 hown4 hgrow4 hblk4)
                | (gi_at_builtin; refine wpListIn_append_lit rfl _ _ 107 rfl W.heap.size 89 Try.underlying107 Try.info89 rfl (by decide) _ (tl.length + 1) _ rfl ((HSG.out.keeps HK67.out (fun k o _ ⟨cur, ho⟩ ⟨_, es, c, ho2⟩ => by rw [ho] at ho2; cases ho2)).grew HG4.out) [.int .i64 (M.nx xs op : Int), .slice a4 (xw.length + 1) c4'] 89 _ rfl rfl ?_ htl (by have := HLI.out.size; have := HK67.out.size; have := HG4.out.size; omega) ?_
                   (simp [Value.oneCell'])
                   intro v8 w8 hown8 hgrow8 hblk8
                   have HOWN8 := hid hown8; have HGROW8 := hid hgrow8; have HBLK8 := hid hblk8; clear hown8 hgrow8 hblk8))
              have HS4 := hid ((HSG.out.keeps HK67.out (fun k o _ ⟨cur, ho⟩ ⟨_, es, c, ho2⟩ => by rw [ho] at ho2; cases ho2)).grew HG4.out)
              have hk48 : Keeps (fun k o => (Value.slice la' (tl.length + 1) lc').ownBlock = some k ∧ ∃ c fr, o = .cells c 89 fr) w4 w8 := ((Keeps.refl _ w4).alloc _).grown HGROW8.out (fun k o e ho => by obtain ⟨_, _, cur, hcur⟩ := HS4.out.own k e; have h2 : (w4.alloc (.cells #[.int .i64 (M.nx xs op : Int), .slice a4 (xw.length + 1) c4'] 89)).heap[k]? = some (.cells cur 89 (0, 0)) := (Below.heap_alloc _ _ k (lt_of_obj hcur)).trans hcur; rw [h2] at ho; cases ho; exact ⟨e, _, _, rfl⟩)
              have hk17 : Keeps (fun k o => T' k ∧ ((∃ es c, o = .map es c) ∨ ((Value.slice la' (tl.length + 1) lc').ownBlock = some k ∧ ∃ c fr, o = .cells c 89 fr))) wr w7 := HK67.out.mono (fun k o ⟨e, h⟩ => ⟨by rw [e, HSZ0.out]; exact HLI.out.mapT, .inl h⟩)
              have hk := (hk17.trans (Grew.keeps HG4.out (may := fun k o => T' k ∧ ((∃ es c, o = .map es c) ∨ ((Value.slice la' (tl.length + 1) lc').ownBlock = some k ∧ ∃ c fr, o = .cells c 89 fr))))).trans (hk48.mono (fun k o h => ⟨HLI.out.segT k h.1, .inr h⟩))
              have HK := hid hk
              have hz1 := hk17.size; have hz2 := HG4.out.size; have hz3 := hk48.size
              have hnw : wo.heap.size < wr.heap.size := lt_of_obj HOBI.out
              gi_roundg (M.k - (op + 1))
              case measure => have := HGK.out; omega
              case rel =>
                refine ⟨op + 1, tl ++ [((M.nx xs op, 0, xw ++ [op]), .slice a4 (xw.length + 1) c4')], fun k => T' k ∨ (wr.heap.size ≤ k ∧ k < w8.heap.size), by go_num, by omega, hid rfl, hid (HJ.out _ T' wr w8 HJI.out (HK.out.mono (fun k o h => h.1)) _ (fun k h => ?_)), hid ?_, hid ?_, hid (.inl HTB.out), hid (HK.out.obj _ _ HOBI.out ?_)⟩
                · rcases h with h | h
                  · have := HLI.out.own k h; exact ⟨.inl h, by omega⟩
                  · exact ⟨.inr h.1, h.2⟩
                · refine ⟨?_, ?_, ?_, ?_, ?_, ?_, ?_, .inl HLI.out.mapT, ⟨nm + 1, ?_, ?_⟩, .inl HLI.out.boxT, HK.out.obj _ _ HLI.out.box ?_⟩
                  · exact HLI.out.below.trans (HK.out.below HLI.out.below.size (fun k o hm => by have := HLI.out.own k hm.1; have := hgW.size; omega))
                  · have := HLI.out.size; omega
                  · intro k h
                    rcases h with h | h
                    · have := HLI.out.own k h; omega
                    · have := HLI.out.size; omega
                  · have hi := HLI.out.inv
                    rw [List.map_append, List.map_cons] at hi ⊢
                    have h := BInv.new hi hopk rfl (fun ⟨f, hf, hf1, hf2⟩ => HSEEN.out (seenW_iff.2 (by
                      have hf' : f ∈ (done ++ (((xs, xz, xw), Value.slice wva xw.length wvc) :: tl)).map (·.1) := by simpa using hf
                      obtain ⟨y, hy1, rfl⟩ := List.mem_map.1 hf'
                      exact hf1 ▸ List.mem_map_of_mem (f := fun z : WX => z.1.1) hy1)))
                    rw [List.map_append]
                    exact h
                  · have h := HOWN8.out
                    simpa [cellsW] using h
                  · intro k h
                    rcases HBLK8.out with e | e
                    · rw [e] at h; exact .inl (HLI.out.segT k h)
                    · rw [e] at h; cases h; exact .inr ⟨by omega, by
                        obtain ⟨_, _, cur, hcur⟩ := HOWN8.out.own _ e
                        exact lt_of_obj hcur⟩
                  · intro x hx
                    rw [← List.cons_append] at hx
                    rcases List.mem_append.1 hx with hx | hx
                    · refine ((HLI.out.words x hx).keeps HK.out (fun k o ho hm => ?_)).mono (fun k o ho => ⟨.inl ho.1, ho.2⟩)
                      obtain ⟨_, c, fr, rfl⟩ := ho
                      rcases hm.2 with ⟨_, _, h⟩ | ⟨_, _, _, h⟩ <;> cases h
                    · simp only [List.mem_singleton] at hx; subst hx
                      have h := (HOWN4.out.reads (fun i => .int .i64 ((nthN (xw ++ [op]) i : Nat) : Int)) (fun i hi => by
                        rcases Nat.lt_or_ge i xw.length with hl | hl
                        · rw [List.getElem?_append_left (by simpa using hl)]
                          simp [nthN, List.getD, List.getElem?_append_left hl, hl]
                        · obtain rfl : i = xw.length := by omega
                          simp [nthN, List.getD]))
                      have h2 := reads_held h
                      have hl : (xw ++ [op]).length = xw.length + 1 := by simp
                      rw [hl]
                      refine ((h2.mono (S' := fun k o => (w7.heap.size ≤ k ∧ k < w4.heap.size) ∧ ∃ c fr, o = .cells c 3 fr) (fun k o ho => ?_)).keeps hk48 (fun k o ho hm => ?_)).mono (fun k o ho => ⟨.inr ⟨by omega, by omega⟩, ho.2⟩)
                      · obtain ⟨⟨hb, c, rfl⟩, h3⟩ := ho
                        exact ⟨⟨hb, h3⟩, c, _, rfl⟩
                      · obtain ⟨_, c, fr, rfl⟩ := ho
                        obtain ⟨_, _, _, h⟩ := hm
                        cases h
                  · rw [← HSZ0.out]
                    refine (HM7.out.keeps ((Grew.keeps HG4.out (may := fun k o => (Value.slice la' (tl.length + 1) lc').ownBlock = some k ∧ ∃ c fr, o = .cells c 89 fr)).trans hk48) (fun es c ⟨_, c', fr, ho⟩ => by cases ho)).congr (fun u => by simp [seenW, wStates])
                  · have := HNM.out
                    simp only [List.length_append, List.length_cons, List.length_nil] at this ⊢
                    omega
                  · rintro ⟨_, ⟨_, _, h⟩ | ⟨_, _, _, h⟩⟩ <;> cases h
                · rcases HBLK8.out with e | e
                  · rw [e]; exact HOWN.out
                  · rw [e]; intro h; simp at h; omega
                · rintro ⟨_, ⟨_, _, h⟩ | ⟨h, _⟩⟩
                  · cases h
                  · exact HOWN.out h
          · obtain rfl : op = M.k := by omega
            obtain ⟨g2, off2', cap2, hsv, hcap2, htail⟩ := HLI.out.seg.tail
            simp only [Value.slice.injEq] at hsv
            obtain ⟨rfl, _, rfl⟩ := hsv
            have HT := hid htail; clear htail
            have hlen1 : (1 : Int) ≤ (tl.length : Int) + 1 := by omega
            have hcnt := WInv.count hM HLI.out.inv
            simp only [List.map_append, List.map_cons, List.length_append, List.length_map, List.length_cons] at hcnt
            have hnext : WLine M (.cells #[.int .i64 (M.n : Int), .int .i64 (M.k : Int), .slice (some ⟨b1, off1, none⟩) M.n c1, .slice (some ⟨b2, off2, none⟩) M.n c2] 60 (0, 0)) w W wr T' (.slice (some (if lc' = 1 then ⟨g2, off2', none⟩ else ⟨g2, off2' + 2, none⟩)) tl.length (lc' - 1)) (done ++ [((xs, xz, xw), Value.slice wva xw.length wvc)]) tl (fun e _ => e ∈ (done ++ [((xs, xz, xw), Value.slice wva xw.length wvc)]).map (·.1)) := by
              refine ⟨HLI.out.below, HLI.out.size, HLI.out.own, ?_, ?_, ?_, fun x hx => HLI.out.words x (by simp [hx]), HLI.out.mapT, ?_, HLI.out.boxT, HLI.out.box⟩
              · have hi := HLI.out.inv
                rw [List.map_append, List.map_cons] at hi
                have h := BInv.next hi
                simpa using h
              · have h := HT.out
                simpa [cellsW] using h
              · intro k hk
                refine HLI.out.segT k ?_
                split at hk <;> simpa [Value.ownBlock] using hk
              · have he : (done ++ [((xs, xz, xw), Value.slice wva xw.length wvc)]) ++ tl = done ++ ((xs, xz, xw), Value.slice wva xw.length wvc) :: tl := by simp
                rw [he]
                exact HLI.out.map
            have HN := hid hnext; clear hnext
            by_cases hc1 : lc' = 1
            · subst hc1
              obtain rfl : tl = [] := List.eq_nil_of_length_eq_zero (by omega)
              gi_wp2
              gi_roundg (65 - (done ++ [((xs, xz, xw), Value.slice wva xw.length wvc)]).length)
              case measure => have := HG.out; simp only [List.length_append, List.length_cons, List.length_nil]; omega
              case rel => exact ⟨_, [], T', hid rfl, HJI, by simpa using HN⟩
            · have HC1 := hid hc1
              gi_wp2
              gi_roundg (65 - (done ++ [((xs, xz, xw), Value.slice wva xw.length wvc)]).length)
              case measure => have := HG.out; simp only [List.length_append, List.length_cons, List.length_nil]; omega
              case rel => exact ⟨_, tl, T', hid rfl, HJI, by have h := HN.out; rw [if_neg HC1.out] at h; exact hid h⟩
      · gi_wp2
        refine bodyPost_ret (results_none rfl _ _ _) rfl ?_
        exact ⟨⟨_, rfl⟩, .inr ⟨_, _, hJx3⟩⟩
end Go.Proofs.Ytnebpcpihldllaa
