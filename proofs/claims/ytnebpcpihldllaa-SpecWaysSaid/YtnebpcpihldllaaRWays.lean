/- Walks: the reference's ways: the words and the states that they lead to. -/
import Derived.Test.YtnebpcpihldllaaWWays
import Derived.Test.YtnebpcpihldllaaWFar
namespace Go.Lin
open Go.RowKit

/-- The word's slice that the table holds for a state. -/
def wvOf (all : List WX) (i : Nat) : Value := match all.find? (fun x => x.1.1 == i) with
  | some x => x.2
  | none => .slice none 0 0

theorem wvOf_mem {all : List WX} (hn : (wStates all).Nodup) {x : WX} (hx : x ∈ all) : wvOf all x.1.1 = x.2 := by
  induction all with
  | nil => cases hx
  | cons y all ih =>
    rw [wStates, List.map_cons, List.nodup_cons] at hn
    unfold wvOf
    rcases List.mem_cons.1 hx with rfl | hx
    · simp
    · have hne : (y.1.1 == x.1.1) = false := by
        rw [beq_eq_false_iff_ne]
        intro e
        exact hn.1 (by rw [e]; exact List.mem_map_of_mem (f := fun z : WX => z.1.1) hx)
      rw [List.find?_cons, hne]
      exact ih hn.2 hx

theorem wvOf_new {all : List WX} {y : WX} (hn : y.1.1 ∉ wStates all) (i : Nat) : wvOf (all ++ [y]) i = if i = y.1.1 then y.2 else wvOf all i := by
  unfold wvOf
  rw [List.find?_append]
  by_cases h : i = y.1.1
  · rw [if_pos h]
    have : all.find? (fun x => x.1.1 == i) = none := by
      rw [List.find?_eq_none]
      intro x hx he
      refine hn ?_
      rw [← h, ← beq_iff_eq.1 he]
      exact List.mem_map_of_mem (f := fun z : WX => z.1.1) hx
    rw [this]
    simp [h]
  · rw [if_neg h]
    have h2 : (y.1.1 == i) = false := by rw [beq_eq_false_iff_ne]; exact fun e => h e.symm
    cases hf : all.find? (fun x => x.1.1 == i) with
    | some x => simp
    | none => simp [h2]

theorem wvOf_none {all : List WX} {i : Nat} (h : i ∉ wStates all) : wvOf all i = .slice none 0 0 := by
  unfold wvOf
  have : all.find? (fun x => x.1.1 == i) = none := by
    rw [List.find?_eq_none]
    intro x hx he
    exact h (by rw [← beq_iff_eq.1 he]; exact List.mem_map_of_mem (f := fun z : WX => z.1.1) hx)
  rw [this]

theorem seenW_new {all : List WX} {y : WX} (i : Nat) : seenW (all ++ [y]) i = if i = y.1.1 then true else seenW all i := by
  by_cases h : i = y.1.1
  · rw [if_pos h]; exact seenW_iff.2 (by simp [wStates, h])
  · rw [if_neg h, Bool.eq_iff_iff, seenW_iff, seenW_iff]; simp [wStates, h]

/-- What holds at the head of the reference's loops. nb: the block of the line that grows. -/
structure RLine (M : Mach) (W0 wr : World) (bT bW : Nat) (nb : Option Nat) (done L : List WX) (H : E → Nat → Prop) : Prop where
  grew : Grew W0 wr
  lowT : W0.heap.size ≤ bT
  lowW : W0.heap.size ≤ bW
  inv : WInv M ((done ++ L).map (·.1)) H
  there : wr.rowIs bT 4 M.n (fun i => .bool (seenW (done ++ L) i))
  table : wr.rowIs bW 34 M.n (wvOf (done ++ L))
  words : ∀ x ∈ done ++ L, Reads (fun k o => nb ≠ some k ∧ IntObj 3 k o) wr x.2 x.1.2.2.length (fun i => .int .i64 ((nthN x.1.2.2 i : Nat) : Int))

/-- The states of a line, as cells. -/
def cellsS (L : List WX) : List Value := L.map fun x => .int .i64 (x.1.1 : Int)
theorem rowIs_keeps {may : Nat → Obj → Prop} {w w' : World} {b : Nat} {t : TypeId} {n : Nat} {f : Nat → Value} (h : w.rowIs b t n f) (hk : Keeps may w w') (hm : ∀ c, ¬ may b (.cells c t (0, 0))) : w'.rowIs b t n f := by
  obtain ⟨c, hb, h2⟩ := h
  exact ⟨c, hk.obj _ _ hb (hm c), h2⟩

theorem Reads.monoAt {S S' : Nat → Obj → Prop} {w : World} {v : Value} {n : Nat} {f : Nat → Value} (h : Reads S w v n f) (hS : ∀ k o, w.heap[k]? = some o → S k o → S' k o) : Reads S' w v n f := by
  obtain ⟨a, cap, hv, hm, hc⟩ := h
  refine ⟨a, cap, hv, hm, fun i hi => ?_⟩
  obtain ⟨b, off, o, h1, h2, h3, h4⟩ := hc i hi
  exact ⟨b, off, o, h1, h2, hS _ _ h2 h3, h4⟩

/-- The two tables' blocks. -/
def Tabs (bT bW : Nat) : Nat → Obj → Prop := fun k o => (k = bT ∧ ∃ c fr, o = .cells c 4 fr) ∨ (k = bW ∧ ∃ c fr, o = .cells c 34 fr)

theorem Tabs.not3 {bT bW k : Nat} {c : Array Value} {fr : Nat × Nat} (h : Tabs bT bW k (.cells c 3 fr)) : False := by
  rcases h with ⟨_, c', fr', h⟩ | ⟨_, c', fr', h⟩ <;> cases h

theorem nthN_snoc {xs : List Nat} {x i : Nat} (_h : i < xs.length + 1) : nthN (xs ++ [x]) i = if i < xs.length then nthN xs i else x := by
  by_cases h : i < xs.length
  · rw [if_pos h]; simp [nthN, List.getD, List.getElem?_append_left h]
  · rw [if_neg h]
    have : i = xs.length := by omega
    subst this
    simp [nthN, List.getD]

/-- A state is new: it goes to the end of the line. -/
theorem RLine.push {M : Mach} {W0 wr w9 : World} {bT bW : Nat} {nb nb' : Option Nat} {done tail : List WX} {h : WX} {op : Nat} {v7 : Value}
    (hl : RLine M W0 wr bT bW nb done (h :: tail) (Tried (done.map (·.1)) h.1 op)) (hop : op < M.k) (hseen : M.nx h.1.1 op ∉ wStates (done ++ h :: tail))
    (hk : Keeps (fun k o => Tabs bT bW k o ∨ nb = some k) wr w9) (hnb0 : ∀ k, nb = some k → W0.heap.size ≤ k)
    (hT : w9.rowIs bT 4 M.n (fun i => if i = M.nx h.1.1 op then .bool true else .bool (seenW (done ++ h :: tail) i)))
    (hW : w9.rowIs bW 34 M.n (fun i => if i = M.nx h.1.1 op then v7 else wvOf (done ++ h :: tail) i))
    (hnew : Reads (fun k o => nb' ≠ some k ∧ IntObj 3 k o) w9 v7 (h.1.2.2 ++ [op]).length (fun i => .int .i64 ((nthN (h.1.2.2 ++ [op]) i : Nat) : Int)))
    (hnb' : nb' = nb ∨ ∃ k, nb' = some k ∧ wr.heap.size ≤ k) :
    RLine M W0 w9 bT bW nb' done (h :: (tail ++ [((M.nx h.1.1 op, 0, h.1.2.2 ++ [op]), v7)])) (Tried (done.map (·.1)) h.1 (op + 1)) := by
  have hall : done ++ h :: (tail ++ [((M.nx h.1.1 op, 0, h.1.2.2 ++ [op]), v7)]) = (done ++ h :: tail) ++ [((M.nx h.1.1 op, 0, h.1.2.2 ++ [op]), v7)] := by simp
  refine ⟨hl.grew.trans (hk.below hl.grew.size (fun k o hm => ?_)), hl.lowT, hl.lowW, ?_, ?_, ?_, ?_⟩
  · rcases hm with (⟨rfl, _⟩ | ⟨rfl, _⟩) | hm
    · exact hl.lowT
    · exact hl.lowW
    · exact hnb0 k hm
  · have hi := hl.inv
    rw [List.map_append, List.map_cons] at hi ⊢
    have hn := BInv.new hi hop rfl (fun ⟨f, hf, hf1, hf2⟩ => hseen (by
      have hf' : f ∈ (done ++ h :: tail).map (·.1) := by simpa using hf
      obtain ⟨y, hy1, rfl⟩ := List.mem_map.1 hf'
      exact hf1 ▸ List.mem_map_of_mem (f := fun z : WX => z.1.1) hy1))
    rw [List.map_append]
    exact hn
  · rw [hall]
    refine hT.congr (fun i _ => ?_)
    rw [seenW_new]
    by_cases e : i = M.nx h.1.1 op
    · rw [if_pos e, if_pos e]
    · rw [if_neg e, if_neg e]
  · rw [hall]
    refine hW.congr (fun i _ => ?_)
    rw [wvOf_new (by exact hseen)]
  · rw [hall]
    intro x hx
    rcases List.mem_append.1 hx with hx | hx
    · refine ((hl.words x hx).monoAt (S' := fun k o => (nb ≠ some k ∧ nb' ≠ some k) ∧ IntObj 3 k o) (fun k o ho hs => ⟨⟨hs.1, ?_⟩, hs.2⟩)).keeps hk (fun k o hs hm => ?_) |>.mono (fun k o hs => ⟨hs.1.2, hs.2⟩)
      · rcases hnb' with e | ⟨k', e, hk'⟩
        · rw [e]; exact hs.1
        · rw [e]; intro he; cases he; have := lt_of_obj ho; omega
      · obtain ⟨c, fr, ho⟩ := hs.2
        rcases hm with hm | hm
        · rw [ho] at hm; exact hm.not3
        · exact hs.1.1 hm
    · simp only [List.mem_singleton] at hx
      subst hx
      exact hnew
end Go.Lin
namespace Go.Proofs.Ytnebpcpihldllaa
open Go.RowKit Go.Lin

/-- A slice of numbers as the source of an append. -/
theorem src_reads {S : Nat → Obj → Prop} {w : World} {a : Option Addr} {n c : Nat} {f : Nat → Value} (h : Reads S w (.slice a n c) n f) (h1 : ∀ i, (f i).oneCell' = true) : Src Try.prog 1 34 (.slice a n c) n ((List.range n).map f) w := by
  obtain ⟨a', c', hv, _, hc⟩ := h
  simp only [Value.slice.injEq, true_and] at hv
  obtain ⟨rfl, rfl⟩ := hv
  rcases a with _ | ad
  · have h0 : n = 0 := by
      rcases Nat.eq_zero_or_pos n with h | h
      · exact h
      · obtain ⟨_, _, _, h2, _⟩ := hc 0 h; cases h2
    subst h0
    exact Src.ofNil _ Try.underlying34 c
  · refine Src.ofSlice _ Try.underlying34 ad n c _ (by simp) ?_ ?_
    · intro j u hj
      have hjn : j < n := by have := (List.getElem?_eq_some_iff.1 hj).1; simpa using this
      simp only [List.getElem?_map, List.getElem?_range hjn, Option.map_some, Option.some.injEq] at hj
      obtain ⟨b, off, o, h2, h3, _, h5⟩ := hc j hjn
      cases h2
      rw [Addr.add_lit, h5, hj]
    · intro u hu
      obtain ⟨i, _, rfl⟩ := List.mem_map.1 hu
      exact h1 i

theorem keeps_setAt {may : Nat → Obj → Prop} (W : World) (a : Addr) (v : Value) (hm : ∀ o, W.heap[a.block]? = some o → may a.block o) : Keeps may W (W.setCell a v) :=
  ⟨rfl, rfl, rfl, by simp [World.setCell], fun k x hk hn => by
    by_cases e : k = a.block
    · subst e; exact absurd (hm _ hk) hn
    · simp [World.setCell, Array.getElem?_modify, Ne.symm e, hk]⟩

theorem seg_empty (w : World) : Seg (w.alloc (.cells #[] 3)) w.heap.size 3 1 (.slice (some ⟨w.heap.size, 0, none⟩) 0 0) 0 [] :=
  ⟨by simp, .inr ⟨w.heap.size, 0, 0, #[], rfl, Nat.le_refl _, heap_alloc_new w _, Nat.le_refl _, by unfold maxLen; omega, by simp, by simp⟩⟩

theorem Try.info4' : (Try.prog.info? 4).map (fun i => (i.zero, i.size, i.bytes)) = some (some (.bool false), 1, 1) := by kernel_rfl

/-- The two tables, in either order. -/
theorem tables_A (W0 : World) (n : Nat) : ∃ bT bW W1, W0.heap.size + 1 = bW ∧ W0.heap.size = bT ∧ ((W0.alloc (.cells (madeCells #[.bool false] n) 4)).alloc (.cells (madeCells #[.slice none 0 0] n) 34)).drew = W1 ∧ Grew W0 W1 ∧
    W1.rowIs bT 4 n (fun _ => .bool false) ∧ W1.rowIs bW 34 n (fun _ => .slice none 0 0) :=
  ⟨_, _, _, rfl, rfl, rfl, (grew_alloc (grew_alloc (grew_refl _) _) _).drew, (World.rowIs_made W0 _ n 4).alloc _, by have h := World.rowIs_made (W0.alloc (.cells (madeCells #[.bool false] n) 4)) (.slice none 0 0) n 34; rw [World.size_alloc] at h; exact h⟩
theorem tables_B (W0 : World) (n : Nat) : ∃ bT bW W1, W0.heap.size + 1 = bT ∧ W0.heap.size = bW ∧ ((W0.alloc (.cells (madeCells #[.slice none 0 0] n) 34)).alloc (.cells (madeCells #[.bool false] n) 4)).drew = W1 ∧ Grew W0 W1 ∧
    W1.rowIs bT 4 n (fun _ => .bool false) ∧ W1.rowIs bW 34 n (fun _ => .slice none 0 0) :=
  ⟨_, _, _, rfl, rfl, rfl, (grew_alloc (grew_alloc (grew_refl _) _) _).drew, by have h := World.rowIs_made (W0.alloc (.cells (madeCells #[.slice none 0 0] n) 34)) (.bool false) n 4; rw [World.size_alloc] at h; exact h, (World.rowIs_made W0 _ n 34).alloc _⟩

set_option maxHeartbeats 4000000 in
set_option maxRecDepth 100000 in
/-- The reference's ways. -/
theorem refWays_any (M : Mach) (hM : M.WF) (mv : Value) (w : World) (hm : IsMach w mv M) :
    Calls Try.prog 100 #[mv] w fun e w' => ∃ (bW bT : Nat) (xs : List WX), e = .returned (.tuple #[.slice (some ⟨bW, 0, none⟩) M.n M.n, .slice (some ⟨bT, 0, none⟩) M.n M.n]) ∧ Grew w w' ∧
      AllWays M xs ∧ w'.rowIs bT 4 M.n (fun i => .bool (seenW xs i)) ∧ w'.rowIs bW 34 M.n (wvOf xs) ∧ ∀ x ∈ xs, IsNats (IntObj 3) w' x.2 x.1.2.2 := by
  obtain ⟨b1, off1, c1, b2, off2, c2, rfl, t1, t2⟩ := hm
  obtain ⟨W0, hW0, g0, k0, k1, k2, k3, hz⟩ := box4 w (.int .i64 M.n) (.int .i64 M.k) (.slice (some ⟨b1, off1, none⟩) M.n c1) (.slice (some ⟨b2, off2, none⟩) M.n c2) 24
  have T1 := hid (t1.grew g0)
  have hb1 := T1.out.1
  clear t1 t2
  have n1 := hM.n1
  have n8 := hM.n8
  have k4 := hM.k4
  have hmk22 := run_make_row' (P := Try.prog) 22 34 (.slice none 0 0) 24 Try.underlying22 Try.info34 rfl .i64 .i64 M.n (by omega) (by omega)
  have hmk94 := run_make_row' (P := Try.prog) 94 4 (.bool false) 1 Try.underlying94 Try.info4' rfl .i64 .i64 M.n (by omega) (by omega)
  go_enter Try.func100, Try.ntmps100
  go_wp2
  go_region
  all_goals
    first
      | (obtain ⟨bT, bW, W1, e1, e2, e3, g1, hT, hW⟩ := tables_A W0 M.n; rw [e1, e3, e2])
      | (obtain ⟨bT, bW, W1, e1, e2, e3, g1, hT, hW⟩ := tables_B W0 M.n; rw [e1, e3, e2])
    have hlT : W0.heap.size ≤ bT := by omega
    have hlW : W0.heap.size ≤ bW := by omega
    have hne : bT ≠ bW := by omega
    clear e1 e2 e3 hmk22 hmk94
    have cT := hT.cell (i := 0) (by omega)
    have fT := hT.frozen 0
    have HT := hid hT; have HW := hid hW; clear hT hW
    go_wp2
    obtain ⟨W2, hW2, g2, hz2⟩ : ∃ W2, (W1.setCell ⟨bT, 0, none⟩ (.bool true)).alloc (.cells #[.int .i64 0] 3) = W2 ∧ Grew W0 W2 ∧ (W1.setCell ⟨bT, 0, none⟩ (.bool true)).heap.size = W1.heap.size := ⟨_, rfl, grew_alloc (g1.setCell (by show W0.heap.size ≤ bT; omega) _) _, by simp⟩
    have hT2 : W2.rowIs bT 4 M.n (fun i => .bool (seenW (([] : List WX) ++ [((0, 0, []), .slice none 0 0)]) i)) := by
      rw [← hW2]
      exact ((HT.out.set 0 _).alloc _).congr (fun i _ => by
        by_cases h : i = 0
        · simp [h, seenW, wStates]
        · simp [h, seenW, wStates])
    have hWt2 : W2.rowIs bW 34 M.n (wvOf (([] : List WX) ++ [((0, 0, []), .slice none 0 0)])) := by
      rw [← hW2]
      exact ((HW.out.setOther (by show bW ≠ bT; omega) _).alloc _).congr (fun i _ => by
        by_cases h : i = 0
        · subst h; simp [wvOf]
        · have : ((0 : Nat) == i) = false := by simp; omega
          simp [wvOf, this])
    have hseg2 : Seg W2 W0.heap.size 3 1 (.slice (some ⟨W1.heap.size, 0, none⟩) 1 1) 1 (cellsS [((0, 0, []), .slice none 0 0)]) := by
      have h := Seg.lit (W1.setCell ⟨bT, 0, none⟩ (.bool true)) W0.heap.size 3 1 #[.int .i64 0] (by rw [hz2]; exact g1.size) rfl
      rw [hW2, hz2] at h
      exact h
    have hl0 : RLine M W0 W2 bT bW none [] [((0, 0, []), .slice none 0 0)] (fun e _ => e ∈ ([] : List WX).map (·.1)) :=
      ⟨g2, hlT, hlW, (BInv.start (mute M) (oneM M) 0 0).congr (fun e _ o _ => by simp) (fun e o h => h.elim), hT2, hWt2, fun x hx => by
        simp only [List.nil_append, List.mem_singleton] at hx; subst hx
        exact Reads.nil _ _ _ _ _⟩
    have HL0 := hid hl0; have HS0 := hid hseg2
    rw [hW2]
    clear hl0 hseg2 hT2 hWt2 HT HW cT fT hW2
    go_loopg [4] 65 (fun g lv wr => ∃ (done L : List WX), Hid (g = 65 - done.length) ∧ Hid (RLine M W0 wr bT bW none done L (fun e _ => e ∈ done.map (·.1))) ∧ Hid (Seg wr W0.heap.size 3 1 lv L.length (cellsS L)))
    case atStart => exact ⟨[], [((0, 0, []), .slice none 0 0)], hid rfl, HL0, HS0⟩
    case round =>
      clear HL0 HS0
      obtain ⟨done, L, HG, HL, HS⟩ := hrel
      obtain ⟨la, lc, rfl, _⟩ := HS.out.shape
      have hc := (bcell HL.out.grew).1
      have hltT := HL.out.there.lt
      rcases L with _ | ⟨x, tail⟩
      · simp only [List.length_nil] at *
        go_wp2
        go_ret2
        have hall := HL.out.inv
        have hr := HL.out
        rw [List.append_nil] at hall
        refine ⟨bW, bT, done, rfl, grew_trans g0 hr.grew, ⟨fun y hy => ?_, ?_, fun v hv => ?_, (by have h := hall.sorted; rw [List.pairwise_map] at h; exact h)⟩, by simpa using hr.there, by simpa using hr.table, fun x hx => (hr.words x (by simpa using hx)).mono (fun k o h => h.2)⟩
        · have hw := hall.isWay_done (List.mem_map_of_mem hy)
          refine ⟨hw, ?_⟩
          rw [← hw.leads]
          exact stM_lt hM hM.n1 hw.ok
        · have := hall.nodup
          rw [List.map_map] at this
          exact this
        · obtain ⟨f, hf, hfe, _⟩ := hall.all hv
          obtain ⟨y, hy, rfl⟩ := List.mem_map.1 hf
          rw [← hfe]
          exact List.mem_map_of_mem (f := fun x : WX => x.1.1) hy
      · obtain ⟨L, hLe⟩ : ∃ L, x :: tail = L := ⟨_, rfl⟩
        have hpos : 0 < L.length := by rw [← hLe]; simp
        rename_i hshape
        rw [hLe] at HL HS hshape ⊢
        clear hLe x tail
        have hne0 : (0 : Int) < (L.length : Int) := by omega
        have hLn : L.length ≤ 8 := by
          have h9 := WInv.count hM HL.out.inv
          simp only [List.length_map, List.length_append] at h9; omega
        obtain ⟨g, off, cap, cur, hlv, hbg, hgo, hcap, hcapm, hcells⟩ := HS.out.at hpos
        simp only [Value.slice.injEq] at hlv
        obtain ⟨rfl, _, rfl⟩ := hlv
        clear hcells hgo
        obtain ⟨wo, rfl⟩ : ∃ wo : World, wo = wr := ⟨_, rfl⟩
        go_wp2
        go_loopg [5, 24] L.length (fun gk nv iv wi => ∃ (i : Nat) (nxt : List WX), iv = .int .i64 (i : Int) ∧ i ≤ L.length ∧ Hid (gk = L.length - i) ∧ Hid (RLine M W0 wi bT bW nv.ownBlock (done ++ L.take i) (L.drop i ++ nxt) (fun e _ => e ∈ (done ++ L.take i).map (·.1))) ∧
          Hid (Seg wi W0.heap.size 3 1 nv nxt.length (cellsS nxt)) ∧ Hid (Seg wi W0.heap.size 3 1 (.slice (some ⟨g, off, none⟩) L.length lc) L.length (cellsS L)) ∧ Hid (nv.ownBlock ≠ some g))
        case atStart => exact ⟨0, [], rfl, Nat.zero_le _, hid rfl, hid (by simpa [Value.ownBlock] using HL.out), hid (Seg.nil _ _ _ _), HS, hid (by simp [Value.ownBlock])⟩
        case round =>
          clear HL HS hc hltT
          obtain ⟨i, nxt, rfl, hi, HGK, HL, HN, HS, HSEP⟩ := hrel
          have hc := (bcell HL.out.grew).1
          by_cases hil : i < L.length
          · obtain ⟨wp, rfl⟩ : ∃ wp : World, wp = wr := ⟨_, rfl⟩
            obtain ⟨g', off', cap', cur', hlv, _, _, _, _, hcells⟩ := HS.out.at hpos
            simp only [Value.slice.injEq, Option.some.injEq, Addr.mk.injEq] at hlv
            obtain ⟨⟨rfl, rfl, -⟩, -, -⟩ := hlv
            have ci := hcells i (by omega)
            obtain ⟨⟨⟨xs, xz, xw⟩, xv⟩, hLi⟩ : ∃ x, L[i] = x := ⟨_, rfl⟩
            have hdrop : L.drop i = ((xs, xz, xw), xv) :: L.drop (i + 1) := by rw [List.drop_eq_getElem_cons hil, hLi]
            have hcs : (cellsS L)[i]? = some (.int .i64 (xs : Int)) := by unfold cellsS; rw [List.getElem?_map, List.getElem?_eq_getElem hil, hLi]; rfl
            rw [hcs] at ci
            clear hcells hcs
            have HDROP := hid hdrop
            have HIL := hid hil
            obtain ⟨dn, hdn⟩ : ∃ dn, done ++ L.take i = dn := ⟨_, rfl⟩
            obtain ⟨rest, hrest⟩ : ∃ rest, L.drop (i + 1) = rest := ⟨_, rfl⟩
            have hl1 : RLine M W0 wp bT bW u5.ownBlock dn (((xs, xz, xw), xv) :: (rest ++ nxt)) (Tried (dn.map (·.1)) (xs, xz, xw) 0) := by
              have h := HL.out
              rw [hdn, hdrop, hrest] at h
              refine ⟨h.grew, h.lowT, h.lowW, ?_, h.there, h.table, h.words⟩
              have hv := h.inv
              rw [List.map_append, List.cons_append, List.map_cons] at hv
              rw [List.map_append, List.map_cons]
              exact hv.begin
            have HL1 := hid hl1
            have hway := hl1.inv
            rw [List.map_append, List.map_cons] at hway
            have hw1 := hway.isWay (e := (xs, xz, xw)) (by simp)
            have hlt1 : xs < M.n := by
              have := hw1.leads
              simp only [] at this
              rw [← this]; exact stM_lt hM hM.n1 hw1.ok
            have HDN := hid hdn; have HREST := hid hrest; have HW1 := hid hw1
            clear hdrop hl1 hway hdn hrest hLi hw1
            obtain ⟨b5, off5, c5, r2, r2b, r2c⟩ := T1.out.2 xs hlt1
            have R2C := hid r2c; clear r2c
            go_wp2
            clear ci hc
            go_loopg [5, 30] M.k (fun gk nv ov wi => ∃ (op : Nat) (nxt : List WX), ov = .int .i64 (op : Int) ∧ op ≤ M.k ∧ Hid (gk = M.k - op) ∧ Hid (RLine M W0 wi bT bW nv.ownBlock dn (((xs, xz, xw), xv) :: (rest ++ nxt)) (Tried (dn.map (·.1)) (xs, xz, xw) op)) ∧
              Hid (Seg wi W0.heap.size 3 1 nv nxt.length (cellsS nxt)) ∧ Hid (Seg wi W0.heap.size 3 1 (.slice (some ⟨g, off, none⟩) L.length lc) L.length (cellsS L)) ∧ Hid (nv.ownBlock ≠ some g))
            case atStart => exact ⟨0, nxt, rfl, Nat.zero_le _, hid rfl, HL1, HN, HS, HSEP⟩
            case round =>
              clear HL HL1 HN HS HSEP
              obtain ⟨op, nxt, rfl, hop, HGO, HL, HN, HS, HSEP⟩ := hrel
              have hc := (bcell HL.out.grew).1
              by_cases hopk : op < M.k
              · have r2d := R2C.out op hopk
                have hnx := hM.nx xs hlt1 op hopk
                have ct := HL.out.there.cell hnx
                have hltT := HL.out.there.lt
                by_cases hseen : seenW (dn ++ ((xs, xz, xw), xv) :: (rest ++ nxt)) (M.nx xs op) = true
                · rw [hseen] at ct
                  have HSEEN := hid hseen
                  go_wp2
                  go_roundg (M.k - (op + 1))
                  case measure => have := HGO.out; omega
                  case rel =>
                    refine ⟨op + 1, nxt, by go_num, by omega, hid rfl, hid ?_, HN, HS, HSEP⟩
                    have h := HL.out
                    refine ⟨h.grew, h.lowT, h.lowW, ?_, h.there, h.table, h.words⟩
                    have hv := h.inv
                    rw [List.map_append, List.map_cons] at hv ⊢
                    refine BInv.seen hv hopk rfl ?_
                    obtain ⟨y, hy1, hy2⟩ := List.mem_map.1 (seenW_iff.1 HSEEN.out)
                    have hm : y.1 ∈ dn.map (·.1) ++ (xs, xz, xw) :: (rest ++ nxt).map (·.1) := by
                      have := List.mem_map_of_mem (f := fun z : WX => z.1) hy1
                      simpa using this
                    exact ⟨y.1, hm, hy2, hv.one hm⟩
                · have HSEEN := hid hseen
                  replace hseen : seenW (dn ++ ((xs, xz, xw), xv) :: (rest ++ nxt)) (M.nx xs op) = false := by simpa using hseen
                  rw [hseen] at ct
                  have ft := HL.out.there.frozen (M.nx xs op)
                  have hnod := HL.out.inv.nodup
                  rw [List.map_map] at hnod
                  obtain ⟨va, vc, hv, _, _⟩ := HL.out.words ((xs, xz, xw), xv) (by simp)
                  simp only [] at hv
                  subst hv
                  have cw := HL.out.table.cell hlt1
                  rw [wvOf_mem (x := ((xs, xz, xw), .slice va xw.length vc)) hnod (by simp)] at cw
                  simp only [] at cw
                  obtain ⟨W5, hW5, g5, hz5, hk5⟩ : ∃ W5, wr.setCell ⟨bT, M.nx xs op, none⟩ (.bool true) = W5 ∧ Grew W0 W5 ∧ W5.heap.size = wr.heap.size ∧ Keeps (fun k _ => k = bT) wr W5 :=
                    ⟨_, rfl, HL.out.grew.setCell (by show W0.heap.size ≤ bT; omega) _, by simp, keeps_setAt _ _ _ (fun _ _ => rfl)⟩
                  have cw5 : W5.cell? ⟨bW, xs, none⟩ = some (.slice va xw.length vc) := by
                    rw [← hW5]
                    rw [World.cell?_setCell_other _ _ _ _ (fun h => hne (congrArg Addr.block h))]; exact cw
                  have hltW : bW < W5.heap.size := by rw [hz5]; exact HL.out.table.lt
                  have HZ5 := hid hz5; clear hz5 cw
                  have hw5 : Reads (IntObj 3) W5 (.slice va xw.length vc) xw.length (fun i => .int .i64 ((nthN xw i : Nat) : Int)) := by
                    obtain ⟨cT, hoT, _⟩ := HL.out.there
                    rw [← hW5]
                    exact ((HL.out.words ((xs, xz, xw), .slice va xw.length vc) (by simp)).mono (fun k o h => h.2)).keeps (keeps_setAt (may := fun _ o => ∃ c fr, o = .cells c 4 fr) _ _ _ (fun o ho => by rw [show wr.heap[bT]? = _ from hoT] at ho; cases ho; exact ⟨_, _, rfl⟩)) (fun k o ⟨c, fr, ho⟩ ⟨c', fr', h⟩ => by rw [ho] at h; cases h)
                  have HSRC := hid (src_reads (hw5.grew (grew_alloc (grew_refl W5) (.cells #[] 3))) (fun i => rfl))
                  have HSE := hid (seg_empty W5)
                  have hwl : xw.length < 1000 := by
                    have h1 := BInv.wordlen HL.out.inv (f := (xs, xz, xw)) (by simp)
                    have h2 := WInv.count hM HL.out.inv
                    simp only [] at h1; omega
                  obtain ⟨i0, hi0, hj0, hj1, hj2⟩ := info_parts Try.info3
                  obtain ⟨na, nc, rfl, _⟩ := HN.out.shape
                  have hnl : nxt.length < 1000 := by
                    have h2 := WInv.count hM HL.out.inv
                    simp only [List.length_map, List.length_append, List.length_cons] at h2; omega
                  have hTr : W5.rowIs bT 4 M.n (fun i => if i = M.nx xs op then .bool true else .bool (seenW (dn ++ ((xs, xz, xw), .slice va xw.length vc) :: (rest ++ nxt)) i)) := by
                    rw [← hW5]; exact HL.out.there.set _ _
                  have hWr : W5.rowIs bW 34 M.n (wvOf (dn ++ ((xs, xz, xw), .slice va xw.length vc) :: (rest ++ nxt))) := by
                    rw [← hW5]; exact HL.out.table.setOther (by show bW ≠ bT; omega) _
                  have hk5' : Keeps (Tabs bT bW) wr W5 := by
                    obtain ⟨cT, hoT, _⟩ := HL.out.there
                    rw [← hW5]
                    exact keeps_setAt _ _ _ (fun o ho => by rw [show wr.heap[bT]? = _ from hoT] at ho; cases ho; exact .inl ⟨rfl, _, _, rfl⟩)
                  have HTR := hid hTr; have HWR := hid hWr; have HK5 := hid hk5'
                  clear hTr hWr hk5' hk5 hnod hw5
                  go_wp2_with (first
                    | (at_builtin; refine wpList_append_seg rfl _ _ 34 34 rfl W5.heap.size 3 i0 (.int .i64 0) 1 8 Try.underlying34 hi0 hj0 hj1 hj2 rfl _ 0 [] rfl HSE.out _ rfl xw.length _ HSRC.out (by unfold maxLen; omega) (by omega) ?_ ?_
                       (simp)
                       intro v6 w6 hown6 hgrow6 hblk6
                       rw [Nat.zero_add, List.nil_append] at hown6
                       obtain ⟨a6, c6, rfl, _⟩ := hown6.shape
                       have hg6 : Grew W5 w6 := ((grew_refl W5).alloc (Nat.le_refl _) _).grown hgrow6 (by simp) (fun k e => by cases e; exact Nat.le_refl _)
                       have HG6 := hid hg6; have HOWN6 := hid hown6; clear hown6 hgrow6 hblk6 hg6)
                    | (at_builtin; (
                       refine wpList_append_one rfl _ _ 34 rfl W5.heap.size 3 Try.underlying34 Try.info3 rfl (by decide) _ xw.length _ rfl (HOWN6.out.alloc _) _ _ _ rfl (one_new _ _ _) rfl (by omega) ?_ ?_
                       (have := HG6.out.size; simp only [World.size_alloc]; omega)
                       intro v7 w7 hown7 hgrow7 hblk7
                       obtain ⟨a7, c7, rfl, _⟩ := hown7.shape
                       have hg7 := (HG6.out.alloc HG6.out.size _).grown hgrow7 (HG6.out.alloc HG6.out.size _).size (fun k e => (HOWN6.out.own k e).1)
                       have hW7 := HWR.out.of_block (hg7.block _ HWR.out.lt)
                       have c7' := hW7.cell hnx
                       have f7' := hW7.frozen (M.nx xs op)
                       have z7 := hW7.lt
                       obtain ⟨W8, hW8⟩ : ∃ W8, w7.setCell ⟨bW, M.nx xs op, none⟩ (.slice a7 (xw.length + 1) c7) = W8 := ⟨_, rfl⟩
                       have hk8 : Keeps (Tabs bT bW) w7 W8 := by
                         obtain ⟨cW, hoW, _⟩ := hW7
                         rw [← hW8]
                         exact keeps_setAt _ _ _ (fun o ho => by rw [show w7.heap[bW]? = _ from hoW] at ho; cases ho; exact .inr ⟨rfl, _, _, rfl⟩)
                       have HK8 := hid hk8
                       have HKR := hid ((HK5.out.trans (Grew.keeps (show Grew W5 w7 from hg7))).trans hk8)
                       have HW8 := hid (show W8.rowIs bW 34 M.n _ by rw [← hW8]; exact hW7.set (M.nx xs op) _)
                       have HT8 := hid (show W8.rowIs bT 4 M.n _ by rw [← hW8]; exact (HTR.out.of_block (hg7.block _ HTR.out.lt)).setOther (by show bT ≠ bW; omega) _)
                       have HN8 := hid (HN.out.keeps HKR.out (fun k o _ ⟨cur, ho⟩ hm => by rw [ho] at hm; exact hm.not3))
                       have HG7 := hid hg7; have HOWN7 := hid hown7; clear hown7 hgrow7 hblk7 hg7 hW7 hk8))
                    | (at_builtin; (
                       refine wpList_append_one rfl _ _ 34 rfl W0.heap.size 3 Try.underlying34 Try.info3 rfl (by decide) _ nxt.length _ rfl (HN8.out.alloc _) _ _ _ rfl (one_new _ _ _) rfl (by omega) ?_ ?_
                       (have := HKR.out.size; have := HL.out.grew.size; simp only [World.size_alloc]; omega)
                       intro v9 w9 hown9 hgrow9 hblk9
                       have hk9 : Keeps (fun k _ => (Value.slice na nxt.length nc).ownBlock = some k) W8 w9 := ((Keeps.refl _ W8).alloc _).grown hgrow9 (fun k o e _ => e)
                       have HK9 := hid hk9; have HOWN9 := hid hown9; have HBLK9 := hid hblk9; clear hown9 hgrow9 hblk9 hk9)))
                  go_roundg (M.k - (op + 1))
                  case measure => have := HGO.out; omega
                  case rel =>
                    have hown : ∀ k, (Value.slice na nxt.length nc).ownBlock = some k → W0.heap.size ≤ k ∧ k < wr.heap.size ∧ ∃ cur, wr.heap[k]? = some (.cells cur 3 (0, 0)) := fun k e => HN.out.own k e
                    have hz8 : wr.heap.size ≤ W5.heap.size := HK5.out.size
                    have hz7 : W5.heap.size ≤ w7.heap.size := HG7.out.size
                    have hz87 : w7.heap.size ≤ W8.heap.size := HK8.out.size
                    have hkall : Keeps (fun k o => Tabs bT bW k o ∨ (Value.slice na nxt.length nc).ownBlock = some k) wr w9 := (HKR.out.mono (fun k o h => .inl h)).trans (HK9.out.mono (fun k o h => .inr h))
                    have hblk : v9.ownBlock = (Value.slice na nxt.length nc).ownBlock ∨ ∃ k, v9.ownBlock = some k ∧ w7.heap.size ≤ k := by
                      rcases HBLK9.out with e | e
                      · exact .inl e
                      · exact .inr ⟨_, e, by simp only [World.size_alloc]; omega⟩
                    have hnotT : ∀ k, (Value.slice na nxt.length nc).ownBlock = some k → k ≠ bT ∧ k ≠ bW := fun k e => by
                      obtain ⟨_, _, cur, hcur⟩ := hown k e
                      constructor
                      · rintro rfl
                        obtain ⟨c, hc, _⟩ := HL.out.there
                        rw [hcur] at hc; cases hc
                      · rintro rfl
                        obtain ⟨c, hc, _⟩ := HL.out.table
                        rw [hcur] at hc; cases hc
                    have hpush := RLine.push (v7 := .slice a7 (xw.length + 1) c7) (nb' := v9.ownBlock) (w9 := w9) HL.out hopk (fun hm => HSEEN.out (seenW_iff.2 hm)) hkall (fun k e => (hown k e).1)
                      (rowIs_keeps HT8.out HK9.out (fun c e => (hnotT _ e).1 rfl)) (rowIs_keeps HW8.out HK9.out (fun c e => (hnotT _ e).2 rfl)) ?_
                      (by rcases hblk with e | ⟨k, e, hk⟩
                          · exact .inl e
                          · exact .inr ⟨k, e, by omega⟩)
                    · refine ⟨op + 1, nxt ++ [((M.nx xs op, 0, xw ++ [op]), .slice a7 (xw.length + 1) c7)], by go_num, by omega, hid rfl, hid (by simpa using hpush), hid (by simpa [cellsS] using HOWN9.out), hid (HS.out.keeps hkall (fun k o hv ⟨cur, ho⟩ hm => ?_)), hid ?_⟩
                      · rcases hm with hm | hm
                        · rw [ho] at hm; exact hm.not3
                        · have hgk : g = k := by simpa [Value.ownBlock] using hv
                          subst hgk
                          exact HSEP.out hm
                      · rcases hblk with e | ⟨k, e, hk⟩
                        · rw [e]; exact HSEP.out
                        · rw [e]
                          intro he
                          cases he
                          have := (HS.out.own g (by simp [Value.ownBlock])).2.1
                          omega
                    · have hr := HOWN7.out.reads (fun i => .int .i64 ((nthN (xw ++ [op]) i : Nat) : Int)) (fun i hi => by
                        rw [nthN_snoc hi]
                        by_cases e : i < xw.length
                        · rw [if_pos e, List.getElem?_append_left (by simpa using e)]
                          simp [e]
                        · have : i = xw.length := by omega
                          subst this
                          rw [if_neg e, List.getElem?_append_right (by simp)]
                          simp)
                      have hr2 : Reads (fun k o => (v9.ownBlock ≠ some k ∧ W5.heap.size ≤ k) ∧ ∃ cur, o = .cells cur 3 (0, 0)) w7 (.slice a7 (xw.length + 1) c7) (xw.length + 1) (fun i => .int .i64 ((nthN (xw ++ [op]) i : Nat) : Int)) := hr.monoAt (fun k o ho hs => ⟨⟨fun e => ?_, hs.1⟩, hs.2⟩)
                      · rw [List.length_append, List.length_singleton]
                        refine ((hr2.keeps HK8.out (fun k o hs hm => ?_)).keeps HK9.out (fun k o hs hm => ?_)).mono (fun k o hs => ⟨hs.1.1, ?_⟩)
                        · obtain ⟨cur, ho⟩ := hs.2; rw [ho] at hm; exact hm.not3
                        · have := (hown k hm).2.1; have := hs.1.2; omega
                        · obtain ⟨cur, ho⟩ := hs.2; exact ⟨cur, _, ho⟩
                      · have hk7 := lt_of_obj ho
                        rcases hblk with e2 | ⟨k', e2, hk'⟩
                        · rw [e2] at e; have := (hown k e).2.1; have := hs.1; omega
                        · rw [e2] at e; cases e; omega
              · obtain rfl : op = M.k := by omega
                go_wp2
                go_roundg (L.length - (i + 1))
                case measure => have := HGK.out; omega
                case rel =>
                  have htk : done ++ L.take (i + 1) = dn ++ [((xs, xz, xw), xv)] := by
                    have hg : L[i]? = some ((xs, xz, xw), xv) := by
                      have h2 := congrArg (fun l : List WX => l[0]?) HDROP.out
                      simpa using h2
                    rw [← HDN.out, List.take_add_one, hg, List.append_assoc]
                    rfl
                  refine ⟨i + 1, nxt, by go_num, by have := HIL.out; omega, hid rfl, hid ?_, HN, HS, HSEP⟩
                  rw [htk, HREST.out]
                  have h := HL.out
                  have he : (dn ++ [((xs, xz, xw), xv)]) ++ (rest ++ nxt) = dn ++ ((xs, xz, xw), xv) :: (rest ++ nxt) := by simp
                  refine ⟨h.grew, h.lowT, h.lowW, ?_, by rw [he]; exact h.there, by rw [he]; exact h.table, by rw [he]; exact h.words⟩
                  have hv := h.inv
                  rw [List.map_append, List.map_cons] at hv
                  have h3 := BInv.next hv
                  simpa using h3
          · obtain rfl : i = L.length := by omega
            obtain ⟨na, nc, rfl, _⟩ := HN.out.shape
            go_wp2
            have hcnt := WInv.count hM HL.out.inv
            rw [List.take_length, List.drop_length, List.nil_append] at hcnt
            simp only [List.length_map, List.length_append] at hcnt
            go_roundg (65 - (done ++ L).length)
            case measure => have := HG.out; rw [List.length_append]; omega
            case rel =>
              refine ⟨done ++ L, nxt, hid rfl, hid ?_, HN⟩
              have h := HL.out
              rw [List.take_length, List.drop_length, List.nil_append] at h
              exact ⟨h.grew, h.lowT, h.lowW, h.inv, h.there, h.table, fun x hx => (h.words x hx).mono (fun k o ho => ⟨by simp, ho.2⟩)⟩
end Go.Proofs.Ytnebpcpihldllaa
