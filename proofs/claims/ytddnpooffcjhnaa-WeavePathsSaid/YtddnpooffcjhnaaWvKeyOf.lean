/- Walk: keyOf; words as keys of a map. -/
import Derived.Test.YtddnpooffcjhnaaWvFirstP
namespace Go.Lin.Wv
open Go Go.RowKit

def keyCells (xs : List Int) : List Value := xs.map (fun a => .int .i64 (a + 1)) ++ List.replicate (10 - xs.length) (.int .i64 0)
def keyV (xs : List Int) : Value := .agg (keyCells xs).toArray

theorem keyCells_length {xs : List Int} (h : xs.length ≤ 10) : (keyCells xs).length = 10 := by
  unfold keyCells; simp; omega

theorem keyCells_succ {xs : List Int} {j : Nat} (hj : j < xs.length) (h : xs.length ≤ 10) : (keyCells (xs.take j)).set j (.int .i64 (nth xs j + 1)) = keyCells (xs.take (j + 1)) := by
  obtain ⟨ys, hys⟩ : ∃ ys, xs.take j = ys := ⟨_, rfl⟩
  have hl : ys.length = j := by rw [← hys, List.length_take]; omega
  unfold keyCells
  rw [take_succ_nth hj, hys, List.map_append, List.length_append, hl, List.length_singleton, List.set_append_right _ _ (by simp; omega), List.append_assoc, List.length_map, hl, Nat.sub_self]
  rw [show 10 - j = (10 - (j + 1)) + 1 by omega, List.replicate_succ]
  rfl

theorem keyCells_inj {xs ys : List Int} (hx : ∀ z ∈ xs, 0 ≤ z) (hy : ∀ z ∈ ys, 0 ≤ z) (h : keyCells xs = keyCells ys) : xs = ys := by
  have key : ∀ (xs ys : List Int), (∀ z ∈ xs, 0 ≤ z) → (∀ z ∈ ys, 0 ≤ z) → ∀ m n, xs.map (fun a => Value.int .i64 (a + 1)) ++ List.replicate m (.int .i64 0) = ys.map (fun a => Value.int .i64 (a + 1)) ++ List.replicate n (.int .i64 0) → xs = ys := by
    intro xs
    induction xs with
    | nil =>
      intro ys hx hy m n h
      cases ys with
      | nil => rfl
      | cons y ys =>
        cases m with
        | zero => simp at h
        | succ m =>
          simp [List.replicate_succ] at h
          have := hy y (by simp)
          omega
    | cons x xs ih =>
      intro ys hx hy m n h
      cases ys with
      | nil =>
        cases n with
        | zero => simp at h
        | succ n =>
          simp [List.replicate_succ] at h
          have := hx x (by simp)
          omega
      | cons y ys =>
        simp only [List.map_cons, List.cons_append, List.cons.injEq, Value.int.injEq, true_and] at h
        rw [show x = y by omega, ih ys (fun z hz => hx z (by simp [hz])) (fun z hz => hy z (by simp [hz])) m n h.2]
  exact key xs ys hx hy _ _ h

theorem ten_of {l : List Int} (h : l.length = 10) : ∃ a0 a1 a2 a3 a4 a5 a6 a7 a8 a9, l = [a0, a1, a2, a3, a4, a5, a6, a7, a8, a9] := by
  rcases l with _ | ⟨a0, _ | ⟨a1, _ | ⟨a2, _ | ⟨a3, _ | ⟨a4, _ | ⟨a5, _ | ⟨a6, _ | ⟨a7, _ | ⟨a8, _ | ⟨a9, _ | ⟨b, l⟩⟩⟩⟩⟩⟩⟩⟩⟩⟩⟩ <;> simp at h
  exact ⟨a0, a1, a2, a3, a4, a5, a6, a7, a8, a9, rfl⟩

theorem keyCells_ints {xs : List Int} (h : xs.length ≤ 10) : ∃ a0 a1 a2 a3 a4 a5 a6 a7 a8 a9 : Int, keyCells xs = [.int .i64 a0, .int .i64 a1, .int .i64 a2, .int .i64 a3, .int .i64 a4, .int .i64 a5, .int .i64 a6, .int .i64 a7, .int .i64 a8, .int .i64 a9] ∧
    ∀ a ∈ [a0, a1, a2, a3, a4, a5, a6, a7, a8, a9], a = 0 ∨ ∃ z ∈ xs, a = z + 1 := by
  have hk : keyCells xs = (xs.map (· + 1) ++ List.replicate (10 - xs.length) 0).map (Value.int .i64) := by
    unfold keyCells; simp [List.map_replicate, Function.comp_def]
  obtain ⟨a0, a1, a2, a3, a4, a5, a6, a7, a8, a9, hl⟩ := ten_of (l := xs.map (· + 1) ++ List.replicate (10 - xs.length) 0) (by simp; omega)
  refine ⟨a0, a1, a2, a3, a4, a5, a6, a7, a8, a9, by rw [hk, hl]; rfl, fun a ha => ?_⟩
  rw [← hl] at ha
  rcases List.mem_append.1 ha with ha | ha
  · obtain ⟨z, hz, rfl⟩ := List.mem_map.1 ha
    exact .inr ⟨z, hz, rfl⟩
  · exact .inl (List.eq_of_mem_replicate ha)

end Go.Lin.Wv
namespace Go.Proofs.Ytddnpooffcjhnaa
open Go Go.RowKit Go.Lin Go.Lin.Wv Go.Maps

theorem results_key {t : Tmp} {fn : Func} {tmps : Array Value} {p : Nat} {W : World} {a0 a1 a2 a3 a4 a5 a6 a7 a8 a9 : Int} (h : fn.results = #[.cell t 98]) (h1 : tmps[t]?.getD undef = .pointer (some ⟨p, 0, none⟩))
    (hc : W.heap[p]? = some (.cells #[.int .i64 a0, .int .i64 a1, .int .i64 a2, .int .i64 a3, .int .i64 a4, .int .i64 a5, .int .i64 a6, .int .i64 a7, .int .i64 a8, .int .i64 a9] 98 (0, 0))) : (results fn tmps).run Try.prog W = .ok (.agg #[.int .i64 a0, .int .i64 a1, .int .i64 a2, .int .i64 a3, .int .i64 a4, .int .i64 a5, .int .i64 a6, .int .i64 a7, .int .i64 a8, .int .i64 a9]) W := by
  have c : ∀ i, W.cell? ⟨p, i, none⟩ = (#[.int .i64 a0, .int .i64 a1, .int .i64 a2, .int .i64 a3, .int .i64 a4, .int .i64 a5, .int .i64 a6, .int .i64 a7, .int .i64 a8, .int .i64 a9] : Array Value)[i]? := fun i => cell_of_row _ _ _ _ _ _ hc
  simp [results, h, h1, go_sem, c, Try.isAgg98]

set_option maxHeartbeats 4000000 in
set_option maxRecDepth 20000 in
theorem keyOf_any (wv : Value) (xs : List Int) (w : World) (hlen : xs.length ≤ 10) (hw : ∀ z ∈ xs, 0 ≤ z ∧ z < 6) (hx : IsInts Any w wv xs) :
    Calls Try.prog 103 #[wv] w fun e w' => e = .returned (keyV xs) ∧ Grew w w' := by
  obtain ⟨va, vc, rfl, hm, hc⟩ := hx
  obtain ⟨m, hmm⟩ : ∃ m, xs.length = m := ⟨_, rfl⟩
  rw [hmm] at hm hc hlen ⊢
  have HM := hid hmm; have HC := hid hc; have HW := hid hw
  obtain ⟨W0, hW0⟩ : ∃ W0, w.alloc (.cells #[.int .i64 0, .int .i64 0, .int .i64 0, .int .i64 0, .int .i64 0, .int .i64 0, .int .i64 0, .int .i64 0, .int .i64 0, .int .i64 0] 98) = W0 := ⟨_, rfl⟩
  obtain ⟨W1, hW1⟩ : ∃ W1, W0.alloc (.cells #[.int .i64 0, .int .i64 0, .int .i64 0, .int .i64 0, .int .i64 0, .int .i64 0, .int .i64 0, .int .i64 0, .int .i64 0, .int .i64 0] 98) = W1 := ⟨_, rfl⟩
  have g0 : Grew w W0 := by rw [← hW0]; exact grew_alloc (grew_refl _) _
  have g1 : Grew W0 W1 := by rw [← hW1]; exact grew_alloc (grew_refl _) _
  have o0 : W0.heap[w.heap.size]? = some (.cells #[.int .i64 0, .int .i64 0, .int .i64 0, .int .i64 0, .int .i64 0, .int .i64 0, .int .i64 0, .int .i64 0, .int .i64 0, .int .i64 0] 98 (0, 0)) := by rw [← hW0]; exact heap_alloc_new w _
  have o1 : W1.heap[W0.heap.size]? = some (.cells #[.int .i64 0, .int .i64 0, .int .i64 0, .int .i64 0, .int .i64 0, .int .i64 0, .int .i64 0, .int .i64 0, .int .i64 0, .int .i64 0] 98 (0, 0)) := by rw [← hW1]; exact heap_alloc_new W0 _
  have hz0 := lt_of_obj o0
  have O0 := hid ((g1.block _ hz0).trans o0); have O1 := hid o1
  have G01 := hid (grew_trans g0 g1)
  have hs0 := g0.size
  clear hmm hc hw o0 o1
  go_enter Try.func103, Try.ntmps103
  go_wp2
  go_loopg [4, 5, 8] m (fun k _ _ i wr => ∃ j : Nat, j ≤ m ∧ i = .int .i64 j ∧ k = m - j ∧ Hid (wr.heap[W0.heap.size]? = some (.cells (keyCells (xs.take j)).toArray 98 (0, 0))) ∧ Hid (Keeps (fun k _ => k = W0.heap.size) W1 wr))
  case atStart => exact ⟨0, by omega, rfl, rfl, O1, hid (Keeps.refl _ _)⟩
  case round =>
    obtain ⟨j, hj, rfl, hk, HO, HG⟩ := hrel
    have HK := hid hk; clear hk
    rename World => wr
    by_cases hlt : j < m
    · obtain ⟨b, off, o, hva, hob, -, hcc⟩ := HC.out j hlt
      subst hva
      have hbl := lt_of_obj hob
      have hob2 := HG.out.obj _ _ ((G01.out.block _ hbl).trans hob) (by omega)
      have hcw := cell_of_obj hob hob2 hcc
      have hbw := lt_of_obj hob2
      have hjx : j < xs.length := by rw [HM.out]; exact hlt
      obtain ⟨h0, h6⟩ := HW.out (nth xs j) (by rw [nth_lt hjx]; exact List.getElem_mem _)
      have hset := keyCells_succ hjx (by rw [HM.out]; exact hlen)
      obtain ⟨y, hy⟩ : ∃ y, nth xs j = y := ⟨_, rfl⟩
      rw [hy] at hset h0 h6
      replace hcw : wr.cell? ⟨b, off + j, none⟩ = some (Value.int .i64 (nth xs j)) := hcw
      rw [hy] at hcw
      have hwr : IntKind.i64.wrap (y + 1) = y + 1 := IntWalk.i64_in _ (by omega)
      have hkl := keyCells_length (xs := xs.take j) (by rw [List.length_take]; omega)
      have hcj : wr.cell? ⟨W0.heap.size, j, none⟩ = some ((keyCells (xs.take j))[j]'(by omega)) := by
        rw [cell_of_row _ _ _ _ _ _ HO.out]; simp
      have hfj := frozen_obj HO.out j
      have hj0 : (0 : Int) ≤ (j : Int) := by omega
      have hj10 : (j : Int) < 10 := by omega
      have hzl := lt_of_obj HO.out
      have HSET := hid hset
      clear hob hob2 hcc hy hset h0 h6
      go_wp2
      go_roundg (m - (j + 1))
      case measure => have := HK.out; omega
      case rel =>
        refine ⟨j + 1, by omega, by go_num, rfl, hid ?_, hid (HG.out.trans ?_)⟩
        · rw [heap_setCell_same _ _ _ _ _ _ HO.out, List.setIfInBounds_toArray, HSET.out]
        · exact ⟨rfl, rfl, rfl, by simp, fun k o h hn => by rw [heap_setCell_other _ _ _ _ hn]; exact h⟩
    · obtain rfl : m = j := by omega
      have ho := HO.out
      rw [List.take_of_length_le (by rw [HM.out]; exact Nat.le_refl _)] at ho
      obtain ⟨a0, a1, a2, a3, a4, a5, a6, a7, a8, a9, hl, -⟩ := keyCells_ints (xs := xs) (by rw [HM.out]; exact hlen)
      have HV := hid (show keyV xs = .agg #[.int .i64 a0, .int .i64 a1, .int .i64 a2, .int .i64 a3, .int .i64 a4, .int .i64 a5, .int .i64 a6, .int .i64 a7, .int .i64 a8, .int .i64 a9] by unfold keyV; rw [hl])
      rw [hl] at ho
      have c : ∀ i, wr.cell? ⟨W0.heap.size, i, none⟩ = (#[.int .i64 a0, .int .i64 a1, .int .i64 a2, .int .i64 a3, .int .i64 a4, .int .i64 a5, .int .i64 a6, .int .i64 a7, .int .i64 a8, .int .i64 a9] : Array Value)[i]? := fun i => cell_of_row _ _ _ _ _ _ ho
      have d0 := c 0; have d1 := c 1; have d2 := c 2; have d3 := c 3; have d4 := c 4; have d5 := c 5; have d6 := c 6; have d7 := c 7; have d8 := c 8; have d9 := c 9
      simp only [List.getElem?_toArray, List.getElem?_cons_zero, List.getElem?_cons_succ] at d0 d1 d2 d3 d4 d5 d6 d7 d8 d9
      have ho2 := HG.out.obj _ _ O0.out (by omega)
      have HO2 := hid ho2
      have e : ∀ i, wr.cell? ⟨w.heap.size, i, none⟩ = _ := fun i => cell_of_row _ _ _ _ _ _ ho2
      have e0 := e 0; have e1 := e 1; have e2 := e 2; have e3 := e 3; have e4 := e 4; have e5 := e 5; have e6 := e 6; have e7 := e 7; have e8 := e 8; have e9 := e 9
      simp only [List.getElem?_toArray, List.getElem?_cons_zero, List.getElem?_cons_succ] at e0 e1 e2 e3 e4 e5 e6 e7 e8 e9
      have fz : ∀ i, wr.frozen? ⟨w.heap.size, i, none⟩ = false := fun i => frozen_obj ho2 i
      clear c e ho ho2 hl HO
      go_wp2
      have hset : ∀ (W : World) (c : Array Value) (i : Nat) (v : Value), W.heap[w.heap.size]? = some (.cells c 98 (0, 0)) → (W.setCell ⟨w.heap.size, i, none⟩ v).heap[w.heap.size]? = some (.cells (c.setIfInBounds i v) 98 (0, 0)) := fun W c i v h => heap_setCell_same _ _ _ _ _ _ h
      have q0 := hset _ _ 0 (.int .i64 a0) HO2.out
      have q1 := hset _ _ 1 (.int .i64 a1) q0
      have q2 := hset _ _ 2 (.int .i64 a2) q1
      have q3 := hset _ _ 3 (.int .i64 a3) q2
      have q4 := hset _ _ 4 (.int .i64 a4) q3
      have q5 := hset _ _ 5 (.int .i64 a5) q4
      have q6 := hset _ _ 6 (.int .i64 a6) q5
      have q7 := hset _ _ 7 (.int .i64 a7) q6
      have q8 := hset _ _ 8 (.int .i64 a8) q7
      have q9 := hset _ _ 9 (.int .i64 a9) q8
      simp only [List.setIfInBounds_toArray, List.set_cons_zero, List.set_cons_succ] at q9
      have Q9 := hid q9
      clear q0 q1 q2 q3 q4 q5 q6 q7 q8 q9
      refine ⟨rfl, _, results_key rfl rfl Q9.out, by rw [HV.out], ?_⟩
      have hs : ∀ (W : World) (i : Nat) (v : Value), Keeps (fun k _ => k = W0.heap.size ∨ k = w.heap.size) W (W.setCell ⟨w.heap.size, i, none⟩ v) := fun W i v => ⟨rfl, rfl, rfl, by simp, fun k o h hn => by rw [heap_setCell_other _ _ _ _ (fun e => hn (.inr e))]; exact h⟩
      have hk := (HG.out.mono (may' := fun k _ => k = W0.heap.size ∨ k = w.heap.size) (fun k o e => .inl e)).trans ((((((((((hs _ 0 (.int .i64 a0)).trans (hs _ 1 (.int .i64 a1))).trans (hs _ 2 (.int .i64 a2))).trans (hs _ 3 (.int .i64 a3))).trans (hs _ 4 (.int .i64 a4))).trans (hs _ 5 (.int .i64 a5))).trans (hs _ 6 (.int .i64 a6))).trans (hs _ 7 (.int .i64 a7))).trans (hs _ 8 (.int .i64 a8))).trans (hs _ 9 (.int .i64 a9)))
      exact G01.out.trans (hk.below G01.out.size (fun k o e => by omega))

end Go.Proofs.Ytddnpooffcjhnaa
