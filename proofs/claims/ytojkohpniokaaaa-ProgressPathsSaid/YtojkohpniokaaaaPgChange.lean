/- Walks: changed (76), the functions of Without, Renamed, Only (79, 77, 78); graphs that are built. -/
import Derived.Test.YtojkohpniokaaaaPgTop
import Derived.Test.YtojkohpniokaaaaPgLawP
import Derived.Deep.RegionLaw
namespace Go.Lin.Pg
open Go Go.RowKit Go.Lin

/-- The cells of moves. -/
def cellsM (ms : List Mv) : List Value := ms.flatMap fun m => [.int .i64 m.1, .int .i64 m.2.1, .int .i64 m.2.2.1, .bool m.2.2.2]

theorem cellsM_get : ∀ {ms : List Mv} {i : Nat} {m : Mv}, ms[i]? = some m → (cellsM ms)[i * 4]? = some (.int .i64 m.1) ∧ (cellsM ms)[i * 4 + 1]? = some (.int .i64 m.2.1) ∧ (cellsM ms)[i * 4 + 2]? = some (.int .i64 m.2.2.1) ∧ (cellsM ms)[i * 4 + 3]? = some (.bool m.2.2.2)
  | [], i, m, h => by simp at h
  | x :: ms, 0, m, h => by
    simp at h
    subst h
    exact ⟨rfl, rfl, rfl, rfl⟩
  | x :: ms, i + 1, m, h => by
    have ih := cellsM_get (ms := ms) (i := i) (m := m) (by simpa using h)
    have e : cellsM (x :: ms) = [.int .i64 x.1, .int .i64 x.2.1, .int .i64 x.2.2.1, .bool x.2.2.2] ++ cellsM ms := rfl
    rw [e]
    refine ⟨?_, ?_, ?_, ?_⟩
    · rw [List.getElem?_append_right (by simp; omega)]
      simp only [List.length_cons, List.length_nil]
      rw [show (i + 1) * 4 - (0 + 1 + 1 + 1 + 1) = i * 4 by omega]; exact ih.1
    · rw [List.getElem?_append_right (by simp; omega)]
      simp only [List.length_cons, List.length_nil]
      rw [show (i + 1) * 4 + 1 - (0 + 1 + 1 + 1 + 1) = i * 4 + 1 by omega]; exact ih.2.1
    · rw [List.getElem?_append_right (by simp; omega)]
      simp only [List.length_cons, List.length_nil]
      rw [show (i + 1) * 4 + 2 - (0 + 1 + 1 + 1 + 1) = i * 4 + 2 by omega]; exact ih.2.2.1
    · rw [List.getElem?_append_right (by simp; omega)]
      simp only [List.length_cons, List.length_nil]
      rw [show (i + 1) * 4 + 3 - (0 + 1 + 1 + 1 + 1) = i * 4 + 3 by omega]; exact ih.2.2.2

theorem cellsM_append (a b : List Mv) : cellsM (a ++ b) = cellsM a ++ cellsM b := by simp [cellsM]

theorem mvs_of_seg {w : World} {base n : Nat} {v : Value} {ms : List Mv} (h : Seg w base 50 4 v n (cellsM ms)) (hn : ms.length = n) : IsMvs w v ms := by
  subst hn
  rcases ms with _ | ⟨x, ms⟩
  · rcases h.2 with ⟨rfl, _⟩ | ⟨g, off, cap, cur, rfl, _, _, h1, h2, _, _⟩
    · exact ⟨none, 0, rfl, by simp, fun i m h => by simp at h⟩
    · exact ⟨_, cap, rfl, ⟨by simp, by simp⟩, fun i m h => by simp at h⟩
  · obtain ⟨g, off, cap, cur, rfl, hb, hg, h1, h2, hc⟩ := h.at (by simp)
    refine ⟨_, cap, rfl, ⟨by unfold maxLen at h2; omega, h1⟩, fun i m hi => ?_⟩
    obtain ⟨c0, c1, c2, c3⟩ := cellsM_get hi
    have hlt := (List.getElem?_eq_some_iff.1 hi).1
    exact ⟨g, off, rfl, lt_of_obj hg, (hc (i * 4) (by omega)).trans c0, by rw [Nat.add_assoc]; exact (hc (i * 4 + 1) (by omega)).trans c1, by rw [Nat.add_assoc]; exact (hc (i * 4 + 2) (by omega)).trans c2, by rw [Nat.add_assoc]; exact (hc (i * 4 + 3) (by omega)).trans c3⟩

/-- A graph whose moves are told one by one. -/
def tellAt (tell : Nat → Mv → Mv × Bool) (ms : List Mv) (i : Nat) : List Mv := match ms[i]? with | some m => if (tell i m).2 then [(tell i m).1] else [] | none => []
def chgM (tell : Nat → Mv → Mv × Bool) (ms : List Mv) : Nat → List Mv
  | 0 => []
  | j + 1 => chgM tell ms j ++ tellAt tell ms j

theorem chgM_len (tell : Nat → Mv → Mv × Bool) (ms : List Mv) : ∀ j, (chgM tell ms j).length ≤ j
  | 0 => Nat.le_refl _
  | j + 1 => by
    have := chgM_len tell ms j
    have h2 : (tellAt tell ms j).length ≤ 1 := by
      unfold tellAt
      split
      · split <;> simp
      · simp
    simp only [chgM, List.length_append]
    omega

theorem tellAt_some {tell : Nat → Mv → Mv × Bool} {ms : List Mv} {i : Nat} {m : Mv} (h : ms[i]? = some m) : tellAt tell ms i = if (tell i m).2 then [(tell i m).1] else [] := by
  unfold tellAt; rw [h]

theorem setCell_row2 {w : World} {B : Nat} {x y : Value} {t : TypeId} (h : w.heap[B]? = some (.cells #[x, y] t (0, 0))) (u : Value) : (w.setCell ⟨B, 1, none⟩ u).heap[B]? = some (.cells #[x, u] t (0, 0)) := by
  simp [World.setCell, Array.getElem?_modify, h]

end Go.Lin.Pg
namespace Go.Proofs.Ytojkohpniokaaaa
open Go Go.RowKit Go.Lin Go.Lin.Pg
attribute [local go_sem] run_store_func run_store_nilFunc

/-- A move, stored into its cells. -/
theorem mv_stores {W : World} {p : Nat} {x0 x1 x2 x3 : Value} {t : TypeId} (h : W.heap[p]? = some (.cells #[x0, x1, x2, x3] t (0, 0))) (u0 u1 u2 u3 : Value) :
    ((((W.setCell ⟨p, 0, none⟩ u0).setCell ⟨p, 1, none⟩ u1).setCell ⟨p, 2, none⟩ u2).setCell ⟨p, 3, none⟩ u3).heap[p]? = some (.cells #[u0, u1, u2, u3] t (0, 0)) ∧
      Keeps (fun k _ => k = p) W ((((W.setCell ⟨p, 0, none⟩ u0).setCell ⟨p, 1, none⟩ u1).setCell ⟨p, 2, none⟩ u2).setCell ⟨p, 3, none⟩ u3) := by
  refine ⟨?_, ((keeps_setB W p 0 u0).trans (keeps_setB _ p 1 u1)).trans ((keeps_setB _ p 2 u2).trans (keeps_setB _ p 3 u3))⟩
  simp [World.setCell, Array.getElem?_modify, h]
theorem mv_drew {F : World} {p : Nat} {t : TypeId} {u0 u1 u2 u3 : Value} (h : F.heap[p]? = some (.cells #[u0, u1, u2, u3] t (0, 0))) : F.drew.cell? ⟨p, 0, none⟩ = some u0 ∧ F.drew.cell? ⟨p, 1, none⟩ = some u1 ∧ F.drew.cell? ⟨p, 2, none⟩ = some u2 ∧ F.drew.cell? ⟨p, 3, none⟩ = some u3 :=
  have h' : F.drew.heap[p]? = some (.cells #[u0, u1, u2, u3] t (0, 0)) := h
  ⟨cell_of_row _ _ _ _ _ _ h', cell_of_row _ _ _ _ _ _ h', cell_of_row _ _ _ _ _ _ h', cell_of_row _ _ _ _ _ _ h'⟩
theorem gr_stores {W : World} {p : Nat} {x0 x1 : Value} {t : TypeId} (h : W.heap[p]? = some (.cells #[x0, x1] t (0, 0))) (u0 u1 : Value) :
    ((W.setCell ⟨p, 0, none⟩ u0).setCell ⟨p, 1, none⟩ u1).heap[p]? = some (.cells #[u0, u1] t (0, 0)) ∧ Keeps (fun k _ => k = p) W ((W.setCell ⟨p, 0, none⟩ u0).setCell ⟨p, 1, none⟩ u1) := by
  refine ⟨?_, (keeps_setB W p 0 u0).trans (keeps_setB _ p 1 u1)⟩
  simp [World.setCell, Array.getElem?_modify, h]

theorem up_drew {x W : World} {B : Nat} (h : ∀ b o, b < B → x.cell? ⟨b, o, none⟩ = W.cell? ⟨b, o, none⟩) : ∀ b o, b < B → x.drew.cell? ⟨b, o, none⟩ = W.cell? ⟨b, o, none⟩ := h
theorem up_drewN {x W : World} {B n : Nat} (h : ∀ b o, b < B → x.cell? ⟨b, o, none⟩ = W.cell? ⟨b, o, none⟩) : ∀ b o, b < B → (x.drewN n).cell? ⟨b, o, none⟩ = W.cell? ⟨b, o, none⟩ := h
theorem up_set {x W : World} {B i : Nat} {u : Value} (h : ∀ b o, b < B → x.cell? ⟨b, o, none⟩ = W.cell? ⟨b, o, none⟩) : ∀ b o, b < B → (x.setCell ⟨B, i, none⟩ u).cell? ⟨b, o, none⟩ = W.cell? ⟨b, o, none⟩ :=
  fun b o hb => by rw [World.cell?_setCell_other _ _ _ _ (fun e => by simp at e)]; exact h b o hb
theorem up_self (W : World) (B : Nat) : ∀ b o, b < B → W.cell? ⟨b, o, none⟩ = W.cell? ⟨b, o, none⟩ := fun _ _ _ => rfl

theorem results_gr {t1 : Tmp} {fn : Func} {tmps : Array Value} {p : Nat} {W : World} {v0 v1 : Value} (h : fn.results = #[.cell t1 24]) (h1 : tmps[t1]?.getD undef = .pointer (some ⟨p, 0, none⟩))
    (c0 : W.cell? ⟨p, 0, none⟩ = some v0) (c1 : W.cell? ⟨p, 1, none⟩ = some v1) : (results fn tmps).run Try.prog W = .ok (.agg #[v0, v1]) W := by
  simp [results, h, h1, go_sem, c0, c1, Try.isAgg24]

theorem results_gr2 {t1 t2 : Tmp} {fn : Func} {tmps : Array Value} {p : Nat} {W : World} {v0 v1 u : Value} (h : fn.results = #[.cell t1 24, .tmp t2]) (h1 : tmps[t1]?.getD undef = .pointer (some ⟨p, 0, none⟩)) (h2 : tmps[t2]?.getD undef = u)
    (c0 : W.cell? ⟨p, 0, none⟩ = some v0) (c1 : W.cell? ⟨p, 1, none⟩ = some v1) : (results fn tmps).run Try.prog W = .ok (.tuple #[.agg #[v0, v1], u]) W := by
  simp [results, h, h1, h2, go_sem, c0, c1, Try.isAgg24]

theorem results_mv2 {t1 t2 : Tmp} {fn : Func} {tmps : Array Value} {p : Nat} {W : World} {v0 v1 v2 v3 u : Value} (h : fn.results = #[.cell t1 50, .tmp t2]) (h1 : tmps[t1]?.getD undef = .pointer (some ⟨p, 0, none⟩)) (h2 : tmps[t2]?.getD undef = u)
    (c0 : W.cell? ⟨p, 0, none⟩ = some v0) (c1 : W.cell? ⟨p, 1, none⟩ = some v1) (c2 : W.cell? ⟨p, 2, none⟩ = some v2) (c3 : W.cell? ⟨p, 3, none⟩ = some v3) : (results fn tmps).run Try.prog W = .ok (.tuple #[.agg #[v0, v1, v2, v3], u]) W := by
  simp [results, h, h1, h2, go_sem, c0, c1, c2, c3, Try.isAgg50]

theorem Try.info50 : (Try.prog.info? 50).map (fun i => (i.zero, i.size, i.bytes)) = some (some (.agg #[.int .i64 0, .int .i64 0, .int .i64 0, .bool false]), 4, 32) := by kernel_rfl

set_option maxHeartbeats 2000000 in
theorem tell79_any (i mv : Int) (m : Mv) (Bi : Nat) (w : World) (hB : w.cell? ⟨Bi, 0, none⟩ = some (.int .i64 mv)) : Calls Try.prog 79 #[.int .i64 i, encM m, .pointer (some ⟨Bi, 0, none⟩)] w fun e w' => e = .returned (.tuple #[encM m, .bool (i != mv)]) ∧ Grew w w' := by
  have hz := World.block_lt_of_cell? w _ hB
  simp only at hz
  obtain ⟨W1, hW1, g1, hb1⟩ := box4v w m
  obtain ⟨W2, hW2⟩ : ∃ W2, W1.alloc (.cells #[.int .i64 0, .int .i64 0, .int .i64 0, .bool false] 50) = W2 := ⟨_, rfl⟩
  have g2 : Grew W1 W2 := by rw [← hW2]; exact grew_alloc (grew_refl _) _
  have o2 : W2.heap[W1.heap.size]? = some (.cells #[.int .i64 0, .int .i64 0, .int .i64 0, .bool false] 50 (0, 0)) := by rw [← hW2]; exact heap_alloc_new W1 _
  have hb2 := hb1.grew hb1.lt g2
  have l0 := hb2.c0
  have l1 := hb2.c1
  have l2 := hb2.c2
  have l3 := hb2.c3
  have hlt := hb2.lt
  have hlt1 := hb1.lt
  have hB1 := ((grew_trans g1 g2).cell (p := ⟨Bi, 0, none⟩) hz).trans hB
  have hz1 := Nat.lt_of_lt_of_le hz (grew_trans g1 g2).size
  have hzB := Nat.lt_of_lt_of_le hz g1.size
  have hne : w.heap.size ≠ W1.heap.size := by omega
  have hne2 : Bi ≠ W1.heap.size := by have := g1.size; omega
  have e0 : W2.cell? ⟨W1.heap.size, 0, none⟩ = some (.int .i64 0) := cell_of_row _ _ _ _ _ _ o2
  have e1 : W2.cell? ⟨W1.heap.size, 1, none⟩ = some (.int .i64 0) := cell_of_row _ _ _ _ _ _ o2
  have e2 : W2.cell? ⟨W1.heap.size, 2, none⟩ = some (.int .i64 0) := cell_of_row _ _ _ _ _ _ o2
  have e3 : W2.cell? ⟨W1.heap.size, 3, none⟩ = some (.bool false) := cell_of_row _ _ _ _ _ _ o2
  have f0 := frozen_obj o2 0
  have f1 := frozen_obj o2 1
  have f2 := frozen_obj o2 2
  have f3 := frozen_obj o2 3
  have hzl := lt_of_obj o2
  obtain ⟨b, hb⟩ : ∃ b, (i != mv) = b := ⟨_, rfl⟩
  have hbe : (i == mv) = !b := by rw [← hb]; simp [bne]
  rw [hb]
  obtain ⟨x0, x1, x2, x3⟩ := m
  obtain ⟨F, hF⟩ : ∃ F, (((W2.setCell ⟨W1.heap.size, 0, none⟩ (.int .i64 x0)).setCell ⟨W1.heap.size, 1, none⟩ (.int .i64 x1)).setCell ⟨W1.heap.size, 2, none⟩ (.int .i64 x2)).setCell ⟨W1.heap.size, 3, none⟩ (.bool x3) = F := ⟨_, rfl⟩
  have hst := mv_stores o2 (.int .i64 x0) (.int .i64 x1) (.int .i64 x2) (.bool x3)
  rw [hF] at hst
  have FIN := hid (And.intro (mv_drew hst.1) (grew_drew ((grew_trans g1 g2).trans (hst.2.below (show w.heap.size ≤ W2.heap.size from (grew_trans g1 g2).size) (fun j _ e => by rw [e]; exact g1.size)))))
  have HFE := hid hF
  clear hst hF
  simp only [Nat.zero_add] at l0 l1 l2 l3 hW1
  unfold encM
  simp only
  clear hb1 hb2 o2 hB g1 g2
  cases b
  all_goals (
    go_enter Try.func79, Try.ntmps79
    go_wp2
    go_region_law (fail)
    all_goals (
      go_wp2
      rw [HFE.out]
      obtain ⟨⟨c0, c1, c2, c3⟩, r3⟩ := FIN.out
      exact bodyPost_ret (results_mv2 rfl rfl rfl c0 c1 c2 c3) rfl ⟨rfl, r3⟩))
set_option maxHeartbeats 2000000 in
theorem tell78_any (i mv : Int) (m : Mv) (Bi : Nat) (w : World) (hB : w.cell? ⟨Bi, 0, none⟩ = some (.int .i64 mv)) : Calls Try.prog 78 #[.int .i64 i, encM m, .pointer (some ⟨Bi, 0, none⟩)] w fun e w' => e = .returned (.tuple #[encM m, .bool (th m == mv)]) ∧ Grew w w' := by
  have hz := World.block_lt_of_cell? w _ hB
  simp only at hz
  obtain ⟨W1, hW1, g1, hb1⟩ := box4v w m
  obtain ⟨W2, hW2⟩ : ∃ W2, W1.alloc (.cells #[.int .i64 0, .int .i64 0, .int .i64 0, .bool false] 50) = W2 := ⟨_, rfl⟩
  have g2 : Grew W1 W2 := by rw [← hW2]; exact grew_alloc (grew_refl _) _
  have o2 : W2.heap[W1.heap.size]? = some (.cells #[.int .i64 0, .int .i64 0, .int .i64 0, .bool false] 50 (0, 0)) := by rw [← hW2]; exact heap_alloc_new W1 _
  have hb2 := hb1.grew hb1.lt g2
  have l0 := hb2.c0
  have l1 := hb2.c1
  have l2 := hb2.c2
  have l3 := hb2.c3
  have hlt := hb2.lt
  have hlt1 := hb1.lt
  have hB1 := ((grew_trans g1 g2).cell (p := ⟨Bi, 0, none⟩) hz).trans hB
  have hz1 := Nat.lt_of_lt_of_le hz (grew_trans g1 g2).size
  have hzB := Nat.lt_of_lt_of_le hz g1.size
  have hne : w.heap.size ≠ W1.heap.size := by omega
  have hne2 : Bi ≠ W1.heap.size := by have := g1.size; omega
  have e0 : W2.cell? ⟨W1.heap.size, 0, none⟩ = some (.int .i64 0) := cell_of_row _ _ _ _ _ _ o2
  have e1 : W2.cell? ⟨W1.heap.size, 1, none⟩ = some (.int .i64 0) := cell_of_row _ _ _ _ _ _ o2
  have e2 : W2.cell? ⟨W1.heap.size, 2, none⟩ = some (.int .i64 0) := cell_of_row _ _ _ _ _ _ o2
  have e3 : W2.cell? ⟨W1.heap.size, 3, none⟩ = some (.bool false) := cell_of_row _ _ _ _ _ _ o2
  have f0 := frozen_obj o2 0
  have f1 := frozen_obj o2 1
  have f2 := frozen_obj o2 2
  have f3 := frozen_obj o2 3
  have hzl := lt_of_obj o2
  obtain ⟨x0, x1, x2, x3⟩ := m
  simp only [th]
  obtain ⟨b, hb⟩ : ∃ b, (x1 == mv) = b := ⟨_, rfl⟩
  rw [hb]
  obtain ⟨F, hF⟩ : ∃ F, (((W2.setCell ⟨W1.heap.size, 0, none⟩ (.int .i64 x0)).setCell ⟨W1.heap.size, 1, none⟩ (.int .i64 x1)).setCell ⟨W1.heap.size, 2, none⟩ (.int .i64 x2)).setCell ⟨W1.heap.size, 3, none⟩ (.bool x3) = F := ⟨_, rfl⟩
  have hst := mv_stores o2 (.int .i64 x0) (.int .i64 x1) (.int .i64 x2) (.bool x3)
  rw [hF] at hst
  have FIN := hid (And.intro (mv_drew hst.1) (grew_drew ((grew_trans g1 g2).trans (hst.2.below (show w.heap.size ≤ W2.heap.size from (grew_trans g1 g2).size) (fun j _ e => by rw [e]; exact g1.size)))))
  have HFE := hid hF
  clear hst hF
  simp only [Nat.zero_add] at l0 l1 l2 l3 hW1
  unfold encM
  simp only
  clear hb1 hb2 o2 hB g1 g2
  cases b
  all_goals (
    go_enter Try.func78, Try.ntmps78
    go_wp2
    go_region_law (fail)
    all_goals (
      go_wp2
      rw [HFE.out]
      obtain ⟨⟨c0, c1, c2, c3⟩, r3⟩ := FIN.out
      exact bodyPost_ret (results_mv2 rfl rfl rfl c0 c1 c2 c3) rfl ⟨rfl, r3⟩))
set_option maxHeartbeats 2000000 in
theorem tell77_any (i a b : Int) (m : Mv) (Ba Bb : Nat) (w : World) (hA : w.cell? ⟨Ba, 0, none⟩ = some (.int .i64 a)) (hB : w.cell? ⟨Bb, 0, none⟩ = some (.int .i64 b)) : Calls Try.prog 77 #[.int .i64 i, encM m, .pointer (some ⟨Ba, 0, none⟩), .pointer (some ⟨Bb, 0, none⟩)] w fun e w' => e = .returned (.tuple #[encM (ren a b m), .bool true]) ∧ Grew w w' := by
  have hza := World.block_lt_of_cell? w _ hA
  have hz := World.block_lt_of_cell? w _ hB
  simp only at hz hza
  obtain ⟨W1, hW1, g1, hb1⟩ := box4v w m
  obtain ⟨W2, hW2⟩ : ∃ W2, W1.alloc (.cells #[.int .i64 0, .int .i64 0, .int .i64 0, .bool false] 50) = W2 := ⟨_, rfl⟩
  have g2 : Grew W1 W2 := by rw [← hW2]; exact grew_alloc (grew_refl _) _
  have o2 : W2.heap[W1.heap.size]? = some (.cells #[.int .i64 0, .int .i64 0, .int .i64 0, .bool false] 50 (0, 0)) := by rw [← hW2]; exact heap_alloc_new W1 _
  obtain ⟨x0, x1, x2, x3⟩ := m
  have o1 : W1.heap[w.heap.size]? = some (.cells #[.int .i64 x0, .int .i64 x1, .int .i64 x2, .bool x3] 50 (0, 0)) := by rw [← hW1]; exact heap_alloc_new w _
  have o1' := (g2.block _ (lt_of_obj o1)).trans o1
  have hne : w.heap.size ≠ W1.heap.size := by have := lt_of_obj o1; omega
  have hAB := (grew_trans g1 g2).cell (p := ⟨Ba, 0, none⟩) hza
  have hBB := (grew_trans g1 g2).cell (p := ⟨Bb, 0, none⟩) hz
  have hA1 := hAB.trans hA
  have hB1 := hBB.trans hB
  have hzl := lt_of_obj o2
  have hzl1 := lt_of_obj o1'
  have hz1 := Nat.lt_of_lt_of_le hz (grew_trans g1 g2).size
  have hza1 := Nat.lt_of_lt_of_le hza (grew_trans g1 g2).size
  have hsz2 : w.heap.size ≤ W2.heap.size := (grew_trans g1 g2).size
  -- the middle world: the move's thread is turned
  have main : ∀ (t' : Int) (M : World), M.heap[w.heap.size]? = some (.cells #[.int .i64 x0, .int .i64 t', .int .i64 x2, .bool x3] 50 (0, 0)) → M.heap[W1.heap.size]? = some (.cells #[.int .i64 0, .int .i64 0, .int .i64 0, .bool false] 50 (0, 0)) → Below w.heap.size w M →
      ∃ F, (((M.setCell ⟨W1.heap.size, 0, none⟩ (.int .i64 x0)).setCell ⟨W1.heap.size, 1, none⟩ (.int .i64 t')).setCell ⟨W1.heap.size, 2, none⟩ (.int .i64 x2)).setCell ⟨W1.heap.size, 3, none⟩ (.bool x3) = F ∧
        (F.cell? ⟨W1.heap.size, 0, none⟩ = some (.int .i64 x0) ∧ F.cell? ⟨W1.heap.size, 1, none⟩ = some (.int .i64 t') ∧ F.cell? ⟨W1.heap.size, 2, none⟩ = some (.int .i64 x2) ∧ F.cell? ⟨W1.heap.size, 3, none⟩ = some (.bool x3)) ∧ Grew w F := fun t' M hm1 hm2 hgr => by
    have hst := mv_stores hm2 (.int .i64 x0) (.int .i64 t') (.int .i64 x2) (.bool x3)
    refine ⟨_, rfl, ⟨cell_of_row _ _ _ _ _ _ hst.1, cell_of_row _ _ _ _ _ _ hst.1, cell_of_row _ _ _ _ _ _ hst.1, cell_of_row _ _ _ _ _ _ hst.1⟩, hgr.trans (hst.2.below hgr.size (fun j _ e => by rw [e]; exact g1.size))⟩
  have hswT : ∀ t', t' = swT a b x1 → ren a b (x0, x1, x2, x3) = (x0, t', x2, x3) := fun t' h => by rw [h]; rfl
  have l0 : W2.cell? ⟨w.heap.size, 0, none⟩ = some (.int .i64 x0) := cell_of_row _ _ _ _ _ _ o1'
  have l1 : W2.cell? ⟨w.heap.size, 1, none⟩ = some (.int .i64 x1) := cell_of_row _ _ _ _ _ _ o1'
  have l2 : W2.cell? ⟨w.heap.size, 2, none⟩ = some (.int .i64 x2) := cell_of_row _ _ _ _ _ _ o1'
  have l3 : W2.cell? ⟨w.heap.size, 3, none⟩ = some (.bool x3) := cell_of_row _ _ _ _ _ _ o1'
  have lf := frozen_obj o1' 1
  have turned : ∀ (u : Int), ∃ M, W2.setCell ⟨w.heap.size, 1, none⟩ (.int .i64 u) = M ∧ M.heap[w.heap.size]? = some (.cells #[.int .i64 x0, .int .i64 u, .int .i64 x2, .bool x3] 50 (0, 0)) ∧ M.heap[W1.heap.size]? = some (.cells #[.int .i64 0, .int .i64 0, .int .i64 0, .bool false] 50 (0, 0)) ∧ Below w.heap.size w M := fun u => by
    refine ⟨_, rfl, ?_, ?_, ?_⟩
    · simp [World.setCell, Array.getElem?_modify, o1']
    · rw [setCell_obj' _ _ _ _ _ (Ne.symm hne)]; exact o2
    · exact (grew_trans g1 g2).trans ((keeps_setB W2 w.heap.size 1 _).below hsz2 (fun j _ e => by rw [e]; exact Nat.le_refl _))
  have HMAIN := hid main; have HSW := hid hswT; have HT := hid turned; have HO2 := hid o2; have HO1 := hid o1'; have HG := hid (grew_trans g1 g2)
  clear main hswT turned hb1 o1 o2 o1' hA hB hAB hBB g1 g2
  unfold encM
  simp only
  by_cases ha : x1 = a
  · subst ha
    have he := HSW.out b (by unfold swT; rw [if_pos rfl])
    rw [he]
    simp only
    have hd1 : (x1 == x1) = true := by simp
    obtain ⟨M, hM, hm1, hm2, hgr⟩ := HT.out b
    have m0 : M.cell? ⟨w.heap.size, 0, none⟩ = some (.int .i64 x0) := cell_of_row _ _ _ _ _ _ hm1
    have m1 : M.cell? ⟨w.heap.size, 1, none⟩ = some (.int .i64 b) := cell_of_row _ _ _ _ _ _ hm1
    have m2 : M.cell? ⟨w.heap.size, 2, none⟩ = some (.int .i64 x2) := cell_of_row _ _ _ _ _ _ hm1
    have m3 : M.cell? ⟨w.heap.size, 3, none⟩ = some (.bool x3) := cell_of_row _ _ _ _ _ _ hm1
    have e0 : M.cell? ⟨W1.heap.size, 0, none⟩ = some (.int .i64 0) := cell_of_row _ _ _ _ _ _ hm2
    have e1 : M.cell? ⟨W1.heap.size, 1, none⟩ = some (.int .i64 0) := cell_of_row _ _ _ _ _ _ hm2
    have e2 : M.cell? ⟨W1.heap.size, 2, none⟩ = some (.int .i64 0) := cell_of_row _ _ _ _ _ _ hm2
    have e3 : M.cell? ⟨W1.heap.size, 3, none⟩ = some (.bool false) := cell_of_row _ _ _ _ _ _ hm2
    have f0 := frozen_obj hm2 0
    have f1 := frozen_obj hm2 1
    have f2 := frozen_obj hm2 2
    have f3 := frozen_obj hm2 3
    obtain ⟨F, hF, ⟨c0, c1, c2, c3⟩, r3⟩ := HMAIN.out b M hm1 hm2 hgr
    have HFE := hid hF
    clear hF hm1 hm2 hgr he
    go_enter Try.func77, Try.ntmps77
    go_wp2
    rw [HFE.out]
    exact bodyPost_ret (results_mv2 rfl rfl rfl c0 c1 c2 c3) rfl ⟨rfl, r3⟩
  · have hd1 : (x1 == a) = false := by simpa using ha
    by_cases hb : x1 = b
    · subst hb
      have he := HSW.out a (by unfold swT; rw [if_neg ha, if_pos rfl])
      rw [he]
      simp only
      have hd2 : (x1 == x1) = true := by simp
      obtain ⟨M, hM, hm1, hm2, hgr⟩ := HT.out a
      have m0 : M.cell? ⟨w.heap.size, 0, none⟩ = some (.int .i64 x0) := cell_of_row _ _ _ _ _ _ hm1
      have m1 : M.cell? ⟨w.heap.size, 1, none⟩ = some (.int .i64 a) := cell_of_row _ _ _ _ _ _ hm1
      have m2 : M.cell? ⟨w.heap.size, 2, none⟩ = some (.int .i64 x2) := cell_of_row _ _ _ _ _ _ hm1
      have m3 : M.cell? ⟨w.heap.size, 3, none⟩ = some (.bool x3) := cell_of_row _ _ _ _ _ _ hm1
      have e0 : M.cell? ⟨W1.heap.size, 0, none⟩ = some (.int .i64 0) := cell_of_row _ _ _ _ _ _ hm2
      have e1 : M.cell? ⟨W1.heap.size, 1, none⟩ = some (.int .i64 0) := cell_of_row _ _ _ _ _ _ hm2
      have e2 : M.cell? ⟨W1.heap.size, 2, none⟩ = some (.int .i64 0) := cell_of_row _ _ _ _ _ _ hm2
      have e3 : M.cell? ⟨W1.heap.size, 3, none⟩ = some (.bool false) := cell_of_row _ _ _ _ _ _ hm2
      have f0 := frozen_obj hm2 0
      have f1 := frozen_obj hm2 1
      have f2 := frozen_obj hm2 2
      have f3 := frozen_obj hm2 3
      obtain ⟨F, hF, ⟨c0, c1, c2, c3⟩, r3⟩ := HMAIN.out a M hm1 hm2 hgr
      have HFE := hid hF
      clear hF hm1 hm2 hgr he
      go_enter Try.func77, Try.ntmps77
      go_wp2
      rw [HFE.out]
      exact bodyPost_ret (results_mv2 rfl rfl rfl c0 c1 c2 c3) rfl ⟨rfl, r3⟩
    · have hd2 : (x1 == b) = false := by simpa using hb
      have he := HSW.out x1 (by unfold swT; rw [if_neg ha, if_neg hb])
      rw [he]
      simp only
      have e0 : W2.cell? ⟨W1.heap.size, 0, none⟩ = some (.int .i64 0) := cell_of_row _ _ _ _ _ _ HO2.out
      have e1 : W2.cell? ⟨W1.heap.size, 1, none⟩ = some (.int .i64 0) := cell_of_row _ _ _ _ _ _ HO2.out
      have e2 : W2.cell? ⟨W1.heap.size, 2, none⟩ = some (.int .i64 0) := cell_of_row _ _ _ _ _ _ HO2.out
      have e3 : W2.cell? ⟨W1.heap.size, 3, none⟩ = some (.bool false) := cell_of_row _ _ _ _ _ _ HO2.out
      have f0 := frozen_obj HO2.out 0
      have f1 := frozen_obj HO2.out 1
      have f2 := frozen_obj HO2.out 2
      have f3 := frozen_obj HO2.out 3
      obtain ⟨F, hF, ⟨c0, c1, c2, c3⟩, r3⟩ := HMAIN.out x1 W2 HO1.out HO2.out HG.out
      have HFE := hid hF
      clear hF he
      go_enter Try.func77, Try.ntmps77
      go_wp2
      rw [HFE.out]
      exact bodyPost_ret (results_mv2 rfl rfl rfl c0 c1 c2 c3) rfl ⟨rfl, r3⟩

end Go.Proofs.Ytojkohpniokaaaa
