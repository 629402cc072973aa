/- Walks: changed (76), Without (41), Renamed (37), Only (40). -/
import Derived.Test.YtojkohpniokaaaaPgChange
namespace Go.Proofs.Ytojkohpniokaaaa
open Go Go.RowKit Go.Lin Go.Lin.Pg
attribute [local go_sem] run_store_func run_store_nilFunc

/-- What tells moves one by one. -/
def IsTell (w : World) (f : Nat) (caps : Array Value) (ms : List Mv) (tell : Nat → Mv → Mv × Bool) : Prop :=
  ∀ W, Grew w W → ∀ (i : Nat) (m : Mv), ms[i]? = some m → Calls Try.prog f (#[.int .i64 (i : Int), encM m] ++ caps) W fun e w' => e = .returned (.tuple #[encM (tell i m).1, .bool (tell i m).2]) ∧ Grew W w'

/-- A graph that is built: in the cells B, its moves in later blocks. -/
structure Built (B : Nat) (n : Int) (ms : List Mv) (lv : Value) (w : World) : Prop where
  row : w.heap[B]? = some (.cells #[.int .i64 n, lv] 24 (0, 0))
  seg : Seg w (B + 1) 50 4 lv ms.length (cellsM ms)

theorem Built.grew {B : Nat} {n : Int} {ms : List Mv} {lv : Value} {w w' : World} (h : Built B n ms lv w) (hg : Grew w w') : Built B n ms lv w' := ⟨(hg.block _ (lt_of_obj h.row)).trans h.row, h.seg.grew hg⟩

/-- One more move. -/
theorem Built.add {B : Nat} {n : Int} {ms : List Mv} {lv : Value} {w : World} (h : Built B n ms lv w) {m : Mv} {v' : Value} {w' : World} (hs : Seg w' (B + 1) 50 4 v' (ms.length + 1) (cellsM ms ++ [.int .i64 m.1, .int .i64 m.2.1, .int .i64 m.2.2.1, .bool m.2.2.2]))
    {X : World} (hX : Grew w X) (hg : X.grownBy w' lv.ownBlock) : Built B n (ms ++ [m]) v' (w'.setCell ⟨B, 1, none⟩ v') ∧ Below B w (w'.setCell ⟨B, 1, none⟩ v') ∧ w'.heap[B]? = some (.cells #[.int .i64 n, lv] 24 (0, 0)) := by
  have hB := lt_of_obj h.row
  have k1 : Keeps (fun k _ => B + 1 ≤ k) X w' := (Keeps.refl _ _).grown hg (fun k o e _ => (h.seg.own k e).1)
  have r1 : w'.heap[B]? = some (.cells #[.int .i64 n, lv] 24 (0, 0)) := k1.obj _ _ ((hX.block _ hB).trans h.row) (by omega)
  have k2 := keeps_setB w' B 1 v'
  refine ⟨⟨setCell_row2 r1 v', ?_⟩, ?_, r1⟩
  · have e : cellsM (ms ++ [m]) = cellsM ms ++ [.int .i64 m.1, .int .i64 m.2.1, .int .i64 m.2.2.1, .bool m.2.2.2] := by rw [cellsM_append]; rfl
    rw [e, List.length_append]
    exact hs.keeps k2 (fun k o hk _ e => by have := (hs.own k hk).1; omega)
  · exact ((hX.keeps (may := fun k _ => B ≤ k)).trans ((k1.mono (fun k _ h => by omega)).trans (k2.mono (fun k _ h => by omega)))).below (by omega) (fun k _ h => h)

set_option maxHeartbeats 4000000 in
set_option maxRecDepth 20000 in
theorem changed76_any (gv : Value) (g : Gr) (f : Nat) (caps : Array Value) (tell : Nat → Mv → Mv × Bool) (w : World) (h20 : g.ms.length ≤ 20) (hg : IsGr w gv g) (hcf : Entered f) (ht : IsTell w f caps g.ms tell) :
    Calls Try.prog 76 #[gv, .func (.func f) #[] caps] w fun e w' => ∃ s, e = .returned (.agg #[.int .i64 g.n, s]) ∧ Grew w w' ∧ Seg w' w.heap.size 50 4 s (chgM tell g.ms g.ms.length).length (cellsM (chgM tell g.ms g.ms.length)) := by
  obtain ⟨s, rfl, hmv⟩ := hg
  obtain ⟨n, hn⟩ : ∃ n, g.ms.length = n := ⟨_, rfl⟩
  obtain ⟨va, vc, rfl, ⟨hm1, hm2⟩, hmvs⟩ := hmv
  rw [hn] at hm1 hm2 h20 ⊢
  have HMVS := hid hmvs; have HN := hid hn; have HT := hid ht
  have hcf' : ∀ args w, (callFunc f args).run Try.prog w = .ok (.enter f args) w := hcf
  clear hmvs hn ht hcf
  obtain ⟨gn, hgn⟩ : ∃ gn, g.n = gn := ⟨_, rfl⟩
  rw [hgn]
  clear hgn
  obtain ⟨W0, hW0, g0, k0, k1, hz⟩ := box2 w (.int .i64 gn) (.slice va n vc) 24
  obtain ⟨W1, hW1⟩ : ∃ W1, W0.alloc (.cells #[.int .i64 0, .slice none 0 0] 24) = W1 := ⟨_, rfl⟩
  have g1 : Grew W0 W1 := by rw [← hW1]; exact grew_alloc (grew_refl _) _
  have o1 : W1.heap[W0.heap.size]? = some (.cells #[.int .i64 0, .slice none 0 0] 24 (0, 0)) := by rw [← hW1]; exact heap_alloc_new W0 _
  obtain ⟨W2, hW2, g2, j0, j1, hz2⟩ := box2 W1 (.int .i64 gn) (.slice none 0 0) 24
  have o2 : W2.heap[W1.heap.size]? = some (.cells #[.int .i64 gn, .slice none 0 0] 24 (0, 0)) := by rw [← hW2]; exact heap_alloc_new W1 _
  obtain ⟨W3, hW3⟩ : ∃ W3, W2.setCell ⟨W1.heap.size, 1, none⟩ (.slice none 0 0) = W3 := ⟨_, rfl⟩
  have o3 : W3.heap[W1.heap.size]? = some (.cells #[.int .i64 gn, .slice none 0 0] 24 (0, 0)) := by rw [← hW3]; exact setCell_row2 o2 _
  have g3 : Below W1.heap.size W1 W3 := by rw [← hW3]; exact (g2 : Below W1.heap.size W1 W2).trans ((keeps_setB W2 W1.heap.size 1 _).below (Nat.le_of_lt hz2) (fun k _ e => by rw [e]; exact Nat.le_refl _))
  have q1 := frozen_obj o2 1
  have hzl := lt_of_obj o1
  have K0 := (g1.cell (p := ⟨w.heap.size, 0, none⟩) hz).trans k0
  have K1 := ((grew_trans g1 g3).cell (p := ⟨w.heap.size, 1, none⟩) hz).trans k1
  have hz' := Nat.lt_of_lt_of_le hz g1.size
  have hz'' := Nat.lt_of_lt_of_le hz (grew_trans g1 g3).size
  have HB0 : Hid (Built W1.heap.size gn [] (.slice none 0 0) W3) := hid ⟨o3, Seg.nil _ _ _ _⟩
  have HG1 := hid (grew_trans g0 g1); have HO1 := hid o1; have HG2 := hid g3
  have HSZ := hid (show w.heap.size ≤ W0.heap.size from g0.size)
  clear o1 o2 o3 k0 k1 g0 g1 g2 g3
  go_enter Try.func76, Try.ntmps76
  go_wp2
  go_loopg [6, 7, 8, 9, 16, 21] n (fun k _ _ _ _ i _ wr => ∃ (j : Nat) (lv : Value), j ≤ n ∧ i = .int .i64 (j : Int) ∧ Hid (k = n - j) ∧ Hid (Grew W1 wr) ∧ Hid (Built W1.heap.size gn (chgM tell g.ms j) lv wr))
  case atStart => exact ⟨0, _, Nat.zero_le _, rfl, hid rfl, HG2, HB0⟩
  case round =>
    clear HB0
    obtain ⟨j, lv, hj, rfl, HK, HGR, HB⟩ := hrel
    rename World => wr
    have HGW := hid (grew_trans HG1.out HGR.out)
    obtain ⟨la, lc, rfl, _⟩ := HB.out.seg.shape
    obtain ⟨ln, hln⟩ : ∃ ln, (chgM tell g.ms j).length = ln := ⟨_, rfl⟩
    have HLN := hid hln
    have hln20 : ln ≤ 20 := by have := chgM_len tell g.ms j; omega
    rw [hln] at HB
    clear hln
    by_cases hlt : j < n
    · obtain ⟨x, hx⟩ : ∃ x, g.ms[j]? = some x := ⟨_, List.getElem?_eq_getElem (by rw [HN.out]; exact hlt)⟩
      obtain ⟨bb, boff, rfl, hpa⟩ := HMVS.out j x hx
      have hpa2 := hpa.grew hpa.lt HGW.out
      have p0 := hpa2.c0
      have p1 := hpa2.c1
      have p2 := hpa2.c2
      have p3 := hpa2.c3
      have hplt := hpa2.lt
      obtain ⟨Y1, hY1, e1, hb1⟩ := box4v wr x
      have l0 := hb1.c0
      have l1 := hb1.c1
      have l2 := hb1.c2
      have l3 := hb1.c3
      have hzy := hb1.lt
      have HE1 := hid e1
      have HC := hid (HT.out Y1 (grew_trans HGW.out e1) j x hx)
      have hta := tellAt_some (tell := tell) hx
      obtain ⟨⟨y, yb⟩, hy⟩ : ∃ r, tell j x = r := ⟨_, rfl⟩
      rw [hy] at hta HC
      have hjn : (j : Int) < (n : Int) := by omega
      obtain ⟨x1, x2, x3, x4⟩ := x
      obtain ⟨y1, y2, y3, y4⟩ := y
      simp only [Nat.zero_add, encM] at p0 p1 p2 p3 l0 l1 l2 l3 hY1 HC
      clear hpa hpa2 hb1 hx hy e1
      cases yb with
      | false =>
        have HTA := hid (show chgM tell g.ms (j + 1) = chgM tell g.ms j by show chgM tell g.ms j ++ tellAt tell g.ms j = _; rw [hta]; simp)
        clear hta
        go_wp2_with (refine (show Calls _ _ _ _ _ from HC.out).mono ?_; rintro e w5 ⟨rfl, hx5⟩; obtain ⟨Y2, hY2, e2, hb2⟩ := box4v w5 (y1, y2, y3, y4); have HE2 := hid (grew_trans HE1.out (grew_trans hx5 e2)); clear hb2 hx5)
        go_roundg (n - (j + 1))
        case measure => have := HK.out; omega
        case rel => exact ⟨j + 1, _, by omega, by go_num, hid rfl, hid (grew_trans HGR.out HE2.out), hid (by rw [HTA.out]; exact HB.out.grew HE2.out)⟩
      | true =>
        have HTA := hid (show chgM tell g.ms (j + 1) = chgM tell g.ms j ++ [(y1, y2, y3, y4)] by show chgM tell g.ms j ++ tellAt tell g.ms j = _; rw [hta]; simp)
        clear hta
        go_wp2_with (first
          | (refine (show Calls _ _ _ _ _ from HC.out).mono ?_; rintro e w5 ⟨rfl, hx5⟩; obtain ⟨Y2, hY2, e2, hb2⟩ := box4v w5 (y1, y2, y3, y4); have HE2 := hid (grew_trans HE1.out (grew_trans hx5 e2)); have m0 := hb2.c0; have m1 := hb2.c1; have m2 := hb2.c2; have m3 := hb2.c3; have hzm := hb2.lt; have HBT := hid (HB.out.grew HE2.out); have t0 : Y2.cell? ⟨W1.heap.size, 0, none⟩ = some (.int .i64 gn) := cell_of_row _ _ _ _ _ _ HBT.out.row; have t1 : Y2.cell? ⟨W1.heap.size, 1, none⟩ = some _ := cell_of_row _ _ _ _ _ _ HBT.out.row; have hzt := lt_of_obj HBT.out.row; simp only [Nat.zero_add] at hY2 m0 m1 m2 m3; clear hb2 hx5)
          | (at_builtin; refine wpList_append_lit rfl _ _ 22 rfl (W1.heap.size + 1) 50 Try.underlying22 Try.info50 rfl (by decide) (.slice la ln lc) ln _ rfl (by have h := HBT.out.seg; rw [HLN.out] at h; exact h) [.int .i64 y1, .int .i64 y2, .int .i64 y3, .bool y4] 50 1 rfl rfl (by simp [Value.oneCell']) (by omega) (by omega) ?_; intro v9 w9 hown9 hgrow9 hblk9; rw [← HLN.out] at hown9; obtain ⟨r1, r2, r3⟩ := HBT.out.add (m := (y1, y2, y3, y4)) hown9 (grew_alloc (grew_refl _) _) hgrow9; have HR1 := hid r1; have HR2 := hid r2; have HV9 := hid hown9; obtain ⟨qa, qc, rfl, _⟩ := hown9.shape; have t9 : w9.cell? ⟨W1.heap.size, 1, none⟩ = some _ := cell_of_row _ _ _ _ _ _ r3; have f9 := frozen_obj r3 1; clear hown9 hgrow9 hblk9 r1 r2 r3))
        go_roundg (n - (j + 1))
        case measure => have := HK.out; omega
        case rel => exact ⟨j + 1, _, by omega, by go_num, hid rfl, hid ((grew_trans HGR.out HE2.out).trans HR2.out), hid (by rw [HTA.out]; exact HR1.out)⟩
    · obtain rfl : j = n := by omega
      have t0 : wr.cell? ⟨W1.heap.size, 0, none⟩ = some (.int .i64 gn) := cell_of_row _ _ _ _ _ _ HB.out.row
      have t1 : wr.cell? ⟨W1.heap.size, 1, none⟩ = some _ := cell_of_row _ _ _ _ _ _ HB.out.row
      have or := (HGR.out.block _ hzl).trans HO1.out
      have e0 : wr.cell? ⟨W0.heap.size, 0, none⟩ = some (.int .i64 0) := cell_of_row _ _ _ _ _ _ or
      have e1 : wr.cell? ⟨W0.heap.size, 1, none⟩ = some (.slice none 0 0) := cell_of_row _ _ _ _ _ _ or
      have f0 := frozen_obj or 0
      have f1 := frozen_obj or 1
      obtain ⟨F, hF⟩ : ∃ F, (wr.setCell ⟨W0.heap.size, 0, none⟩ (.int .i64 gn)).setCell ⟨W0.heap.size, 1, none⟩ (.slice la ln lc) = F := ⟨_, rfl⟩
      have hst := gr_stores or (.int .i64 gn) (.slice la ln lc)
      rw [hF] at hst
      have hsg := HB.out.seg.keeps hst.2 (fun k o hk _ e => by have := (HB.out.seg.own k hk).1; omega)
      have HFIN := hid (hsg.mono (base' := w.heap.size) (by have := HSZ.out; omega))
      have c0 : F.cell? ⟨W0.heap.size, 0, none⟩ = some (.int .i64 gn) := cell_of_row _ _ _ _ _ _ hst.1
      have c1 : F.cell? ⟨W0.heap.size, 1, none⟩ = some (.slice la ln lc) := cell_of_row _ _ _ _ _ _ hst.1
      have hgF := HGW.out.trans (hst.2.below HGW.out.size (fun k _ e => by rw [e]; exact HSZ.out))
      have HF := hid hF; have HGF := hid hgF
      clear hst hF or hsg hgF
      go_wp2
      rw [HF.out]
      exact bodyPost_ret (results_gr rfl rfl c0 c1) rfl ⟨_, rfl, HGF.out, HFIN.out⟩

theorem shape2 {w : World} {base : Nat} {e : TypeId} {size : Nat} {v : Value} {n : Nat} {xs : List Value} (h : Seg w base e size v n xs) : ∃ a m cap, v = .slice a m cap :=
  let ⟨a, cap, h1, _⟩ := h.shape; ⟨a, n, cap, h1⟩

/-- A result's cells, stored into. -/
theorem res_gr {w Wr W : World} {R : Nat} {x y : Value} (hR : w.heap.size ≤ R) (ho : Wr.heap[R]? = some (.cells #[x, y] 24 (0, 0))) (hg : Grew w Wr) (h : Grew Wr W) (u v : Value) :
    ∃ F, (W.setCell ⟨R, 0, none⟩ u).setCell ⟨R, 1, none⟩ v = F ∧ F.cell? ⟨R, 0, none⟩ = some u ∧ F.cell? ⟨R, 1, none⟩ = some v ∧ Grew w F ∧ Keeps (fun k _ => k = R) W F := by
  have o := (h.block _ (lt_of_obj ho)).trans ho
  have hst := gr_stores o u v
  exact ⟨_, rfl, cell_of_row _ _ _ _ _ _ hst.1, cell_of_row _ _ _ _ _ _ hst.1, (grew_trans hg h).trans (hst.2.below (grew_trans hg h).size (fun k _ e => by rw [e]; exact hR)), hst.2⟩

theorem res_facts {Wr W : World} {R : Nat} {x y : Value} (ho : Wr.heap[R]? = some (.cells #[x, y] 24 (0, 0))) (h : Grew Wr W) :
    W.cell? ⟨R, 0, none⟩ = some x ∧ W.cell? ⟨R, 1, none⟩ = some y ∧ W.frozen? ⟨R, 0, none⟩ = false ∧ W.frozen? ⟨R, 1, none⟩ = false ∧ R < W.heap.size := by
  have o := (h.block _ (lt_of_obj ho)).trans ho
  exact ⟨cell_of_row _ _ _ _ _ _ o, cell_of_row _ _ _ _ _ _ o, frozen_obj o 0, frozen_obj o 1, lt_of_obj o⟩

theorem isGr_zero (w : World) : IsGr w (.agg #[.int .i64 0, .slice none 0 0]) ⟨0, []⟩ := ⟨_, rfl, none, 0, rfl, by simp, fun i m h => by simp at h⟩

def withoutM (ms : List Mv) (i : Int) : List Mv := chgM (fun k m => (m, (k : Int) != i)) ms ms.length
def onlyM (ms : List Mv) (t : Int) : List Mv := chgM (fun _ m => (m, th m == t)) ms ms.length
def renM (ms : List Mv) (a b : Int) : List Mv := chgM (fun _ m => (ren a b m, true)) ms ms.length
def withoutA (g : Gr) (i : Int) : Gr × Int := if valid g then (if decide (0 ≤ i) && decide (i < (g.ms.length : Int)) then (⟨g.n, withoutM g.ms i⟩, 0) else (⟨0, []⟩, 2)) else (⟨0, []⟩, 70)
def onlyA (g : Gr) (t : Int) : Gr × Int := if valid g then (if isTh t then (⟨g.n, onlyM g.ms t⟩, 0) else (⟨0, []⟩, 2)) else (⟨0, []⟩, 70)
def renA (g : Gr) (a b : Int) : Gr × Int := if valid g then (if isTh a && isTh b then (⟨g.n, renM g.ms a b⟩, 0) else (⟨0, []⟩, 2)) else (⟨0, []⟩, 70)

theorem valid_20 {g : Gr} (h : valid g = true) : g.ms.length ≤ 20 := by
  unfold valid at h
  simp only [Bool.and_eq_true, decide_eq_true_eq] at h
  exact h.2

set_option maxHeartbeats 2000000 in
set_option maxRecDepth 20000 in
theorem without41_any (v : Value) (g : Gr) (i : Int) (w : World) (hn : -9223372036854775808 ≤ g.n ∧ g.n ≤ 9223372036854775807) (hv : IsGr w v g) :
    Calls Try.prog 41 #[v, .int .i64 i] w fun e w' => ∃ u, e = .returned (.tuple #[u, .int .i64 (withoutA g i).2]) ∧ Grew w w' ∧ IsGr w' u (withoutA g i).1 := by
  have HV := hid hv
  obtain ⟨s, rfl, hmv⟩ := hv
  obtain ⟨n, hn'⟩ : ∃ n, g.ms.length = n := ⟨_, rfl⟩
  obtain ⟨va, vc, rfl, ⟨hm1, hm2⟩, -⟩ := hmv
  rw [hn'] at hm1 hm2 HV ⊢
  have HN := hid hn'
  obtain ⟨W0, hW0, g0, k0, k1, hz⟩ := box2 w (.int .i64 g.n) (.slice va n vc) 24
  obtain ⟨W1, hW1, g1, j0, hz1⟩ := box1 W0 (.int .i64 i) 3
  obtain ⟨W2, hW2⟩ : ∃ W2, W1.alloc (.cells #[.int .i64 0, .slice none 0 0] 24) = W2 := ⟨_, rfl⟩
  have g2 : Grew W1 W2 := by rw [← hW2]; exact grew_alloc (grew_refl _) _
  have o2 : W2.heap[W1.heap.size]? = some (.cells #[.int .i64 0, .slice none 0 0] 24 (0, 0)) := by rw [← hW2]; exact heap_alloc_new W1 _
  have K0 := ((grew_trans g1 g2).cell (p := ⟨w.heap.size, 0, none⟩) hz).trans k0
  have K1 := ((grew_trans g1 g2).cell (p := ⟨w.heap.size, 1, none⟩) hz).trans k1
  have J0 := (g2.cell (p := ⟨W0.heap.size, 0, none⟩) hz1).trans j0
  have hzr := Nat.lt_of_lt_of_le hz (grew_trans g1 g2).size
  have hz1r := Nat.lt_of_lt_of_le hz1 g2.size
  have HG := hid (grew_trans g0 (grew_trans g1 g2))
  have HO := hid o2
  have hR : w.heap.size ≤ W1.heap.size := (grew_trans g0 g1).size
  have HVA := hid (valid51_any _ g W2 hn (HV.out.grew HG.out))
  have HZ := hid (fun (W : World) (h : Grew W2 W) => res_gr hR HO.out HG.out h (.int .i64 0) (.slice none 0 0))
  obtain ⟨b, hb⟩ : ∃ b, valid g = b := ⟨_, rfl⟩
  have hr : withoutA g i = if b then (if decide (0 ≤ i) && decide (i < (n : Int)) then (⟨g.n, withoutM g.ms i⟩, 0) else (⟨0, []⟩, 2)) else (⟨0, []⟩, 70) := by unfold withoutA; rw [hb, HN.out]
  rw [hr]
  rw [hb] at HVA
  clear hr o2 k0 k1 j0 g0 g1 g2
  cases b with
  | false =>
    simp only [Bool.false_eq_true, if_false]
    clear hb
    go_enter Try.func41, Try.ntmps41
    go_wp2_with (go_at_call 51; (with_reducible refine HVA.out.mono ?_); rintro e w1 ⟨rfl, hx⟩; obtain ⟨e0, e1, f0, f1, hzR⟩ := res_facts HO.out hx; obtain ⟨F, hF, c0, c1, hgF, _⟩ := HZ.out w1 hx; have HF := hid hF; clear hx hF)
    rw [HF.out]
    exact bodyPost_ret (results_gr2 rfl rfl rfl c0 c1) rfl ⟨_, rfl, hgF, isGr_zero _⟩
  | true =>
    simp only [if_true]
    have H20 := hid (valid_20 hb)
    clear hb
    by_cases hi : 0 ≤ i ∧ i < (n : Int)
    · rw [show (decide (0 ≤ i) && decide (i < (n : Int))) = true by simp [hi.1, hi.2]]
      simp only [if_true]
      obtain ⟨hi0, hi1⟩ := hi
      have hd1 : decide (i < 0) = false := decide_eq_false (by omega)
      have hd2 : decide (i ≥ (n : Int)) = false := decide_eq_false (by omega)
      have HCH := hid (fun (W : World) (h : Grew W2 W) => changed76_any (.agg #[.int .i64 g.n, .slice va n vc]) g 79 #[.pointer (some ⟨W0.heap.size, 0, none⟩)] (fun k m => (m, (k : Int) != i)) W H20.out (HV.out.grew (grew_trans HG.out h)) (fun _ _ => by kernel_rfl) (fun W' hW' k m _ => tell79_any (k : Int) i m W0.heap.size W' (((grew_trans h hW').cell (p := ⟨W0.heap.size, 0, none⟩) hz1r).trans J0)))
      go_enter Try.func41, Try.ntmps41
      go_wp2_with (first
        | (go_at_call 51; (with_reducible refine HVA.out.mono ?_); rintro e w1 ⟨rfl, hx⟩; have HX := hid hx; have x0 := (hx.cell (p := ⟨w.heap.size, 0, none⟩) hzr).trans K0; have x1 := (hx.cell (p := ⟨w.heap.size, 1, none⟩) hzr).trans K1; have x2 := (hx.cell (p := ⟨W0.heap.size, 0, none⟩) hz1r).trans J0; clear hx)
        | (go_at_call 76; (with_reducible refine (HCH.out _ HX.out).mono ?_); rintro e w2 ⟨s2, rfl, hy, hs⟩; have hxy := grew_trans HX.out hy; obtain ⟨e0, e1, f0, f1, hzR⟩ := res_facts HO.out hxy; obtain ⟨F, hF, c0, c1, hgF, hkF⟩ := res_gr hR HO.out HG.out hxy (.int .i64 g.n) s2; have HF := hid hF; have HSF := hid (hs.keeps hkF (fun k o hk _ e => by have h1 := (hs.own k hk).1; have h2 := lt_of_obj HO.out; have h3 := HX.out.size; omega)); obtain ⟨sa, nl, sc, rfl⟩ := shape2 hs; clear hy hxy hs hkF hF))
      rw [HF.out]
      exact bodyPost_ret (results_gr2 rfl rfl rfl c0 c1) rfl ⟨_, rfl, hgF, _, rfl, mvs_of_seg HSF.out rfl⟩
    · rw [show (decide (0 ≤ i) && decide (i < (n : Int))) = false by simpa using hi]
      simp only [Bool.false_eq_true, if_false]
      by_cases hi0 : i < 0
      · go_enter Try.func41, Try.ntmps41
        go_wp2_with (go_at_call 51; (with_reducible refine HVA.out.mono ?_); rintro e w1 ⟨rfl, hx⟩; have x0 := (hx.cell (p := ⟨w.heap.size, 0, none⟩) hzr).trans K0; have x1 := (hx.cell (p := ⟨w.heap.size, 1, none⟩) hzr).trans K1; have x2 := (hx.cell (p := ⟨W0.heap.size, 0, none⟩) hz1r).trans J0; obtain ⟨e0, e1, f0, f1, hzR⟩ := res_facts HO.out hx; obtain ⟨F, hF, c0, c1, hgF, _⟩ := HZ.out w1 hx; have HF := hid hF; clear hx hF)
        rw [HF.out]
        exact bodyPost_ret (results_gr2 rfl rfl rfl c0 c1) rfl ⟨_, rfl, hgF, isGr_zero _⟩
      · have hi1 : i ≥ (n : Int) := by omega
        have hd1 : decide (i < 0) = false := decide_eq_false (by omega)
        clear hi
        go_enter Try.func41, Try.ntmps41
        go_wp2_with (go_at_call 51; (with_reducible refine HVA.out.mono ?_); rintro e w1 ⟨rfl, hx⟩; have x0 := (hx.cell (p := ⟨w.heap.size, 0, none⟩) hzr).trans K0; have x1 := (hx.cell (p := ⟨w.heap.size, 1, none⟩) hzr).trans K1; have x2 := (hx.cell (p := ⟨W0.heap.size, 0, none⟩) hz1r).trans J0; obtain ⟨e0, e1, f0, f1, hzR⟩ := res_facts HO.out hx; obtain ⟨F, hF, c0, c1, hgF, _⟩ := HZ.out w1 hx; have HF := hid hF; clear hx hF)
        rw [HF.out]
        exact bodyPost_ret (results_gr2 rfl rfl rfl c0 c1) rfl ⟨_, rfl, hgF, isGr_zero _⟩
set_option maxHeartbeats 2000000 in
set_option maxRecDepth 20000 in
theorem only40_any (v : Value) (g : Gr) (i : Int) (w : World) (hn : -9223372036854775808 ≤ g.n ∧ g.n ≤ 9223372036854775807) (hv : IsGr w v g) :
    Calls Try.prog 40 #[v, .int .i64 i] w fun e w' => ∃ u, e = .returned (.tuple #[u, .int .i64 (onlyA g i).2]) ∧ Grew w w' ∧ IsGr w' u (onlyA g i).1 := by
  have HV := hid hv
  obtain ⟨s, rfl, hmv⟩ := hv
  obtain ⟨n, hn'⟩ : ∃ n, g.ms.length = n := ⟨_, rfl⟩
  obtain ⟨va, vc, rfl, ⟨hm1, hm2⟩, -⟩ := hmv
  rw [hn'] at hm1 hm2 HV ⊢
  have HN := hid hn'
  obtain ⟨W0, hW0, g0, k0, k1, hz⟩ := box2 w (.int .i64 g.n) (.slice va n vc) 24
  obtain ⟨W1, hW1, g1, j0, hz1⟩ := box1 W0 (.int .i64 i) 3
  obtain ⟨W2, hW2⟩ : ∃ W2, W1.alloc (.cells #[.int .i64 0, .slice none 0 0] 24) = W2 := ⟨_, rfl⟩
  have g2 : Grew W1 W2 := by rw [← hW2]; exact grew_alloc (grew_refl _) _
  have o2 : W2.heap[W1.heap.size]? = some (.cells #[.int .i64 0, .slice none 0 0] 24 (0, 0)) := by rw [← hW2]; exact heap_alloc_new W1 _
  have K0 := ((grew_trans g1 g2).cell (p := ⟨w.heap.size, 0, none⟩) hz).trans k0
  have K1 := ((grew_trans g1 g2).cell (p := ⟨w.heap.size, 1, none⟩) hz).trans k1
  have J0 := (g2.cell (p := ⟨W0.heap.size, 0, none⟩) hz1).trans j0
  have hzr := Nat.lt_of_lt_of_le hz (grew_trans g1 g2).size
  have hz1r := Nat.lt_of_lt_of_le hz1 g2.size
  have HG := hid (grew_trans g0 (grew_trans g1 g2))
  have HO := hid o2
  have hR : w.heap.size ≤ W1.heap.size := (grew_trans g0 g1).size
  have HVA := hid (valid51_any _ g W2 hn (HV.out.grew HG.out))
  have HZ := hid (fun (W : World) (h : Grew W2 W) => res_gr hR HO.out HG.out h (.int .i64 0) (.slice none 0 0))
  obtain ⟨b, hb⟩ : ∃ b, valid g = b := ⟨_, rfl⟩
  have hr : onlyA g i = if b then (if isTh i then (⟨g.n, onlyM g.ms i⟩, 0) else (⟨0, []⟩, 2)) else (⟨0, []⟩, 70) := by unfold onlyA; rw [hb]
  rw [hr]
  rw [hb] at HVA
  clear hr o2 k0 k1 j0 g0 g1 g2
  cases b with
  | false =>
    simp only [Bool.false_eq_true, if_false]
    clear hb
    go_enter Try.func40, Try.ntmps40
    go_wp2_with (go_at_call 51; (with_reducible refine HVA.out.mono ?_); rintro e w1 ⟨rfl, hx⟩; obtain ⟨e0, e1, f0, f1, hzR⟩ := res_facts HO.out hx; obtain ⟨F, hF, c0, c1, hgF, _⟩ := HZ.out w1 hx; have HF := hid hF; clear hx hF)
    rw [HF.out]
    exact bodyPost_ret (results_gr2 rfl rfl rfl c0 c1) rfl ⟨_, rfl, hgF, isGr_zero _⟩
  | true =>
    simp only [if_true]
    have H20 := hid (valid_20 hb)
    clear hb
    have HB := hid (fun W => between_any 0 i 2 W)
    have hth : (decide ((0 : Int) ≤ i) && decide (i ≤ 2)) = isTh i := rfl
    rw [hth] at HB
    obtain ⟨q, hq⟩ : ∃ q, isTh i = q := ⟨_, rfl⟩
    rw [hq] at HB
    rw [hq]
    clear hth hq
    cases q with
    | true =>
      simp only [if_true]
      have HCH := hid (fun (W : World) (h : Grew W2 W) => changed76_any (.agg #[.int .i64 g.n, .slice va n vc]) g 78 #[.pointer (some ⟨W0.heap.size, 0, none⟩)] (fun _ m => (m, th m == i)) W H20.out (HV.out.grew (grew_trans HG.out h)) (fun _ _ => by kernel_rfl) (fun W' hW' k m _ => tell78_any (k : Int) i m W0.heap.size W' (((grew_trans h hW').cell (p := ⟨W0.heap.size, 0, none⟩) hz1r).trans J0)))
      go_enter Try.func40, Try.ntmps40
      go_wp2_with (first
        | (go_at_call 51; (with_reducible refine HVA.out.mono ?_); rintro e w1 ⟨rfl, hx⟩; have HX := hid hx; have x0 := (hx.cell (p := ⟨w.heap.size, 0, none⟩) hzr).trans K0; have x1 := (hx.cell (p := ⟨w.heap.size, 1, none⟩) hzr).trans K1; have x2 := (hx.cell (p := ⟨W0.heap.size, 0, none⟩) hz1r).trans J0; clear hx)
        | (go_at_call 63; (with_reducible refine (HB.out _).mono ?_); rintro e w1b ⟨rfl, hx⟩; have HXB := hid (grew_trans HX.out hx); have y0 := (hx.cell (p := ⟨w.heap.size, 0, none⟩) (Nat.lt_of_lt_of_le hzr HX.out.size)).trans x0; have y1 := (hx.cell (p := ⟨w.heap.size, 1, none⟩) (Nat.lt_of_lt_of_le hzr HX.out.size)).trans x1; have y2 := (hx.cell (p := ⟨W0.heap.size, 0, none⟩) (Nat.lt_of_lt_of_le hz1r HX.out.size)).trans x2; clear hx)
        | (go_at_call 76; (with_reducible refine (HCH.out _ HXB.out).mono ?_); rintro e w2 ⟨s2, rfl, hy, hs⟩; have hxy := grew_trans HXB.out hy; obtain ⟨e0, e1, f0, f1, hzR⟩ := res_facts HO.out hxy; obtain ⟨F, hF, c0, c1, hgF, hkF⟩ := res_gr hR HO.out HG.out hxy (.int .i64 g.n) s2; have HF := hid hF; have HSF := hid (hs.keeps hkF (fun k o hk _ e => by have h1 := (hs.own k hk).1; have h2 := lt_of_obj HO.out; have h3 := HXB.out.size; omega)); obtain ⟨sa, nl, sc, rfl⟩ := shape2 hs; clear hy hxy hs hkF hF))
      rw [HF.out]
      exact bodyPost_ret (results_gr2 rfl rfl rfl c0 c1) rfl ⟨_, rfl, hgF, _, rfl, mvs_of_seg HSF.out rfl⟩
    | false =>
      simp only [Bool.false_eq_true, if_false]
      go_enter Try.func40, Try.ntmps40
      go_wp2_with (first
        | (go_at_call 51; (with_reducible refine HVA.out.mono ?_); rintro e w1 ⟨rfl, hx⟩; have HX := hid hx; have x0 := (hx.cell (p := ⟨w.heap.size, 0, none⟩) hzr).trans K0; have x1 := (hx.cell (p := ⟨w.heap.size, 1, none⟩) hzr).trans K1; have x2 := (hx.cell (p := ⟨W0.heap.size, 0, none⟩) hz1r).trans J0; clear hx)
        | (go_at_call 63; (with_reducible refine (HB.out _).mono ?_); rintro e w2 ⟨rfl, hy⟩; have hx := grew_trans HX.out hy; obtain ⟨e0, e1, f0, f1, hzR⟩ := res_facts HO.out hx; obtain ⟨F, hF, c0, c1, hgF, _⟩ := HZ.out w2 hx; have HF := hid hF; clear hx hF hy))
      rw [HF.out]
      exact bodyPost_ret (results_gr2 rfl rfl rfl c0 c1) rfl ⟨_, rfl, hgF, isGr_zero _⟩


set_option maxHeartbeats 2000000 in
set_option maxRecDepth 20000 in
theorem renamed37_any (v : Value) (g : Gr) (a b : Int) (w : World) (hn : -9223372036854775808 ≤ g.n ∧ g.n ≤ 9223372036854775807) (hv : IsGr w v g) :
    Calls Try.prog 37 #[v, .int .i64 a, .int .i64 b] w fun e w' => ∃ u, e = .returned (.tuple #[u, .int .i64 (renA g a b).2]) ∧ Grew w w' ∧ IsGr w' u (renA g a b).1 := by
  have HV := hid hv
  obtain ⟨s, rfl, hmv⟩ := hv
  obtain ⟨n, hn'⟩ : ∃ n, g.ms.length = n := ⟨_, rfl⟩
  obtain ⟨va, vc, rfl, ⟨hm1, hm2⟩, -⟩ := hmv
  rw [hn'] at hm1 hm2 HV ⊢
  have HN := hid hn'
  obtain ⟨W0, hW0, g0, k0, k1, hz⟩ := box2 w (.int .i64 g.n) (.slice va n vc) 24
  obtain ⟨W1, hW1, g1, j0, hz1⟩ := box1 W0 (.int .i64 a) 3
  obtain ⟨W1b, hW1b, g1b, i0, hz1b⟩ := box1 W1 (.int .i64 b) 3
  obtain ⟨W2, hW2⟩ : ∃ W2, W1b.alloc (.cells #[.int .i64 0, .slice none 0 0] 24) = W2 := ⟨_, rfl⟩
  have g2 : Grew W1b W2 := by rw [← hW2]; exact grew_alloc (grew_refl _) _
  have o2 : W2.heap[W1b.heap.size]? = some (.cells #[.int .i64 0, .slice none 0 0] 24 (0, 0)) := by rw [← hW2]; exact heap_alloc_new W1b _
  have g12 := grew_trans g1b g2
  have g02 := grew_trans g1 g12
  have K0 := (g02.cell (p := ⟨w.heap.size, 0, none⟩) hz).trans k0
  have K1 := (g02.cell (p := ⟨w.heap.size, 1, none⟩) hz).trans k1
  have J0 := (g12.cell (p := ⟨W0.heap.size, 0, none⟩) hz1).trans j0
  have I0 := (g2.cell (p := ⟨W1.heap.size, 0, none⟩) hz1b).trans i0
  have hzr := Nat.lt_of_lt_of_le hz g02.size
  have hz1r := Nat.lt_of_lt_of_le hz1 g12.size
  have hz1br := Nat.lt_of_lt_of_le hz1b g2.size
  have HG := hid (grew_trans g0 g02)
  have HO := hid o2
  have hR : w.heap.size ≤ W1b.heap.size := (grew_trans g0 (grew_trans g1 g1b)).size
  have HVA := hid (valid51_any _ g W2 hn (HV.out.grew HG.out))
  have HZ := hid (fun (W : World) (h : Grew W2 W) => res_gr hR HO.out HG.out h (.int .i64 0) (.slice none 0 0))
  obtain ⟨vb, hb⟩ : ∃ b, valid g = b := ⟨_, rfl⟩
  have hr : renA g a b = if vb then (if isTh a && isTh b then (⟨g.n, renM g.ms a b⟩, 0) else (⟨0, []⟩, 2)) else (⟨0, []⟩, 70) := by unfold renA; rw [hb]
  rw [hr]
  rw [hb] at HVA
  clear hr o2 k0 k1 j0 i0 g0 g1 g2 g1b g12 g02
  have HBA := hid (fun W => between_any 0 a 2 W)
  have HBB := hid (fun W => between_any 0 b 2 W)
  have hta : (decide ((0 : Int) ≤ a) && decide (a ≤ 2)) = isTh a := rfl
  have htb : (decide ((0 : Int) ≤ b) && decide (b ≤ 2)) = isTh b := rfl
  rw [hta] at HBA
  rw [htb] at HBB
  obtain ⟨qa, hqa⟩ : ∃ q, isTh a = q := ⟨_, rfl⟩
  obtain ⟨qb, hqb⟩ : ∃ q, isTh b = q := ⟨_, rfl⟩
  rw [hqa] at HBA
  rw [hqb] at HBB
  rw [hqa, hqb]
  clear hta htb hqa hqb
  cases vb with
  | false =>
    simp only [Bool.false_eq_true, if_false]
    clear hb
    go_enter Try.func37, Try.ntmps37
    go_wp2_with (go_at_call 51; (with_reducible refine HVA.out.mono ?_); rintro e w1 ⟨rfl, hx⟩; obtain ⟨e0, e1, f0, f1, hzR⟩ := res_facts HO.out hx; obtain ⟨F, hF, c0, c1, hgF, _⟩ := HZ.out w1 hx; have HF := hid hF; clear hx hF)
    rw [HF.out]
    exact bodyPost_ret (results_gr2 rfl rfl rfl c0 c1) rfl ⟨_, rfl, hgF, isGr_zero _⟩
  | true =>
    simp only [if_true]
    have H20 := hid (valid_20 hb)
    clear hb
    cases qa with
    | false =>
      simp only [Bool.false_and, Bool.false_eq_true, if_false]
      go_enter Try.func37, Try.ntmps37
      go_wp2_with (first
        | (go_at_call 51; (with_reducible refine HVA.out.mono ?_); rintro e w1 ⟨rfl, hx⟩; have HX := hid hx; have x0 := (hx.cell (p := ⟨w.heap.size, 0, none⟩) hzr).trans K0; have x1 := (hx.cell (p := ⟨w.heap.size, 1, none⟩) hzr).trans K1; have x2 := (hx.cell (p := ⟨W0.heap.size, 0, none⟩) hz1r).trans J0; have x3 := (hx.cell (p := ⟨W1.heap.size, 0, none⟩) hz1br).trans I0; clear hx)
        | (go_at_call 63; (with_reducible refine (HBA.out _).mono ?_); rintro e w2 ⟨rfl, hy⟩; have hx := grew_trans HX.out hy; obtain ⟨e0, e1, f0, f1, hzR⟩ := res_facts HO.out hx; obtain ⟨F, hF, c0, c1, hgF, _⟩ := HZ.out w2 hx; have HF := hid hF; clear hx hF hy))
      rw [HF.out]
      exact bodyPost_ret (results_gr2 rfl rfl rfl c0 c1) rfl ⟨_, rfl, hgF, isGr_zero _⟩
    | true =>
      cases qb with
      | false =>
        simp only [Bool.and_false, Bool.false_eq_true, if_false]
        go_enter Try.func37, Try.ntmps37
        go_wp2_with (first
          | (go_at_call 51; (with_reducible refine HVA.out.mono ?_); rintro e w1 ⟨rfl, hx⟩; have HX := hid hx; have x0 := (hx.cell (p := ⟨w.heap.size, 0, none⟩) hzr).trans K0; have x1 := (hx.cell (p := ⟨w.heap.size, 1, none⟩) hzr).trans K1; have x2 := (hx.cell (p := ⟨W0.heap.size, 0, none⟩) hz1r).trans J0; have x3 := (hx.cell (p := ⟨W1.heap.size, 0, none⟩) hz1br).trans I0; clear hx)
          | (go_at_call 63; (with_reducible refine (HBA.out _).mono ?_); rintro e w2 ⟨rfl, hy⟩; have HY := hid (grew_trans HX.out hy); have y3 := (hy.cell (p := ⟨W1.heap.size, 0, none⟩) (Nat.lt_of_lt_of_le hz1br HX.out.size)).trans x3; clear hy)
          | (go_at_call 63; (with_reducible refine (HBB.out _).mono ?_); rintro e w3 ⟨rfl, hy⟩; have hx := grew_trans HY.out hy; obtain ⟨e0, e1, f0, f1, hzR⟩ := res_facts HO.out hx; obtain ⟨F, hF, c0, c1, hgF, _⟩ := HZ.out w3 hx; have HF := hid hF; clear hx hF hy))
        rw [HF.out]
        exact bodyPost_ret (results_gr2 rfl rfl rfl c0 c1) rfl ⟨_, rfl, hgF, isGr_zero _⟩
      | true =>
        simp only [Bool.and_true, if_true]
        have HCH := hid (fun (W : World) (h : Grew W2 W) => changed76_any (.agg #[.int .i64 g.n, .slice va n vc]) g 77 #[.pointer (some ⟨W0.heap.size, 0, none⟩), .pointer (some ⟨W1.heap.size, 0, none⟩)] (fun _ m => (ren a b m, true)) W H20.out (HV.out.grew (grew_trans HG.out h)) (fun _ _ => by kernel_rfl) (fun W' hW' k m _ => tell77_any (k : Int) a b m W0.heap.size W1.heap.size W' (((grew_trans h hW').cell (p := ⟨W0.heap.size, 0, none⟩) hz1r).trans J0) (((grew_trans h hW').cell (p := ⟨W1.heap.size, 0, none⟩) hz1br).trans I0)))
        go_enter Try.func37, Try.ntmps37
        go_wp2_with (first
          | (go_at_call 51; (with_reducible refine HVA.out.mono ?_); rintro e w1 ⟨rfl, hx⟩; have HX := hid hx; have x0 := (hx.cell (p := ⟨w.heap.size, 0, none⟩) hzr).trans K0; have x1 := (hx.cell (p := ⟨w.heap.size, 1, none⟩) hzr).trans K1; have x2 := (hx.cell (p := ⟨W0.heap.size, 0, none⟩) hz1r).trans J0; have x3 := (hx.cell (p := ⟨W1.heap.size, 0, none⟩) hz1br).trans I0; clear hx)
          | (go_at_call 63; (with_reducible refine (HBA.out _).mono ?_); rintro e w2 ⟨rfl, hy⟩; have HY := hid (grew_trans HX.out hy); have y0 := (hy.cell (p := ⟨w.heap.size, 0, none⟩) (Nat.lt_of_lt_of_le hzr HX.out.size)).trans x0; have y1 := (hy.cell (p := ⟨w.heap.size, 1, none⟩) (Nat.lt_of_lt_of_le hzr HX.out.size)).trans x1; have y3 := (hy.cell (p := ⟨W1.heap.size, 0, none⟩) (Nat.lt_of_lt_of_le hz1br HX.out.size)).trans x3; clear hy)
          | (go_at_call 63; (with_reducible refine (HBB.out _).mono ?_); rintro e w3 ⟨rfl, hy⟩; have HXB := hid (grew_trans HY.out hy); have z0 := (hy.cell (p := ⟨w.heap.size, 0, none⟩) (Nat.lt_of_lt_of_le hzr HY.out.size)).trans y0; have z1 := (hy.cell (p := ⟨w.heap.size, 1, none⟩) (Nat.lt_of_lt_of_le hzr HY.out.size)).trans y1; clear hy)
          | (go_at_call 76; (with_reducible refine (HCH.out _ HXB.out).mono ?_); rintro e w4 ⟨s2, rfl, hy, hs⟩; have hxy := grew_trans HXB.out hy; obtain ⟨e0, e1, f0, f1, hzR⟩ := res_facts HO.out hxy; obtain ⟨F, hF, c0, c1, hgF, hkF⟩ := res_gr hR HO.out HG.out hxy (.int .i64 g.n) s2; have HF := hid hF; have HSF := hid (hs.keeps hkF (fun k o hk _ e => by have h1 := (hs.own k hk).1; have h2 := lt_of_obj HO.out; have h3 := HXB.out.size; omega)); obtain ⟨sa, nl, sc, rfl⟩ := shape2 hs; clear hy hxy hs hkF hF))
        rw [HF.out]
        exact bodyPost_ret (results_gr2 rfl rfl rfl c0 c1) rfl ⟨_, rfl, hgF, _, rfl, mvs_of_seg HSF.out rfl⟩
end Go.Proofs.Ytojkohpniokaaaa
