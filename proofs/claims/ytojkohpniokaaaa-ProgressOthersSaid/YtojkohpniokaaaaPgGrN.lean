/- Walks: Without, Only, Renamed of both, with the moves in new blocks. Printed from PgChange2 and PgRef9. -/
import Derived.Test.YtojkohpniokaaaaPgRef9
namespace Go.Proofs.Ytojkohpniokaaaa
open Go Go.RowKit Go.Lin Go.Lin.Pg
attribute [local go_sem] run_store_func run_store_nilFunc

/-- A graph whose moves lie in new blocks. -/
def GrNew (B : Nat) (w : World) (v : Value) (g : Gr) : Prop := ∃ s, v = .agg #[.int .i64 g.n, s] ∧ Seg w B 50 4 s g.ms.length (cellsM g.ms)
theorem GrNew.gr {B : Nat} {w : World} {v : Value} {g : Gr} (h : GrNew B w v g) : IsGr w v g := let ⟨s, h1, h2⟩ := h; ⟨s, h1, mvs_of_seg h2 rfl⟩
theorem grNew_zero (B : Nat) (w : World) : GrNew B w (.agg #[.int .i64 0, .slice none 0 0]) ⟨0, []⟩ := ⟨_, rfl, Seg.nil _ _ _ _⟩

set_option maxHeartbeats 2000000 in
set_option maxRecDepth 20000 in
theorem without41_new (v : Value) (g : Gr) (i : Int) (w : World) (hn : -9223372036854775808 ≤ g.n ∧ g.n ≤ 9223372036854775807) (hv : IsGr w v g) :
    Calls Try.prog 41 #[v, .int .i64 i] w fun e w' => ∃ u, e = .returned (.tuple #[u, .int .i64 (withoutA g i).2]) ∧ Grew w w' ∧ GrNew w.heap.size w' u (withoutA g i).1 := by
  have HV := hid hv
  obtain ⟨s, rfl, hmv⟩ := hv
  obtain ⟨n, hn'⟩ : ∃ n, g.ms.length = n := ⟨_, rfl⟩
  obtain ⟨va, vc, rfl, ⟨hm1, hm2⟩, -⟩ := hmv
  rw [hn'] at hm1 hm2 HV ⊢
  have HN := hid hn'
  obtain ⟨W0, hW0, g0, k0, k1, hz⟩ := box2 w (.int .i64 g.n) (.slice va n vc) 24
  obtain ⟨W1, hW1, g1, j0, hz1⟩ := box1 W0 (.int .i64 i) 3
  obtain ⟨W2, hW2⟩ : ∃ W2, W1.alloc (.cells #[.int .i64 0, .slice none 0 0] 24) = W2 := ⟨_, rfl⟩
  have g2 : Grew W1 W2 := by rw [← hW2]; exact grew_alloc (grew_refl _) _
  have o2 : W2.heap[W1.heap.size]? = some (.cells #[.int .i64 0, .slice none 0 0] 24 (0, 0)) := by rw [← hW2]; exact heap_alloc_new W1 _
  have K0 := ((grew_trans g1 g2).cell (p := ⟨w.heap.size, 0, none⟩) hz).trans k0
  have K1 := ((grew_trans g1 g2).cell (p := ⟨w.heap.size, 1, none⟩) hz).trans k1
  have J0 := (g2.cell (p := ⟨W0.heap.size, 0, none⟩) hz1).trans j0
  have hzr := Nat.lt_of_lt_of_le hz (grew_trans g1 g2).size
  have hz1r := Nat.lt_of_lt_of_le hz1 g2.size
  have HG := hid (grew_trans g0 (grew_trans g1 g2))
  have HO := hid o2
  have hR : w.heap.size ≤ W1.heap.size := (grew_trans g0 g1).size
  have HVA := hid (valid51_any _ g W2 hn (HV.out.grew HG.out))
  have HZ := hid (fun (W : World) (h : Grew W2 W) => res_gr hR HO.out HG.out h (.int .i64 0) (.slice none 0 0))
  obtain ⟨b, hb⟩ : ∃ b, valid g = b := ⟨_, rfl⟩
  have hr : withoutA g i = if b then (if decide (0 ≤ i) && decide (i < (n : Int)) then (⟨g.n, withoutM g.ms i⟩, 0) else (⟨0, []⟩, 2)) else (⟨0, []⟩, 70) := by unfold withoutA; rw [hb, HN.out]
  rw [hr]
  rw [hb] at HVA
  clear hr o2 k0 k1 j0 g0 g1 g2
  cases b with
  | false =>
    simp only [Bool.false_eq_true, if_false]
    clear hb
    go_enter Try.func41, Try.ntmps41
    go_wp2_with (go_at_call 51; (with_reducible refine HVA.out.mono ?_); rintro e w1 ⟨rfl, hx⟩; obtain ⟨e0, e1, f0, f1, hzR⟩ := res_facts HO.out hx; obtain ⟨F, hF, c0, c1, hgF, _⟩ := HZ.out w1 hx; have HF := hid hF; clear hx hF)
    rw [HF.out]
    exact bodyPost_ret (results_gr2 rfl rfl rfl c0 c1) rfl ⟨_, rfl, hgF, grNew_zero _ _⟩
  | true =>
    simp only [if_true]
    have H20 := hid (valid_20 hb)
    clear hb
    by_cases hi : 0 ≤ i ∧ i < (n : Int)
    · rw [show (decide (0 ≤ i) && decide (i < (n : Int))) = true by simp [hi.1, hi.2]]
      simp only [if_true]
      obtain ⟨hi0, hi1⟩ := hi
      have hd1 : decide (i < 0) = false := decide_eq_false (by omega)
      have hd2 : decide (i ≥ (n : Int)) = false := decide_eq_false (by omega)
      have HCH := hid (fun (W : World) (h : Grew W2 W) => changed76_any (.agg #[.int .i64 g.n, .slice va n vc]) g 79 #[.pointer (some ⟨W0.heap.size, 0, none⟩)] (fun k m => (m, (k : Int) != i)) W H20.out (HV.out.grew (grew_trans HG.out h)) (fun _ _ => by kernel_rfl) (fun W' hW' k m _ => tell79_any (k : Int) i m W0.heap.size W' (((grew_trans h hW').cell (p := ⟨W0.heap.size, 0, none⟩) hz1r).trans J0)))
      go_enter Try.func41, Try.ntmps41
      go_wp2_with (first
        | (go_at_call 51; (with_reducible refine HVA.out.mono ?_); rintro e w1 ⟨rfl, hx⟩; have HX := hid hx; have x0 := (hx.cell (p := ⟨w.heap.size, 0, none⟩) hzr).trans K0; have x1 := (hx.cell (p := ⟨w.heap.size, 1, none⟩) hzr).trans K1; have x2 := (hx.cell (p := ⟨W0.heap.size, 0, none⟩) hz1r).trans J0; clear hx)
        | (go_at_call 76; (with_reducible refine (HCH.out _ HX.out).mono ?_); rintro e w2 ⟨s2, rfl, hy, hs⟩; have hxy := grew_trans HX.out hy; obtain ⟨e0, e1, f0, f1, hzR⟩ := res_facts HO.out hxy; obtain ⟨F, hF, c0, c1, hgF, hkF⟩ := res_gr hR HO.out HG.out hxy (.int .i64 g.n) s2; have HF := hid hF; have HSF := hid (hs.keeps hkF (fun k o hk _ e => by have h1 := (hs.own k hk).1; have h2 := lt_of_obj HO.out; have h3 := HX.out.size; omega)); obtain ⟨sa, nl, sc, rfl⟩ := shape2 hs; clear hy hxy hs hkF hF))
      rw [HF.out]
      exact bodyPost_ret (results_gr2 rfl rfl rfl c0 c1) rfl ⟨_, rfl, hgF, _, rfl, HSF.out.mono (grew_trans HG.out HX.out).size⟩
    · rw [show (decide (0 ≤ i) && decide (i < (n : Int))) = false by simpa using hi]
      simp only [Bool.false_eq_true, if_false]
      by_cases hi0 : i < 0
      · go_enter Try.func41, Try.ntmps41
        go_wp2_with (go_at_call 51; (with_reducible refine HVA.out.mono ?_); rintro e w1 ⟨rfl, hx⟩; have x0 := (hx.cell (p := ⟨w.heap.size, 0, none⟩) hzr).trans K0; have x1 := (hx.cell (p := ⟨w.heap.size, 1, none⟩) hzr).trans K1; have x2 := (hx.cell (p := ⟨W0.heap.size, 0, none⟩) hz1r).trans J0; obtain ⟨e0, e1, f0, f1, hzR⟩ := res_facts HO.out hx; obtain ⟨F, hF, c0, c1, hgF, _⟩ := HZ.out w1 hx; have HF := hid hF; clear hx hF)
        rw [HF.out]
        exact bodyPost_ret (results_gr2 rfl rfl rfl c0 c1) rfl ⟨_, rfl, hgF, grNew_zero _ _⟩
      · have hi1 : i ≥ (n : Int) := by omega
        have hd1 : decide (i < 0) = false := decide_eq_false (by omega)
        clear hi
        go_enter Try.func41, Try.ntmps41
        go_wp2_with (go_at_call 51; (with_reducible refine HVA.out.mono ?_); rintro e w1 ⟨rfl, hx⟩; have x0 := (hx.cell (p := ⟨w.heap.size, 0, none⟩) hzr).trans K0; have x1 := (hx.cell (p := ⟨w.heap.size, 1, none⟩) hzr).trans K1; have x2 := (hx.cell (p := ⟨W0.heap.size, 0, none⟩) hz1r).trans J0; obtain ⟨e0, e1, f0, f1, hzR⟩ := res_facts HO.out hx; obtain ⟨F, hF, c0, c1, hgF, _⟩ := HZ.out w1 hx; have HF := hid hF; clear hx hF)
        rw [HF.out]
        exact bodyPost_ret (results_gr2 rfl rfl rfl c0 c1) rfl ⟨_, rfl, hgF, grNew_zero _ _⟩

set_option maxHeartbeats 2000000 in
set_option maxRecDepth 20000 in
theorem only40_new (v : Value) (g : Gr) (i : Int) (w : World) (hn : -9223372036854775808 ≤ g.n ∧ g.n ≤ 9223372036854775807) (hv : IsGr w v g) :
    Calls Try.prog 40 #[v, .int .i64 i] w fun e w' => ∃ u, e = .returned (.tuple #[u, .int .i64 (onlyA g i).2]) ∧ Grew w w' ∧ GrNew w.heap.size w' u (onlyA g i).1 := by
  have HV := hid hv
  obtain ⟨s, rfl, hmv⟩ := hv
  obtain ⟨n, hn'⟩ : ∃ n, g.ms.length = n := ⟨_, rfl⟩
  obtain ⟨va, vc, rfl, ⟨hm1, hm2⟩, -⟩ := hmv
  rw [hn'] at hm1 hm2 HV ⊢
  have HN := hid hn'
  obtain ⟨W0, hW0, g0, k0, k1, hz⟩ := box2 w (.int .i64 g.n) (.slice va n vc) 24
  obtain ⟨W1, hW1, g1, j0, hz1⟩ := box1 W0 (.int .i64 i) 3
  obtain ⟨W2, hW2⟩ : ∃ W2, W1.alloc (.cells #[.int .i64 0, .slice none 0 0] 24) = W2 := ⟨_, rfl⟩
  have g2 : Grew W1 W2 := by rw [← hW2]; exact grew_alloc (grew_refl _) _
  have o2 : W2.heap[W1.heap.size]? = some (.cells #[.int .i64 0, .slice none 0 0] 24 (0, 0)) := by rw [← hW2]; exact heap_alloc_new W1 _
  have K0 := ((grew_trans g1 g2).cell (p := ⟨w.heap.size, 0, none⟩) hz).trans k0
  have K1 := ((grew_trans g1 g2).cell (p := ⟨w.heap.size, 1, none⟩) hz).trans k1
  have J0 := (g2.cell (p := ⟨W0.heap.size, 0, none⟩) hz1).trans j0
  have hzr := Nat.lt_of_lt_of_le hz (grew_trans g1 g2).size
  have hz1r := Nat.lt_of_lt_of_le hz1 g2.size
  have HG := hid (grew_trans g0 (grew_trans g1 g2))
  have HO := hid o2
  have hR : w.heap.size ≤ W1.heap.size := (grew_trans g0 g1).size
  have HVA := hid (valid51_any _ g W2 hn (HV.out.grew HG.out))
  have HZ := hid (fun (W : World) (h : Grew W2 W) => res_gr hR HO.out HG.out h (.int .i64 0) (.slice none 0 0))
  obtain ⟨b, hb⟩ : ∃ b, valid g = b := ⟨_, rfl⟩
  have hr : onlyA g i = if b then (if isTh i then (⟨g.n, onlyM g.ms i⟩, 0) else (⟨0, []⟩, 2)) else (⟨0, []⟩, 70) := by unfold onlyA; rw [hb]
  rw [hr]
  rw [hb] at HVA
  clear hr o2 k0 k1 j0 g0 g1 g2
  cases b with
  | false =>
    simp only [Bool.false_eq_true, if_false]
    clear hb
    go_enter Try.func40, Try.ntmps40
    go_wp2_with (go_at_call 51; (with_reducible refine HVA.out.mono ?_); rintro e w1 ⟨rfl, hx⟩; obtain ⟨e0, e1, f0, f1, hzR⟩ := res_facts HO.out hx; obtain ⟨F, hF, c0, c1, hgF, _⟩ := HZ.out w1 hx; have HF := hid hF; clear hx hF)
    rw [HF.out]
    exact bodyPost_ret (results_gr2 rfl rfl rfl c0 c1) rfl ⟨_, rfl, hgF, grNew_zero _ _⟩
  | true =>
    simp only [if_true]
    have H20 := hid (valid_20 hb)
    clear hb
    have HB := hid (fun W => between_any 0 i 2 W)
    have hth : (decide ((0 : Int) ≤ i) && decide (i ≤ 2)) = isTh i := rfl
    rw [hth] at HB
    obtain ⟨q, hq⟩ : ∃ q, isTh i = q := ⟨_, rfl⟩
    rw [hq] at HB
    rw [hq]
    clear hth hq
    cases q with
    | true =>
      simp only [if_true]
      have HCH := hid (fun (W : World) (h : Grew W2 W) => changed76_any (.agg #[.int .i64 g.n, .slice va n vc]) g 78 #[.pointer (some ⟨W0.heap.size, 0, none⟩)] (fun _ m => (m, th m == i)) W H20.out (HV.out.grew (grew_trans HG.out h)) (fun _ _ => by kernel_rfl) (fun W' hW' k m _ => tell78_any (k : Int) i m W0.heap.size W' (((grew_trans h hW').cell (p := ⟨W0.heap.size, 0, none⟩) hz1r).trans J0)))
      go_enter Try.func40, Try.ntmps40
      go_wp2_with (first
        | (go_at_call 51; (with_reducible refine HVA.out.mono ?_); rintro e w1 ⟨rfl, hx⟩; have HX := hid hx; have x0 := (hx.cell (p := ⟨w.heap.size, 0, none⟩) hzr).trans K0; have x1 := (hx.cell (p := ⟨w.heap.size, 1, none⟩) hzr).trans K1; have x2 := (hx.cell (p := ⟨W0.heap.size, 0, none⟩) hz1r).trans J0; clear hx)
        | (go_at_call 63; (with_reducible refine (HB.out _).mono ?_); rintro e w1b ⟨rfl, hx⟩; have HXB := hid (grew_trans HX.out hx); have y0 := (hx.cell (p := ⟨w.heap.size, 0, none⟩) (Nat.lt_of_lt_of_le hzr HX.out.size)).trans x0; have y1 := (hx.cell (p := ⟨w.heap.size, 1, none⟩) (Nat.lt_of_lt_of_le hzr HX.out.size)).trans x1; have y2 := (hx.cell (p := ⟨W0.heap.size, 0, none⟩) (Nat.lt_of_lt_of_le hz1r HX.out.size)).trans x2; clear hx)
        | (go_at_call 76; (with_reducible refine (HCH.out _ HXB.out).mono ?_); rintro e w2 ⟨s2, rfl, hy, hs⟩; have hxy := grew_trans HXB.out hy; obtain ⟨e0, e1, f0, f1, hzR⟩ := res_facts HO.out hxy; obtain ⟨F, hF, c0, c1, hgF, hkF⟩ := res_gr hR HO.out HG.out hxy (.int .i64 g.n) s2; have HF := hid hF; have HSF := hid (hs.keeps hkF (fun k o hk _ e => by have h1 := (hs.own k hk).1; have h2 := lt_of_obj HO.out; have h3 := HXB.out.size; omega)); obtain ⟨sa, nl, sc, rfl⟩ := shape2 hs; clear hy hxy hs hkF hF))
      rw [HF.out]
      exact bodyPost_ret (results_gr2 rfl rfl rfl c0 c1) rfl ⟨_, rfl, hgF, _, rfl, HSF.out.mono (grew_trans HG.out HXB.out).size⟩
    | false =>
      simp only [Bool.false_eq_true, if_false]
      go_enter Try.func40, Try.ntmps40
      go_wp2_with (first
        | (go_at_call 51; (with_reducible refine HVA.out.mono ?_); rintro e w1 ⟨rfl, hx⟩; have HX := hid hx; have x0 := (hx.cell (p := ⟨w.heap.size, 0, none⟩) hzr).trans K0; have x1 := (hx.cell (p := ⟨w.heap.size, 1, none⟩) hzr).trans K1; have x2 := (hx.cell (p := ⟨W0.heap.size, 0, none⟩) hz1r).trans J0; clear hx)
        | (go_at_call 63; (with_reducible refine (HB.out _).mono ?_); rintro e w2 ⟨rfl, hy⟩; have hx := grew_trans HX.out hy; obtain ⟨e0, e1, f0, f1, hzR⟩ := res_facts HO.out hx; obtain ⟨F, hF, c0, c1, hgF, _⟩ := HZ.out w2 hx; have HF := hid hF; clear hx hF hy))
      rw [HF.out]
      exact bodyPost_ret (results_gr2 rfl rfl rfl c0 c1) rfl ⟨_, rfl, hgF, grNew_zero _ _⟩



set_option maxHeartbeats 2000000 in
set_option maxRecDepth 20000 in
theorem renamed37_new (v : Value) (g : Gr) (a b : Int) (w : World) (hn : -9223372036854775808 ≤ g.n ∧ g.n ≤ 9223372036854775807) (hv : IsGr w v g) :
    Calls Try.prog 37 #[v, .int .i64 a, .int .i64 b] w fun e w' => ∃ u, e = .returned (.tuple #[u, .int .i64 (renA g a b).2]) ∧ Grew w w' ∧ GrNew w.heap.size w' u (renA g a b).1 := by
  have HV := hid hv
  obtain ⟨s, rfl, hmv⟩ := hv
  obtain ⟨n, hn'⟩ : ∃ n, g.ms.length = n := ⟨_, rfl⟩
  obtain ⟨va, vc, rfl, ⟨hm1, hm2⟩, -⟩ := hmv
  rw [hn'] at hm1 hm2 HV ⊢
  have HN := hid hn'
  obtain ⟨W0, hW0, g0, k0, k1, hz⟩ := box2 w (.int .i64 g.n) (.slice va n vc) 24
  obtain ⟨W1, hW1, g1, j0, hz1⟩ := box1 W0 (.int .i64 a) 3
  obtain ⟨W1b, hW1b, g1b, i0, hz1b⟩ := box1 W1 (.int .i64 b) 3
  obtain ⟨W2, hW2⟩ : ∃ W2, W1b.alloc (.cells #[.int .i64 0, .slice none 0 0] 24) = W2 := ⟨_, rfl⟩
  have g2 : Grew W1b W2 := by rw [← hW2]; exact grew_alloc (grew_refl _) _
  have o2 : W2.heap[W1b.heap.size]? = some (.cells #[.int .i64 0, .slice none 0 0] 24 (0, 0)) := by rw [← hW2]; exact heap_alloc_new W1b _
  have g12 := grew_trans g1b g2
  have g02 := grew_trans g1 g12
  have K0 := (g02.cell (p := ⟨w.heap.size, 0, none⟩) hz).trans k0
  have K1 := (g02.cell (p := ⟨w.heap.size, 1, none⟩) hz).trans k1
  have J0 := (g12.cell (p := ⟨W0.heap.size, 0, none⟩) hz1).trans j0
  have I0 := (g2.cell (p := ⟨W1.heap.size, 0, none⟩) hz1b).trans i0
  have hzr := Nat.lt_of_lt_of_le hz g02.size
  have hz1r := Nat.lt_of_lt_of_le hz1 g12.size
  have hz1br := Nat.lt_of_lt_of_le hz1b g2.size
  have HG := hid (grew_trans g0 g02)
  have HO := hid o2
  have hR : w.heap.size ≤ W1b.heap.size := (grew_trans g0 (grew_trans g1 g1b)).size
  have HVA := hid (valid51_any _ g W2 hn (HV.out.grew HG.out))
  have HZ := hid (fun (W : World) (h : Grew W2 W) => res_gr hR HO.out HG.out h (.int .i64 0) (.slice none 0 0))
  obtain ⟨vb, hb⟩ : ∃ b, valid g = b := ⟨_, rfl⟩
  have hr : renA g a b = if vb then (if isTh a && isTh b then (⟨g.n, renM g.ms a b⟩, 0) else (⟨0, []⟩, 2)) else (⟨0, []⟩, 70) := by unfold renA; rw [hb]
  rw [hr]
  rw [hb] at HVA
  clear hr o2 k0 k1 j0 i0 g0 g1 g2 g1b g12 g02
  have HBA := hid (fun W => between_any 0 a 2 W)
  have HBB := hid (fun W => between_any 0 b 2 W)
  have hta : (decide ((0 : Int) ≤ a) && decide (a ≤ 2)) = isTh a := rfl
  have htb : (decide ((0 : Int) ≤ b) && decide (b ≤ 2)) = isTh b := rfl
  rw [hta] at HBA
  rw [htb] at HBB
  obtain ⟨qa, hqa⟩ : ∃ q, isTh a = q := ⟨_, rfl⟩
  obtain ⟨qb, hqb⟩ : ∃ q, isTh b = q := ⟨_, rfl⟩
  rw [hqa] at HBA
  rw [hqb] at HBB
  rw [hqa, hqb]
  clear hta htb hqa hqb
  cases vb with
  | false =>
    simp only [Bool.false_eq_true, if_false]
    clear hb
    go_enter Try.func37, Try.ntmps37
    go_wp2_with (go_at_call 51; (with_reducible refine HVA.out.mono ?_); rintro e w1 ⟨rfl, hx⟩; obtain ⟨e0, e1, f0, f1, hzR⟩ := res_facts HO.out hx; obtain ⟨F, hF, c0, c1, hgF, _⟩ := HZ.out w1 hx; have HF := hid hF; clear hx hF)
    rw [HF.out]
    exact bodyPost_ret (results_gr2 rfl rfl rfl c0 c1) rfl ⟨_, rfl, hgF, grNew_zero _ _⟩
  | true =>
    simp only [if_true]
    have H20 := hid (valid_20 hb)
    clear hb
    cases qa with
    | false =>
      simp only [Bool.false_and, Bool.false_eq_true, if_false]
      go_enter Try.func37, Try.ntmps37
      go_wp2_with (first
        | (go_at_call 51; (with_reducible refine HVA.out.mono ?_); rintro e w1 ⟨rfl, hx⟩; have HX := hid hx; have x0 := (hx.cell (p := ⟨w.heap.size, 0, none⟩) hzr).trans K0; have x1 := (hx.cell (p := ⟨w.heap.size, 1, none⟩) hzr).trans K1; have x2 := (hx.cell (p := ⟨W0.heap.size, 0, none⟩) hz1r).trans J0; have x3 := (hx.cell (p := ⟨W1.heap.size, 0, none⟩) hz1br).trans I0; clear hx)
        | (go_at_call 63; (with_reducible refine (HBA.out _).mono ?_); rintro e w2 ⟨rfl, hy⟩; have hx := grew_trans HX.out hy; obtain ⟨e0, e1, f0, f1, hzR⟩ := res_facts HO.out hx; obtain ⟨F, hF, c0, c1, hgF, _⟩ := HZ.out w2 hx; have HF := hid hF; clear hx hF hy))
      rw [HF.out]
      exact bodyPost_ret (results_gr2 rfl rfl rfl c0 c1) rfl ⟨_, rfl, hgF, grNew_zero _ _⟩
    | true =>
      cases qb with
      | false =>
        simp only [Bool.and_false, Bool.false_eq_true, if_false]
        go_enter Try.func37, Try.ntmps37
        go_wp2_with (first
          | (go_at_call 51; (with_reducible refine HVA.out.mono ?_); rintro e w1 ⟨rfl, hx⟩; have HX := hid hx; have x0 := (hx.cell (p := ⟨w.heap.size, 0, none⟩) hzr).trans K0; have x1 := (hx.cell (p := ⟨w.heap.size, 1, none⟩) hzr).trans K1; have x2 := (hx.cell (p := ⟨W0.heap.size, 0, none⟩) hz1r).trans J0; have x3 := (hx.cell (p := ⟨W1.heap.size, 0, none⟩) hz1br).trans I0; clear hx)
          | (go_at_call 63; (with_reducible refine (HBA.out _).mono ?_); rintro e w2 ⟨rfl, hy⟩; have HY := hid (grew_trans HX.out hy); have y3 := (hy.cell (p := ⟨W1.heap.size, 0, none⟩) (Nat.lt_of_lt_of_le hz1br HX.out.size)).trans x3; clear hy)
          | (go_at_call 63; (with_reducible refine (HBB.out _).mono ?_); rintro e w3 ⟨rfl, hy⟩; have hx := grew_trans HY.out hy; obtain ⟨e0, e1, f0, f1, hzR⟩ := res_facts HO.out hx; obtain ⟨F, hF, c0, c1, hgF, _⟩ := HZ.out w3 hx; have HF := hid hF; clear hx hF hy))
        rw [HF.out]
        exact bodyPost_ret (results_gr2 rfl rfl rfl c0 c1) rfl ⟨_, rfl, hgF, grNew_zero _ _⟩
      | true =>
        simp only [Bool.and_true, if_true]
        have HCH := hid (fun (W : World) (h : Grew W2 W) => changed76_any (.agg #[.int .i64 g.n, .slice va n vc]) g 77 #[.pointer (some ⟨W0.heap.size, 0, none⟩), .pointer (some ⟨W1.heap.size, 0, none⟩)] (fun _ m => (ren a b m, true)) W H20.out (HV.out.grew (grew_trans HG.out h)) (fun _ _ => by kernel_rfl) (fun W' hW' k m _ => tell77_any (k : Int) a b m W0.heap.size W1.heap.size W' (((grew_trans h hW').cell (p := ⟨W0.heap.size, 0, none⟩) hz1r).trans J0) (((grew_trans h hW').cell (p := ⟨W1.heap.size, 0, none⟩) hz1br).trans I0)))
        go_enter Try.func37, Try.ntmps37
        go_wp2_with (first
          | (go_at_call 51; (with_reducible refine HVA.out.mono ?_); rintro e w1 ⟨rfl, hx⟩; have HX := hid hx; have x0 := (hx.cell (p := ⟨w.heap.size, 0, none⟩) hzr).trans K0; have x1 := (hx.cell (p := ⟨w.heap.size, 1, none⟩) hzr).trans K1; have x2 := (hx.cell (p := ⟨W0.heap.size, 0, none⟩) hz1r).trans J0; have x3 := (hx.cell (p := ⟨W1.heap.size, 0, none⟩) hz1br).trans I0; clear hx)
          | (go_at_call 63; (with_reducible refine (HBA.out _).mono ?_); rintro e w2 ⟨rfl, hy⟩; have HY := hid (grew_trans HX.out hy); have y0 := (hy.cell (p := ⟨w.heap.size, 0, none⟩) (Nat.lt_of_lt_of_le hzr HX.out.size)).trans x0; have y1 := (hy.cell (p := ⟨w.heap.size, 1, none⟩) (Nat.lt_of_lt_of_le hzr HX.out.size)).trans x1; have y3 := (hy.cell (p := ⟨W1.heap.size, 0, none⟩) (Nat.lt_of_lt_of_le hz1br HX.out.size)).trans x3; clear hy)
          | (go_at_call 63; (with_reducible refine (HBB.out _).mono ?_); rintro e w3 ⟨rfl, hy⟩; have HXB := hid (grew_trans HY.out hy); have z0 := (hy.cell (p := ⟨w.heap.size, 0, none⟩) (Nat.lt_of_lt_of_le hzr HY.out.size)).trans y0; have z1 := (hy.cell (p := ⟨w.heap.size, 1, none⟩) (Nat.lt_of_lt_of_le hzr HY.out.size)).trans y1; clear hy)
          | (go_at_call 76; (with_reducible refine (HCH.out _ HXB.out).mono ?_); rintro e w4 ⟨s2, rfl, hy, hs⟩; have hxy := grew_trans HXB.out hy; obtain ⟨e0, e1, f0, f1, hzR⟩ := res_facts HO.out hxy; obtain ⟨F, hF, c0, c1, hgF, hkF⟩ := res_gr hR HO.out HG.out hxy (.int .i64 g.n) s2; have HF := hid hF; have HSF := hid (hs.keeps hkF (fun k o hk _ e => by have h1 := (hs.own k hk).1; have h2 := lt_of_obj HO.out; have h3 := HXB.out.size; omega)); obtain ⟨sa, nl, sc, rfl⟩ := shape2 hs; clear hy hxy hs hkF hF))
        rw [HF.out]
        exact bodyPost_ret (results_gr2 rfl rfl rfl c0 c1) rfl ⟨_, rfl, hgF, _, rfl, HSF.out.mono (grew_trans HG.out HXB.out).size⟩

set_option maxHeartbeats 4000000 in
set_option maxRecDepth 20000 in
theorem rWithout48_new (v : Value) (g : Gr) (i : Int) (w : World) (hv : IsGr w v g) :
    Calls Try.prog 48 #[v, .int .i64 i] w fun e w' => ∃ u, e = .returned (.tuple #[u, .int .i64 (withoutA g i).2]) ∧ Grew w w' ∧ GrNew w.heap.size w' u (withoutA g i).1 := by
  have HV := hid hv
  obtain ⟨s, rfl, hmv⟩ := hv
  obtain ⟨n, hn'⟩ : ∃ n, g.ms.length = n := ⟨_, rfl⟩
  obtain ⟨va, vc, rfl, ⟨hm1, hm2⟩, hmvs⟩ := hmv
  rw [hn'] at hm1 hm2 HV ⊢
  have HN := hid hn'; have HMVS := hid hmvs
  clear hmvs
  obtain ⟨W0, hW0, g0, k0, k1, hz⟩ := box2 w (.int .i64 g.n) (.slice va n vc) 24
  obtain ⟨W1, hW1⟩ : ∃ W1, W0.alloc (.cells #[.int .i64 0, .slice none 0 0] 24) = W1 := ⟨_, rfl⟩
  have g1 : Grew W0 W1 := by rw [← hW1]; exact grew_alloc (grew_refl _) _
  have o1 : W1.heap[W0.heap.size]? = some (.cells #[.int .i64 0, .slice none 0 0] 24 (0, 0)) := by rw [← hW1]; exact heap_alloc_new W0 _
  have K0 := (g1.cell (p := ⟨w.heap.size, 0, none⟩) hz).trans k0
  have K1 := (g1.cell (p := ⟨w.heap.size, 1, none⟩) hz).trans k1
  have hzr := Nat.lt_of_lt_of_le hz g1.size
  have HG := hid (grew_trans g0 g1)
  have HO := hid o1
  have hR : w.heap.size ≤ W0.heap.size := g0.size
  have HVA := hid (rValid16_any _ g W1 (HV.out.grew HG.out))
  have HZ := hid (fun (W : World) (h : Grew W1 W) => res_gr hR HO.out HG.out h (.int .i64 0) (.slice none 0 0))
  obtain ⟨vb, hb⟩ : ∃ b, valid g = b := ⟨_, rfl⟩
  rw [hb] at HVA
  have HVB := hid hb
  clear o1 k0 k1 g0 g1 hn'
  cases vb with
  | false =>
    have he : withoutA g i = (⟨0, []⟩, 70) := by unfold withoutA; rw [hb]; rfl
    rw [he]
    clear hb he
    go_enter Try.func48, Try.ntmps48
    go_wp2_with (go_at_call 16; (with_reducible refine HVA.out.mono ?_); rintro e w1 ⟨rfl, hx⟩; obtain ⟨e0, e1, f0, f1, hzR⟩ := res_facts HO.out hx; obtain ⟨F, hF, c0, c1, hgF, _⟩ := HZ.out w1 hx; have HF := hid hF; clear hx hF)
    rw [HF.out]
    exact bodyPost_ret (results_gr2 rfl rfl rfl c0 c1) rfl ⟨_, rfl, hgF, grNew_zero _ _⟩
  | true =>
    have hn20 : n ≤ 20 := by have h := valid_20 hb; rw [HN.out] at h; exact h
    clear hb
    have HC1 := hid (fun (W : World) (h : Grew w W) => isMove83_any (.agg #[.int .i64 g.n, .slice va n vc]) g i W (HV.out.grew h))
    obtain ⟨c1, hc1⟩ : ∃ bb : Bool, (mvI g.ms i).isSome = bb := ⟨_, rfl⟩
    rw [hc1] at HC1
    have HCE1 := hid hc1
    clear hc1
    cases c1 with
    | false =>
      have he : withoutA g i = (⟨0, []⟩, 2) := by unfold withoutA; rw [HVB.out, move_dec HCE1.out]; rfl
      rw [he]
      clear he
      go_enter Try.func48, Try.ntmps48
      go_wp2_with (first
        | (go_at_call 16; (with_reducible refine HVA.out.mono ?_); rintro e w1 ⟨rfl, hx⟩; have HX1 := hid hx; have x0 := (hx.cell (p := ⟨w.heap.size, 0, none⟩) hzr).trans K0; have x1 := (hx.cell (p := ⟨w.heap.size, 1, none⟩) hzr).trans K1; have hy1 := Nat.lt_of_lt_of_le hzr hx.size; clear hx)
        | (go_at_call 83; (with_reducible refine (HC1.out _ (grew_trans HG.out HX1.out)).mono ?_); rintro e w2 ⟨rfl, hy⟩; have hx := grew_trans HX1.out hy; obtain ⟨e0, e1, f0, f1, hzR⟩ := res_facts HO.out hx; obtain ⟨F, hF, d0, d1, hgF, _⟩ := HZ.out w2 hx; have HF := hid hF; clear hx hF hy))
      rw [HF.out]
      exact bodyPost_ret (results_gr2 rfl rfl rfl d0 d1) rfl ⟨_, rfl, hgF, grNew_zero _ _⟩
    | true =>
      have he : withoutA g i = (⟨g.n, withoutM g.ms i⟩, 0) := by unfold withoutA; rw [HVB.out, move_dec HCE1.out]; rfl
      rw [he]
      clear he
      obtain ⟨tell, htell⟩ : ∃ tell : Nat → Mv → Mv × Bool, tell = (fun (k : Nat) (m : Mv) => (m, ((k : Int) != i))) := ⟨_, rfl⟩
      have HTL := hid htell
      have HMM := hid (show withoutM g.ms i = chgM tell g.ms n by rw [htell, ← HN.out]; rfl)
      clear htell
      go_enter Try.func48, Try.ntmps48
      go_wp2_with (first
        | (go_at_call 16; (with_reducible refine HVA.out.mono ?_); rintro e w1 ⟨rfl, hx⟩; have HX1 := hid hx; have x0 := (hx.cell (p := ⟨w.heap.size, 0, none⟩) hzr).trans K0; have x1 := (hx.cell (p := ⟨w.heap.size, 1, none⟩) hzr).trans K1; have hy1 := Nat.lt_of_lt_of_le hzr hx.size; clear hx)
        | (go_at_call 83; (with_reducible refine (HC1.out _ (grew_trans HG.out HX1.out)).mono ?_); rintro e w2 ⟨rfl, hx⟩; have HX2 := hid (grew_trans HX1.out hx); have x0 := (hx.cell (p := ⟨w.heap.size, 0, none⟩) hy1).trans x0; have x1 := (hx.cell (p := ⟨w.heap.size, 1, none⟩) hy1).trans x1; have hy2 := Nat.lt_of_lt_of_le hy1 hx.size; obtain ⟨X2, hX2, gx2, t0, t1, hzx2⟩ := box2 w2 (.int .i64 g.n) (.slice none 0 0) 24; have ox2 : X2.heap[w2.heap.size]? = some (.cells #[.int .i64 g.n, .slice none 0 0] 24 (0, 0)) := (by rw [← hX2]; exact heap_alloc_new w2 _); obtain ⟨X3, hX3⟩ : ∃ X3, X2.setCell ⟨w2.heap.size, 1, none⟩ (.slice none 0 0) = X3 := ⟨_, rfl⟩; have ox3 : X3.heap[w2.heap.size]? = some (.cells #[.int .i64 g.n, .slice none 0 0] 24 (0, 0)) := (by rw [← hX3]; exact setCell_row2 ox2 _); have gx3 : Below w2.heap.size w2 X3 := (by rw [← hX3]; exact (gx2 : Below w2.heap.size w2 X2).trans ((keeps_setB X2 w2.heap.size 1 _).below (Nat.le_of_lt hzx2) (fun k _ e => by rw [e]; exact Nat.le_refl _))); have qq1 := frozen_obj ox2 1; have y1 := (gx3.cell (p := ⟨w.heap.size, 1, none⟩) hy2).trans x1; have HOX := hid ox3; have HGX := hid gx3; have hzX := Nat.lt_of_lt_of_le hy2 gx3.size; clear ox2 ox3 gx3 gx2 hx))
      have HY1 := hid y1
      have HWK := hid (grew_trans HG.out HX2.out)
      have hRB : W0.heap.size < w2.heap.size := Nat.lt_of_lt_of_le (lt_of_obj HO.out) HX2.out.size
      have HB0 : Hid (Built w2.heap.size g.n [] (.slice none 0 0) X3) := hid ⟨HOX.out, Seg.nil _ _ _ _⟩
      clear y1 x0 x1 K0 K1 t0 t1 qq1
      go_loopg [7, 8, 24] n (fun k _ _ i wr => ∃ (j : Nat) (lv : Value), j ≤ n ∧ i = .int .i64 (j : Int) ∧ Hid (k = n - j) ∧ Hid (Grew w2 wr) ∧ Hid (Built w2.heap.size g.n (chgM tell g.ms j) lv wr))
      case atStart => exact ⟨0, _, Nat.zero_le _, rfl, hid rfl, HGX, HB0⟩
      case round =>
        clear HB0
        obtain ⟨j, lv, hj, rfl, HK, HGR, HB⟩ := hrel
        rename World => wr
        have HGW := hid (grew_trans HWK.out HGR.out)
        obtain ⟨la, lc, rfl, _⟩ := HB.out.seg.shape
        obtain ⟨ln, hln⟩ : ∃ ln, (chgM tell g.ms j).length = ln := ⟨_, rfl⟩
        have HLN := hid hln
        have hln20 : ln ≤ 20 := by have := chgM_len tell g.ms j; omega
        rw [hln] at HB
        clear hln
        by_cases hlt : j < n
        · obtain ⟨x, hx⟩ : ∃ x, g.ms[j]? = some x := ⟨_, List.getElem?_eq_getElem (by rw [HN.out]; exact hlt)⟩
          obtain ⟨bb, boff, rfl, hpa⟩ := HMVS.out j x hx
          have hpa2 := hpa.grew hpa.lt HGW.out
          have p0 := hpa2.c0
          have p1 := hpa2.c1
          have p2 := hpa2.c2
          have p3 := hpa2.c3
          have hplt := hpa2.lt
          obtain ⟨Y1, hY1, e1, hb1⟩ := box4v wr x
          have l0 := hb1.c0
          have l1 := hb1.c1
          have l2 := hb1.c2
          have l3 := hb1.c3
          have hzy := hb1.lt
          have oy1 : Y1.heap[wr.heap.size]? = some (.cells #[.int .i64 x.1, .int .i64 x.2.1, .int .i64 x.2.2.1, .bool x.2.2.2] 50 (0, 0)) := by rw [← hY1]; exact heap_alloc_new wr _
          have HE1 := hid e1
          have HBY := hid (HB.out.grew e1)
          have q0 : Y1.cell? ⟨w2.heap.size, 0, none⟩ = some (.int .i64 g.n) := cell_of_row _ _ _ _ _ _ HBY.out.row
          have q1 : Y1.cell? ⟨w2.heap.size, 1, none⟩ = some _ := cell_of_row _ _ _ _ _ _ HBY.out.row
          have hzt := lt_of_obj HBY.out.row
          have hta := tellAt_some (tell := tell) hx
          have hjn : (j : Int) < (n : Int) := by omega
          have HLT := hid hlt
          rw [HTL.out] at hta
          obtain ⟨y1, y2, y3, y4⟩ := x
          simp only [Nat.zero_add] at p0 p1 p2 p3 l0 l1 l2 l3 hY1 hta
          obtain ⟨tb, htb⟩ : ∃ b, ((j : Int) != i) = b := ⟨_, rfl⟩
          have htb2 : ((j : Int) == i) = !tb := by rw [← htb]; simp [bne]
          rw [htb] at hta
          clear hx hpa hpa2 hb1 e1 oy1
          cases tb with
          | false =>
            have HTA := hid (show chgM tell g.ms (j + 1) = chgM tell g.ms j by show chgM tell g.ms j ++ tellAt tell g.ms j = _; rw [HTL.out, hta]; simp)
            clear hta
            go_wp2
            go_roundg (n - (j + 1))
            case measure => have := HK.out; have := HLT.out; omega
            case rel => exact ⟨j + 1, _, by have := HLT.out; omega, by have := HLT.out; go_num, hid rfl, hid (grew_trans HGR.out HE1.out), hid (by rw [HTA.out]; exact HBY.out)⟩
          | true =>
            have HTA := hid (show chgM tell g.ms (j + 1) = chgM tell g.ms j ++ [(y1, y2, y3, y4)] by show chgM tell g.ms j ++ tellAt tell g.ms j = _; rw [HTL.out, hta]; simp)
            clear hta
            go_wp2_with (at_builtin; refine wpList_append_lit rfl _ _ 22 rfl (w2.heap.size + 1) 50 Try.underlying22 Try.info50 rfl (by decide) (.slice la ln lc) ln _ rfl (by have h := HBY.out.seg; rw [HLN.out] at h; exact h) [.int .i64 y1, .int .i64 y2, .int .i64 y3, .bool y4] 50 1 rfl rfl (by simp [Value.oneCell']) (by omega) (by omega) ?_; intro v9 w9 hown9 hgrow9 hblk9; rw [← HLN.out] at hown9; obtain ⟨r1, r2, r3⟩ := HBY.out.add (m := (y1, y2, y3, y4)) hown9 (grew_alloc (grew_refl _) _) hgrow9; have HR1 := hid r1; have HR2 := hid r2; obtain ⟨qa, qc, rfl, _⟩ := hown9.shape; have t9 : w9.cell? ⟨w2.heap.size, 1, none⟩ = some _ := cell_of_row _ _ _ _ _ _ r3; have f9 := frozen_obj r3 1; clear hown9 hgrow9 hblk9 r1 r2 r3)
            go_roundg (n - (j + 1))
            case measure => have := HK.out; have := HLT.out; omega
            case rel => exact ⟨j + 1, _, by have := HLT.out; omega, by have := HLT.out; go_num, hid rfl, hid ((grew_trans HGR.out HE1.out).trans HR2.out), hid (by rw [HTA.out]; exact HR1.out)⟩
        · obtain rfl : j = n := by omega
          have t0 : wr.cell? ⟨w2.heap.size, 0, none⟩ = some (.int .i64 g.n) := cell_of_row _ _ _ _ _ _ HB.out.row
          have t1 : wr.cell? ⟨w2.heap.size, 1, none⟩ = some _ := cell_of_row _ _ _ _ _ _ HB.out.row
          have hztB := lt_of_obj HB.out.row
          have hxy := grew_trans HX2.out HGR.out
          obtain ⟨e0, e1, f0, f1, hzR⟩ := res_facts HO.out hxy
          obtain ⟨F, hF, d0, d1, hgF, hkF⟩ := res_gr hR HO.out HG.out hxy (.int .i64 g.n) (.slice la ln lc)
          have HF := hid hF
          have HSF := hid (HB.out.seg.keeps hkF (fun k o hk _ e => by have h1 := (HB.out.seg.own k hk).1; omega))
          clear hxy hF hkF
          go_wp2
          rw [HF.out]
          exact bodyPost_ret (results_gr2 rfl rfl rfl d0 d1) rfl ⟨_, rfl, hgF, _, rfl, by rw [HMM.out]; exact HSF.out.mono (Nat.le_succ_of_le HWK.out.size)⟩


set_option maxHeartbeats 4000000 in
set_option maxRecDepth 20000 in
theorem rOnly50_new (v : Value) (g : Gr) (i : Int) (w : World) (hv : IsGr w v g) :
    Calls Try.prog 50 #[v, .int .i64 i] w fun e w' => ∃ u, e = .returned (.tuple #[u, .int .i64 (onlyA g i).2]) ∧ Grew w w' ∧ GrNew w.heap.size w' u (onlyA g i).1 := by
  have HV := hid hv
  obtain ⟨s, rfl, hmv⟩ := hv
  obtain ⟨n, hn'⟩ : ∃ n, g.ms.length = n := ⟨_, rfl⟩
  obtain ⟨va, vc, rfl, ⟨hm1, hm2⟩, hmvs⟩ := hmv
  rw [hn'] at hm1 hm2 HV ⊢
  have HN := hid hn'; have HMVS := hid hmvs
  clear hmvs
  obtain ⟨W0, hW0, g0, k0, k1, hz⟩ := box2 w (.int .i64 g.n) (.slice va n vc) 24
  obtain ⟨W1, hW1⟩ : ∃ W1, W0.alloc (.cells #[.int .i64 0, .slice none 0 0] 24) = W1 := ⟨_, rfl⟩
  have g1 : Grew W0 W1 := by rw [← hW1]; exact grew_alloc (grew_refl _) _
  have o1 : W1.heap[W0.heap.size]? = some (.cells #[.int .i64 0, .slice none 0 0] 24 (0, 0)) := by rw [← hW1]; exact heap_alloc_new W0 _
  have K0 := (g1.cell (p := ⟨w.heap.size, 0, none⟩) hz).trans k0
  have K1 := (g1.cell (p := ⟨w.heap.size, 1, none⟩) hz).trans k1
  have hzr := Nat.lt_of_lt_of_le hz g1.size
  have HG := hid (grew_trans g0 g1)
  have HO := hid o1
  have hR : w.heap.size ≤ W0.heap.size := g0.size
  have HVA := hid (rValid16_any _ g W1 (HV.out.grew HG.out))
  have HZ := hid (fun (W : World) (h : Grew W1 W) => res_gr hR HO.out HG.out h (.int .i64 0) (.slice none 0 0))
  obtain ⟨vb, hb⟩ : ∃ b, valid g = b := ⟨_, rfl⟩
  rw [hb] at HVA
  have HVB := hid hb
  clear o1 k0 k1 g0 g1 hn'
  cases vb with
  | false =>
    have he : onlyA g i = (⟨0, []⟩, 70) := by unfold onlyA; rw [hb]; rfl
    rw [he]
    clear hb he
    go_enter Try.func50, Try.ntmps50
    go_wp2_with (go_at_call 16; (with_reducible refine HVA.out.mono ?_); rintro e w1 ⟨rfl, hx⟩; obtain ⟨e0, e1, f0, f1, hzR⟩ := res_facts HO.out hx; obtain ⟨F, hF, c0, c1, hgF, _⟩ := HZ.out w1 hx; have HF := hid hF; clear hx hF)
    rw [HF.out]
    exact bodyPost_ret (results_gr2 rfl rfl rfl c0 c1) rfl ⟨_, rfl, hgF, grNew_zero _ _⟩
  | true =>
    have hn20 : n ≤ 20 := by have h := valid_20 hb; rw [HN.out] at h; exact h
    clear hb
    have HC1 := hid (fun (W : World) (h : Grew w W) => (fun _ => isTh_any i W) h)
    obtain ⟨c1, hc1⟩ : ∃ bb : Bool, isTh i = bb := ⟨_, rfl⟩
    rw [hc1] at HC1
    have HCE1 := hid hc1
    clear hc1
    cases c1 with
    | false =>
      have he : onlyA g i = (⟨0, []⟩, 2) := by unfold onlyA; rw [HVB.out, HCE1.out]; rfl
      rw [he]
      clear he
      go_enter Try.func50, Try.ntmps50
      go_wp2_with (first
        | (go_at_call 16; (with_reducible refine HVA.out.mono ?_); rintro e w1 ⟨rfl, hx⟩; have HX1 := hid hx; have x0 := (hx.cell (p := ⟨w.heap.size, 0, none⟩) hzr).trans K0; have x1 := (hx.cell (p := ⟨w.heap.size, 1, none⟩) hzr).trans K1; have hy1 := Nat.lt_of_lt_of_le hzr hx.size; clear hx)
        | (go_at_call 57; (with_reducible refine (HC1.out _ (grew_trans HG.out HX1.out)).mono ?_); rintro e w2 ⟨rfl, hy⟩; have hx := grew_trans HX1.out hy; obtain ⟨e0, e1, f0, f1, hzR⟩ := res_facts HO.out hx; obtain ⟨F, hF, d0, d1, hgF, _⟩ := HZ.out w2 hx; have HF := hid hF; clear hx hF hy))
      rw [HF.out]
      exact bodyPost_ret (results_gr2 rfl rfl rfl d0 d1) rfl ⟨_, rfl, hgF, grNew_zero _ _⟩
    | true =>
      have he : onlyA g i = (⟨g.n, onlyM g.ms i⟩, 0) := by unfold onlyA; rw [HVB.out, HCE1.out]; rfl
      rw [he]
      clear he
      obtain ⟨tell, htell⟩ : ∃ tell : Nat → Mv → Mv × Bool, tell = (fun (_ : Nat) (m : Mv) => (m, (th m == i))) := ⟨_, rfl⟩
      have HTL := hid htell
      have HMM := hid (show onlyM g.ms i = chgM tell g.ms n by rw [htell, ← HN.out]; rfl)
      clear htell
      go_enter Try.func50, Try.ntmps50
      go_wp2_with (first
        | (go_at_call 16; (with_reducible refine HVA.out.mono ?_); rintro e w1 ⟨rfl, hx⟩; have HX1 := hid hx; have x0 := (hx.cell (p := ⟨w.heap.size, 0, none⟩) hzr).trans K0; have x1 := (hx.cell (p := ⟨w.heap.size, 1, none⟩) hzr).trans K1; have hy1 := Nat.lt_of_lt_of_le hzr hx.size; clear hx)
        | (go_at_call 57; (with_reducible refine (HC1.out _ (grew_trans HG.out HX1.out)).mono ?_); rintro e w2 ⟨rfl, hx⟩; have HX2 := hid (grew_trans HX1.out hx); have x0 := (hx.cell (p := ⟨w.heap.size, 0, none⟩) hy1).trans x0; have x1 := (hx.cell (p := ⟨w.heap.size, 1, none⟩) hy1).trans x1; have hy2 := Nat.lt_of_lt_of_le hy1 hx.size; obtain ⟨X2, hX2, gx2, t0, t1, hzx2⟩ := box2 w2 (.int .i64 g.n) (.slice none 0 0) 24; have ox2 : X2.heap[w2.heap.size]? = some (.cells #[.int .i64 g.n, .slice none 0 0] 24 (0, 0)) := (by rw [← hX2]; exact heap_alloc_new w2 _); obtain ⟨X3, hX3⟩ : ∃ X3, X2.setCell ⟨w2.heap.size, 1, none⟩ (.slice none 0 0) = X3 := ⟨_, rfl⟩; have ox3 : X3.heap[w2.heap.size]? = some (.cells #[.int .i64 g.n, .slice none 0 0] 24 (0, 0)) := (by rw [← hX3]; exact setCell_row2 ox2 _); have gx3 : Below w2.heap.size w2 X3 := (by rw [← hX3]; exact (gx2 : Below w2.heap.size w2 X2).trans ((keeps_setB X2 w2.heap.size 1 _).below (Nat.le_of_lt hzx2) (fun k _ e => by rw [e]; exact Nat.le_refl _))); have qq1 := frozen_obj ox2 1; have y1 := (gx3.cell (p := ⟨w.heap.size, 1, none⟩) hy2).trans x1; have HOX := hid ox3; have HGX := hid gx3; have hzX := Nat.lt_of_lt_of_le hy2 gx3.size; clear ox2 ox3 gx3 gx2 hx))
      have HY1 := hid y1
      have HWK := hid (grew_trans HG.out HX2.out)
      have hRB : W0.heap.size < w2.heap.size := Nat.lt_of_lt_of_le (lt_of_obj HO.out) HX2.out.size
      have HB0 : Hid (Built w2.heap.size g.n [] (.slice none 0 0) X3) := hid ⟨HOX.out, Seg.nil _ _ _ _⟩
      clear y1 x0 x1 K0 K1 t0 t1 qq1
      go_loopg [8, 23] n (fun k _ i wr => ∃ (j : Nat) (lv : Value), j ≤ n ∧ i = .int .i64 (j : Int) ∧ Hid (k = n - j) ∧ Hid (Grew w2 wr) ∧ Hid (Built w2.heap.size g.n (chgM tell g.ms j) lv wr))
      case atStart => exact ⟨0, _, Nat.zero_le _, rfl, hid rfl, HGX, HB0⟩
      case round =>
        clear HB0
        obtain ⟨j, lv, hj, rfl, HK, HGR, HB⟩ := hrel
        rename World => wr
        have HGW := hid (grew_trans HWK.out HGR.out)
        obtain ⟨la, lc, rfl, _⟩ := HB.out.seg.shape
        obtain ⟨ln, hln⟩ : ∃ ln, (chgM tell g.ms j).length = ln := ⟨_, rfl⟩
        have HLN := hid hln
        have hln20 : ln ≤ 20 := by have := chgM_len tell g.ms j; omega
        rw [hln] at HB
        clear hln
        by_cases hlt : j < n
        · obtain ⟨x, hx⟩ : ∃ x, g.ms[j]? = some x := ⟨_, List.getElem?_eq_getElem (by rw [HN.out]; exact hlt)⟩
          obtain ⟨bb, boff, rfl, hpa⟩ := HMVS.out j x hx
          have hpa2 := hpa.grew hpa.lt HGW.out
          have p0 := hpa2.c0
          have p1 := hpa2.c1
          have p2 := hpa2.c2
          have p3 := hpa2.c3
          have hplt := hpa2.lt
          obtain ⟨Y1, hY1, e1, hb1⟩ := box4v wr x
          have l0 := hb1.c0
          have l1 := hb1.c1
          have l2 := hb1.c2
          have l3 := hb1.c3
          have hzy := hb1.lt
          have oy1 : Y1.heap[wr.heap.size]? = some (.cells #[.int .i64 x.1, .int .i64 x.2.1, .int .i64 x.2.2.1, .bool x.2.2.2] 50 (0, 0)) := by rw [← hY1]; exact heap_alloc_new wr _
          have HE1 := hid e1
          have HBY := hid (HB.out.grew e1)
          have q0 : Y1.cell? ⟨w2.heap.size, 0, none⟩ = some (.int .i64 g.n) := cell_of_row _ _ _ _ _ _ HBY.out.row
          have q1 : Y1.cell? ⟨w2.heap.size, 1, none⟩ = some _ := cell_of_row _ _ _ _ _ _ HBY.out.row
          have hzt := lt_of_obj HBY.out.row
          have hta := tellAt_some (tell := tell) hx
          have hjn : (j : Int) < (n : Int) := by omega
          have HLT := hid hlt
          rw [HTL.out] at hta
          obtain ⟨y1, y2, y3, y4⟩ := x
          simp only [Nat.zero_add, th] at p0 p1 p2 p3 l0 l1 l2 l3 hY1 hta
          obtain ⟨tb, htb⟩ : ∃ b, (y2 == i) = b := ⟨_, rfl⟩
          have htb2 : (y2 != i) = !tb := by rw [← htb]; simp [bne]
          rw [htb] at hta
          clear hx hpa hpa2 hb1 e1 oy1
          cases tb with
          | false =>
            have HTA := hid (show chgM tell g.ms (j + 1) = chgM tell g.ms j by show chgM tell g.ms j ++ tellAt tell g.ms j = _; rw [HTL.out, hta]; simp)
            clear hta
            go_wp2
            go_roundg (n - (j + 1))
            case measure => have := HK.out; have := HLT.out; omega
            case rel => exact ⟨j + 1, _, by have := HLT.out; omega, by have := HLT.out; go_num, hid rfl, hid (grew_trans HGR.out HE1.out), hid (by rw [HTA.out]; exact HBY.out)⟩
          | true =>
            have HTA := hid (show chgM tell g.ms (j + 1) = chgM tell g.ms j ++ [(y1, y2, y3, y4)] by show chgM tell g.ms j ++ tellAt tell g.ms j = _; rw [HTL.out, hta]; simp)
            clear hta
            go_wp2_with (at_builtin; refine wpList_append_lit rfl _ _ 22 rfl (w2.heap.size + 1) 50 Try.underlying22 Try.info50 rfl (by decide) (.slice la ln lc) ln _ rfl (by have h := HBY.out.seg; rw [HLN.out] at h; exact h) [.int .i64 y1, .int .i64 y2, .int .i64 y3, .bool y4] 50 1 rfl rfl (by simp [Value.oneCell']) (by omega) (by omega) ?_; intro v9 w9 hown9 hgrow9 hblk9; rw [← HLN.out] at hown9; obtain ⟨r1, r2, r3⟩ := HBY.out.add (m := (y1, y2, y3, y4)) hown9 (grew_alloc (grew_refl _) _) hgrow9; have HR1 := hid r1; have HR2 := hid r2; obtain ⟨qa, qc, rfl, _⟩ := hown9.shape; have t9 : w9.cell? ⟨w2.heap.size, 1, none⟩ = some _ := cell_of_row _ _ _ _ _ _ r3; have f9 := frozen_obj r3 1; clear hown9 hgrow9 hblk9 r1 r2 r3)
            go_roundg (n - (j + 1))
            case measure => have := HK.out; have := HLT.out; omega
            case rel => exact ⟨j + 1, _, by have := HLT.out; omega, by have := HLT.out; go_num, hid rfl, hid ((grew_trans HGR.out HE1.out).trans HR2.out), hid (by rw [HTA.out]; exact HR1.out)⟩
        · obtain rfl : j = n := by omega
          have t0 : wr.cell? ⟨w2.heap.size, 0, none⟩ = some (.int .i64 g.n) := cell_of_row _ _ _ _ _ _ HB.out.row
          have t1 : wr.cell? ⟨w2.heap.size, 1, none⟩ = some _ := cell_of_row _ _ _ _ _ _ HB.out.row
          have hztB := lt_of_obj HB.out.row
          have hxy := grew_trans HX2.out HGR.out
          obtain ⟨e0, e1, f0, f1, hzR⟩ := res_facts HO.out hxy
          obtain ⟨F, hF, d0, d1, hgF, hkF⟩ := res_gr hR HO.out HG.out hxy (.int .i64 g.n) (.slice la ln lc)
          have HF := hid hF
          have HSF := hid (HB.out.seg.keeps hkF (fun k o hk _ e => by have h1 := (HB.out.seg.own k hk).1; omega))
          clear hxy hF hkF
          go_wp2
          rw [HF.out]
          exact bodyPost_ret (results_gr2 rfl rfl rfl d0 d1) rfl ⟨_, rfl, hgF, _, rfl, by rw [HMM.out]; exact HSF.out.mono (Nat.le_succ_of_le HWK.out.size)⟩


set_option maxHeartbeats 4000000 in
set_option maxRecDepth 20000 in
theorem rRenamed49_new (v : Value) (g : Gr) (a b : Int) (w : World) (hv : IsGr w v g) :
    Calls Try.prog 49 #[v, .int .i64 a, .int .i64 b] w fun e w' => ∃ u, e = .returned (.tuple #[u, .int .i64 (renA g a b).2]) ∧ Grew w w' ∧ GrNew w.heap.size w' u (renA g a b).1 := by
  have HV := hid hv
  obtain ⟨s, rfl, hmv⟩ := hv
  obtain ⟨n, hn'⟩ : ∃ n, g.ms.length = n := ⟨_, rfl⟩
  obtain ⟨va, vc, rfl, ⟨hm1, hm2⟩, hmvs⟩ := hmv
  rw [hn'] at hm1 hm2 HV ⊢
  have HN := hid hn'; have HMVS := hid hmvs
  clear hmvs
  obtain ⟨W0, hW0, g0, k0, k1, hz⟩ := box2 w (.int .i64 g.n) (.slice va n vc) 24
  obtain ⟨W1, hW1⟩ : ∃ W1, W0.alloc (.cells #[.int .i64 0, .slice none 0 0] 24) = W1 := ⟨_, rfl⟩
  have g1 : Grew W0 W1 := by rw [← hW1]; exact grew_alloc (grew_refl _) _
  have o1 : W1.heap[W0.heap.size]? = some (.cells #[.int .i64 0, .slice none 0 0] 24 (0, 0)) := by rw [← hW1]; exact heap_alloc_new W0 _
  have K0 := (g1.cell (p := ⟨w.heap.size, 0, none⟩) hz).trans k0
  have K1 := (g1.cell (p := ⟨w.heap.size, 1, none⟩) hz).trans k1
  have hzr := Nat.lt_of_lt_of_le hz g1.size
  have HG := hid (grew_trans g0 g1)
  have HO := hid o1
  have hR : w.heap.size ≤ W0.heap.size := g0.size
  have HVA := hid (rValid16_any _ g W1 (HV.out.grew HG.out))
  have HZ := hid (fun (W : World) (h : Grew W1 W) => res_gr hR HO.out HG.out h (.int .i64 0) (.slice none 0 0))
  obtain ⟨vb, hb⟩ : ∃ b, valid g = b := ⟨_, rfl⟩
  rw [hb] at HVA
  have HVB := hid hb
  clear o1 k0 k1 g0 g1 hn'
  cases vb with
  | false =>
    have he : renA g a b = (⟨0, []⟩, 70) := by unfold renA; rw [hb]; rfl
    rw [he]
    clear hb he
    go_enter Try.func49, Try.ntmps49
    go_wp2_with (go_at_call 16; (with_reducible refine HVA.out.mono ?_); rintro e w1 ⟨rfl, hx⟩; obtain ⟨e0, e1, f0, f1, hzR⟩ := res_facts HO.out hx; obtain ⟨F, hF, c0, c1, hgF, _⟩ := HZ.out w1 hx; have HF := hid hF; clear hx hF)
    rw [HF.out]
    exact bodyPost_ret (results_gr2 rfl rfl rfl c0 c1) rfl ⟨_, rfl, hgF, grNew_zero _ _⟩
  | true =>
    have hn20 : n ≤ 20 := by have h := valid_20 hb; rw [HN.out] at h; exact h
    clear hb
    have HC1 := hid (fun (W : World) (h : Grew w W) => (fun _ => isTh_any a W) h)
    obtain ⟨c1, hc1⟩ : ∃ bb : Bool, isTh a = bb := ⟨_, rfl⟩
    rw [hc1] at HC1
    have HCE1 := hid hc1
    clear hc1
    cases c1 with
    | false =>
      have he : renA g a b = (⟨0, []⟩, 2) := by unfold renA; rw [HVB.out, HCE1.out]; rfl
      rw [he]
      clear he
      go_enter Try.func49, Try.ntmps49
      go_wp2_with (first
        | (go_at_call 16; (with_reducible refine HVA.out.mono ?_); rintro e w1 ⟨rfl, hx⟩; have HX1 := hid hx; have x0 := (hx.cell (p := ⟨w.heap.size, 0, none⟩) hzr).trans K0; have x1 := (hx.cell (p := ⟨w.heap.size, 1, none⟩) hzr).trans K1; have hy1 := Nat.lt_of_lt_of_le hzr hx.size; clear hx)
        | (go_at_call 57; (with_reducible refine (HC1.out _ (grew_trans HG.out HX1.out)).mono ?_); rintro e w2 ⟨rfl, hy⟩; have hx := grew_trans HX1.out hy; obtain ⟨e0, e1, f0, f1, hzR⟩ := res_facts HO.out hx; obtain ⟨F, hF, d0, d1, hgF, _⟩ := HZ.out w2 hx; have HF := hid hF; clear hx hF hy))
      rw [HF.out]
      exact bodyPost_ret (results_gr2 rfl rfl rfl d0 d1) rfl ⟨_, rfl, hgF, grNew_zero _ _⟩
    | true =>
      have HC2 := hid (fun (W : World) (h : Grew w W) => (fun _ => isTh_any b W) h)
      obtain ⟨c2, hc2⟩ : ∃ bb : Bool, isTh b = bb := ⟨_, rfl⟩
      rw [hc2] at HC2
      have HCE2 := hid hc2
      clear hc2
      cases c2 with
      | false =>
        have he : renA g a b = (⟨0, []⟩, 2) := by unfold renA; rw [HVB.out, HCE1.out, HCE2.out]; rfl
        rw [he]
        clear he
        go_enter Try.func49, Try.ntmps49
        go_wp2_with (first
          | (go_at_call 16; (with_reducible refine HVA.out.mono ?_); rintro e w1 ⟨rfl, hx⟩; have HX1 := hid hx; have x0 := (hx.cell (p := ⟨w.heap.size, 0, none⟩) hzr).trans K0; have x1 := (hx.cell (p := ⟨w.heap.size, 1, none⟩) hzr).trans K1; have hy1 := Nat.lt_of_lt_of_le hzr hx.size; clear hx)
          | (go_at_call 57; (with_reducible refine (HC1.out _ (grew_trans HG.out HX1.out)).mono ?_); rintro e w2 ⟨rfl, hx⟩; have HX2 := hid (grew_trans HX1.out hx); have x0 := (hx.cell (p := ⟨w.heap.size, 0, none⟩) hy1).trans x0; have x1 := (hx.cell (p := ⟨w.heap.size, 1, none⟩) hy1).trans x1; have hy2 := Nat.lt_of_lt_of_le hy1 hx.size; clear hx)
          | (go_at_call 57; (with_reducible refine (HC2.out _ (grew_trans HG.out HX2.out)).mono ?_); rintro e w3 ⟨rfl, hy⟩; have hx := grew_trans HX2.out hy; obtain ⟨e0, e1, f0, f1, hzR⟩ := res_facts HO.out hx; obtain ⟨F, hF, d0, d1, hgF, _⟩ := HZ.out w3 hx; have HF := hid hF; clear hx hF hy))
        rw [HF.out]
        exact bodyPost_ret (results_gr2 rfl rfl rfl d0 d1) rfl ⟨_, rfl, hgF, grNew_zero _ _⟩
      | true =>
        have he : renA g a b = (⟨g.n, renM g.ms a b⟩, 0) := by unfold renA; rw [HVB.out, HCE1.out, HCE2.out]; rfl
        rw [he]
        clear he
        obtain ⟨tell, htell⟩ : ∃ tell : Nat → Mv → Mv × Bool, tell = (fun (_ : Nat) (m : Mv) => (ren a b m, true)) := ⟨_, rfl⟩
        have HTL := hid htell
        have HMM := hid (show renM g.ms a b = chgM tell g.ms n by rw [htell, ← HN.out]; rfl)
        clear htell
        go_enter Try.func49, Try.ntmps49
        go_wp2_with (first
          | (go_at_call 16; (with_reducible refine HVA.out.mono ?_); rintro e w1 ⟨rfl, hx⟩; have HX1 := hid hx; have x0 := (hx.cell (p := ⟨w.heap.size, 0, none⟩) hzr).trans K0; have x1 := (hx.cell (p := ⟨w.heap.size, 1, none⟩) hzr).trans K1; have hy1 := Nat.lt_of_lt_of_le hzr hx.size; clear hx)
          | (go_at_call 57; (with_reducible refine (HC1.out _ (grew_trans HG.out HX1.out)).mono ?_); rintro e w2 ⟨rfl, hx⟩; have HX2 := hid (grew_trans HX1.out hx); have x0 := (hx.cell (p := ⟨w.heap.size, 0, none⟩) hy1).trans x0; have x1 := (hx.cell (p := ⟨w.heap.size, 1, none⟩) hy1).trans x1; have hy2 := Nat.lt_of_lt_of_le hy1 hx.size; clear hx)
          | (go_at_call 57; (with_reducible refine (HC2.out _ (grew_trans HG.out HX2.out)).mono ?_); rintro e w3 ⟨rfl, hx⟩; have HX3 := hid (grew_trans HX2.out hx); have x0 := (hx.cell (p := ⟨w.heap.size, 0, none⟩) hy2).trans x0; have x1 := (hx.cell (p := ⟨w.heap.size, 1, none⟩) hy2).trans x1; have hy3 := Nat.lt_of_lt_of_le hy2 hx.size; obtain ⟨X2, hX2, gx2, t0, t1, hzx2⟩ := box2 w3 (.int .i64 g.n) (.slice none 0 0) 24; have ox2 : X2.heap[w3.heap.size]? = some (.cells #[.int .i64 g.n, .slice none 0 0] 24 (0, 0)) := (by rw [← hX2]; exact heap_alloc_new w3 _); obtain ⟨X3, hX3⟩ : ∃ X3, X2.setCell ⟨w3.heap.size, 1, none⟩ (.slice none 0 0) = X3 := ⟨_, rfl⟩; have ox3 : X3.heap[w3.heap.size]? = some (.cells #[.int .i64 g.n, .slice none 0 0] 24 (0, 0)) := (by rw [← hX3]; exact setCell_row2 ox2 _); have gx3 : Below w3.heap.size w3 X3 := (by rw [← hX3]; exact (gx2 : Below w3.heap.size w3 X2).trans ((keeps_setB X2 w3.heap.size 1 _).below (Nat.le_of_lt hzx2) (fun k _ e => by rw [e]; exact Nat.le_refl _))); have qq1 := frozen_obj ox2 1; have y1 := (gx3.cell (p := ⟨w.heap.size, 1, none⟩) hy3).trans x1; have HOX := hid ox3; have HGX := hid gx3; have hzX := Nat.lt_of_lt_of_le hy3 gx3.size; clear ox2 ox3 gx3 gx2 hx))
        have HY1 := hid y1
        have HWK := hid (grew_trans HG.out HX3.out)
        have hRB : W0.heap.size < w3.heap.size := Nat.lt_of_lt_of_le (lt_of_obj HO.out) HX3.out.size
        have HB0 : Hid (Built w3.heap.size g.n [] (.slice none 0 0) X3) := hid ⟨HOX.out, Seg.nil _ _ _ _⟩
        clear y1 x0 x1 K0 K1 t0 t1 qq1
        go_loopg [10, 30] n (fun k _ i wr => ∃ (j : Nat) (lv : Value), j ≤ n ∧ i = .int .i64 (j : Int) ∧ Hid (k = n - j) ∧ Hid (Grew w3 wr) ∧ Hid (Built w3.heap.size g.n (chgM tell g.ms j) lv wr))
        case atStart => exact ⟨0, _, Nat.zero_le _, rfl, hid rfl, HGX, HB0⟩
        case round =>
          clear HB0
          obtain ⟨j, lv, hj, rfl, HK, HGR, HB⟩ := hrel
          rename World => wr
          have HGW := hid (grew_trans HWK.out HGR.out)
          obtain ⟨la, lc, rfl, _⟩ := HB.out.seg.shape
          obtain ⟨ln, hln⟩ : ∃ ln, (chgM tell g.ms j).length = ln := ⟨_, rfl⟩
          have HLN := hid hln
          have hln20 : ln ≤ 20 := by have := chgM_len tell g.ms j; omega
          rw [hln] at HB
          clear hln
          by_cases hlt : j < n
          · obtain ⟨x, hx⟩ : ∃ x, g.ms[j]? = some x := ⟨_, List.getElem?_eq_getElem (by rw [HN.out]; exact hlt)⟩
            obtain ⟨bb, boff, rfl, hpa⟩ := HMVS.out j x hx
            have hpa2 := hpa.grew hpa.lt HGW.out
            have p0 := hpa2.c0
            have p1 := hpa2.c1
            have p2 := hpa2.c2
            have p3 := hpa2.c3
            have hplt := hpa2.lt
            obtain ⟨Y1, hY1, e1, hb1⟩ := box4v wr x
            have l0 := hb1.c0
            have l1 := hb1.c1
            have l2 := hb1.c2
            have l3 := hb1.c3
            have hzy := hb1.lt
            have oy1 : Y1.heap[wr.heap.size]? = some (.cells #[.int .i64 x.1, .int .i64 x.2.1, .int .i64 x.2.2.1, .bool x.2.2.2] 50 (0, 0)) := by rw [← hY1]; exact heap_alloc_new wr _
            have HE1 := hid e1
            have HBY := hid (HB.out.grew e1)
            have q0 : Y1.cell? ⟨w3.heap.size, 0, none⟩ = some (.int .i64 g.n) := cell_of_row _ _ _ _ _ _ HBY.out.row
            have q1 : Y1.cell? ⟨w3.heap.size, 1, none⟩ = some _ := cell_of_row _ _ _ _ _ _ HBY.out.row
            have hzt := lt_of_obj HBY.out.row
            have hta := tellAt_some (tell := tell) hx
            have hjn : (j : Int) < (n : Int) := by omega
            have HLT := hid hlt
            rw [HTL.out] at hta
            obtain ⟨y1, z2, y3, y4⟩ := x
            simp only [Nat.zero_add] at p0 p1 p2 p3 l0 l1 l2 l3 hY1 hta oy1
            have HSW := hid (fun (W : World) => swapped39_any z2 a b W)
            obtain ⟨y2, hy2⟩ : ∃ y, swT a b z2 = y := ⟨_, rfl⟩
            rw [hy2] at HSW
            have hrr : ren a b (y1, z2, y3, y4) = (y1, y2, y3, y4) := by rw [← hy2]; rfl
            have HTA := hid (show chgM tell g.ms (j + 1) = chgM tell g.ms j ++ [(y1, y2, y3, y4)] by show chgM tell g.ms j ++ tellAt tell g.ms j = _; rw [HTL.out, hta, hrr]; simp)
            have HOY := hid oy1
            clear hx hpa hpa2 hb1 e1 oy1 hta hrr hy2 q0 q1
            go_wp2_with (first
              | (go_at_call 39; (with_reducible refine (HSW.out _).mono ?_); rintro e w5 ⟨rfl, hx5⟩; have oy5 := (hx5.block _ (lt_of_obj HOY.out)).trans HOY.out; have fy5 := frozen_obj oy5 1; have cy5 : w5.cell? ⟨wr.heap.size, 1, none⟩ = some (.int .i64 z2) := cell_of_row _ _ _ _ _ _ oy5; obtain ⟨Y2, hY2⟩ : ∃ Y2, w5.setCell ⟨wr.heap.size, 1, none⟩ (.int .i64 y2) = Y2 := ⟨_, rfl⟩; have oY2 : Y2.heap[wr.heap.size]? = some (.cells #[.int .i64 y1, .int .i64 y2, .int .i64 y3, .bool y4] 50 (0, 0)) := (by rw [← hY2]; simp [World.setCell, Array.getElem?_modify, oy5]); have kY2 : Keeps (fun k _ => k = wr.heap.size) w5 Y2 := (by rw [← hY2]; exact keeps_setB _ _ _ _); have gY2 : Grew wr Y2 := ((grew_trans HE1.out hx5 : Below wr.heap.size wr w5)).trans (kY2.below (grew_trans HE1.out hx5).size (fun k _ e => by rw [e]; exact Nat.le_refl _)); have m0 : Y2.cell? ⟨wr.heap.size, 0, none⟩ = some (.int .i64 y1) := cell_of_row _ _ _ _ _ _ oY2; have m1 : Y2.cell? ⟨wr.heap.size, 1, none⟩ = some (.int .i64 y2) := cell_of_row _ _ _ _ _ _ oY2; have m2 : Y2.cell? ⟨wr.heap.size, 2, none⟩ = some (.int .i64 y3) := cell_of_row _ _ _ _ _ _ oY2; have m3 : Y2.cell? ⟨wr.heap.size, 3, none⟩ = some (.bool y4) := cell_of_row _ _ _ _ _ _ oY2; have hzm := lt_of_obj oY2; have HBZ := hid (HB.out.grew gY2); have HGZ := hid gY2; have z0 : Y2.cell? ⟨w3.heap.size, 0, none⟩ = some (.int .i64 g.n) := cell_of_row _ _ _ _ _ _ HBZ.out.row; have z1 : Y2.cell? ⟨w3.heap.size, 1, none⟩ = some _ := cell_of_row _ _ _ _ _ _ HBZ.out.row; have hzt2 := lt_of_obj HBZ.out.row; clear hx5 oy5 oY2 kY2 gY2)
              | (at_builtin; refine wpList_append_lit rfl _ _ 22 rfl (w3.heap.size + 1) 50 Try.underlying22 Try.info50 rfl (by decide) (.slice la ln lc) ln _ rfl (by have h := HBZ.out.seg; rw [HLN.out] at h; exact h) [.int .i64 y1, .int .i64 y2, .int .i64 y3, .bool y4] 50 1 rfl rfl (by simp [Value.oneCell']) (by omega) (by omega) ?_; intro v9 w9 hown9 hgrow9 hblk9; rw [← HLN.out] at hown9; obtain ⟨r1, r2, r3⟩ := HBZ.out.add (m := (y1, y2, y3, y4)) hown9 (grew_alloc (grew_refl _) _) hgrow9; have HR1 := hid r1; have HR2 := hid r2; obtain ⟨qa, qc, rfl, _⟩ := hown9.shape; have t9 : w9.cell? ⟨w3.heap.size, 1, none⟩ = some _ := cell_of_row _ _ _ _ _ _ r3; have f9 := frozen_obj r3 1; clear hown9 hgrow9 hblk9 r1 r2 r3))
            go_roundg (n - (j + 1))
            case measure => have := HK.out; have := HLT.out; omega
            case rel => exact ⟨j + 1, _, by have := HLT.out; omega, by have := HLT.out; go_num, hid rfl, hid ((grew_trans HGR.out HGZ.out).trans HR2.out), hid (by rw [HTA.out]; exact HR1.out)⟩
          · obtain rfl : j = n := by omega
            have t0 : wr.cell? ⟨w3.heap.size, 0, none⟩ = some (.int .i64 g.n) := cell_of_row _ _ _ _ _ _ HB.out.row
            have t1 : wr.cell? ⟨w3.heap.size, 1, none⟩ = some _ := cell_of_row _ _ _ _ _ _ HB.out.row
            have hztB := lt_of_obj HB.out.row
            have hxy := grew_trans HX3.out HGR.out
            obtain ⟨e0, e1, f0, f1, hzR⟩ := res_facts HO.out hxy
            obtain ⟨F, hF, d0, d1, hgF, hkF⟩ := res_gr hR HO.out HG.out hxy (.int .i64 g.n) (.slice la ln lc)
            have HF := hid hF
            have HSF := hid (HB.out.seg.keeps hkF (fun k o hk _ e => by have h1 := (HB.out.seg.own k hk).1; omega))
            clear hxy hF hkF
            go_wp2
            rw [HF.out]
            exact bodyPost_ret (results_gr2 rfl rfl rfl d0 d1) rfl ⟨_, rfl, hgF, _, rfl, by rw [HMM.out]; exact HSF.out.mono (Nat.le_succ_of_le HWK.out.size)⟩

end Go.Proofs.Ytojkohpniokaaaa
