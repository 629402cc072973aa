/- Walk: Without (41), with its moves in new blocks. -/
import Derived.Test.YtojkohpniokaaaaPgChange2
namespace Go.Proofs.Ytojkohpniokaaaa
open Go Go.RowKit Go.Lin Go.Lin.Pg
attribute [local go_sem] run_store_func run_store_nilFunc

set_option maxHeartbeats 2000000 in
set_option maxRecDepth 20000 in
theorem without41_seg (v : Value) (g : Gr) (i : Int) (w : World) (hb : valid g = true) (hi : 0 ≤ i ∧ i < (g.ms.length : Int)) (hn : -9223372036854775808 ≤ g.n ∧ g.n ≤ 9223372036854775807) (hv : IsGr w v g) :
    Calls Try.prog 41 #[v, .int .i64 i] w fun e w' => ∃ a n k, e = .returned (.tuple #[.agg #[.int .i64 g.n, .slice a n k], .int .i64 0]) ∧ Grew w w' ∧ Seg w' w.heap.size 50 4 (.slice a n k) (withoutM g.ms i).length (cellsM (withoutM g.ms i)) := by
  have HV := hid hv
  obtain ⟨s, rfl, hmv⟩ := hv
  obtain ⟨n, hn'⟩ : ∃ n, g.ms.length = n := ⟨_, rfl⟩
  obtain ⟨va, vc, rfl, ⟨hm1, hm2⟩, -⟩ := hmv
  rw [hn'] at hm1 hm2 HV hi ⊢
  have HN := hid hn'
  obtain ⟨W0, hW0, g0, k0, k1, hz⟩ := box2 w (.int .i64 g.n) (.slice va n vc) 24
  obtain ⟨W1, hW1, g1, j0, hz1⟩ := box1 W0 (.int .i64 i) 3
  obtain ⟨W2, hW2⟩ : ∃ W2, W1.alloc (.cells #[.int .i64 0, .slice none 0 0] 24) = W2 := ⟨_, rfl⟩
  have g2 : Grew W1 W2 := by rw [← hW2]; exact grew_alloc (grew_refl _) _
  have o2 : W2.heap[W1.heap.size]? = some (.cells #[.int .i64 0, .slice none 0 0] 24 (0, 0)) := by rw [← hW2]; exact heap_alloc_new W1 _
  have K0 := ((grew_trans g1 g2).cell (p := ⟨w.heap.size, 0, none⟩) hz).trans k0
  have K1 := ((grew_trans g1 g2).cell (p := ⟨w.heap.size, 1, none⟩) hz).trans k1
  have J0 := (g2.cell (p := ⟨W0.heap.size, 0, none⟩) hz1).trans j0
  have hzr := Nat.lt_of_lt_of_le hz (grew_trans g1 g2).size
  have hz1r := Nat.lt_of_lt_of_le hz1 g2.size
  have HG := hid (grew_trans g0 (grew_trans g1 g2))
  have HO := hid o2
  have hR : w.heap.size ≤ W1.heap.size := (grew_trans g0 g1).size
  have HVA := hid (valid51_any _ g W2 hn (HV.out.grew HG.out))
  rw [hb] at HVA
  have H20 := hid (valid_20 hb)
  clear hb o2 k0 k1 j0 g0 g1 g2
  obtain ⟨hi0, hi1⟩ := hi
  have hd1 : decide (i < 0) = false := decide_eq_false (by omega)
  have hd2 : decide (i ≥ (n : Int)) = false := decide_eq_false (by omega)
  have HCH := hid (fun (W : World) (h : Grew W2 W) => changed76_any (.agg #[.int .i64 g.n, .slice va n vc]) g 79 #[.pointer (some ⟨W0.heap.size, 0, none⟩)] (fun k m => (m, (k : Int) != i)) W H20.out (HV.out.grew (grew_trans HG.out h)) (fun _ _ => by kernel_rfl) (fun W' hW' k m _ => tell79_any (k : Int) i m W0.heap.size W' (((grew_trans h hW').cell (p := ⟨W0.heap.size, 0, none⟩) hz1r).trans J0)))
  go_enter Try.func41, Try.ntmps41
  go_wp2_with (first
    | (go_at_call 51; (with_reducible refine HVA.out.mono ?_); rintro e w1 ⟨rfl, hx⟩; have HX := hid hx; have x0 := (hx.cell (p := ⟨w.heap.size, 0, none⟩) hzr).trans K0; have x1 := (hx.cell (p := ⟨w.heap.size, 1, none⟩) hzr).trans K1; have x2 := (hx.cell (p := ⟨W0.heap.size, 0, none⟩) hz1r).trans J0; clear hx)
    | (go_at_call 76; (with_reducible refine (HCH.out _ HX.out).mono ?_); rintro e w2 ⟨s2, rfl, hy, hs⟩; have hxy := grew_trans HX.out hy; obtain ⟨e0, e1, f0, f1, hzR⟩ := res_facts HO.out hxy; obtain ⟨F, hF, c0, c1, hgF, hkF⟩ := res_gr hR HO.out HG.out hxy (.int .i64 g.n) s2; have HF := hid hF; have HSF := hid (hs.keeps hkF (fun k o hk _ e => by have h1 := (hs.own k hk).1; have h2 := lt_of_obj HO.out; have h3 := HX.out.size; omega)); obtain ⟨sa, nl, sc, rfl⟩ := shape2 hs; clear hy hxy hs hkF hF))
  rw [HF.out]
  exact bodyPost_ret (results_gr2 rfl rfl rfl c0 c1) rfl ⟨_, _, _, rfl, hgF, HSF.out.mono (Nat.le_trans (grew_trans HG.out HX.out).size (Nat.le_refl _))⟩
end Go.Proofs.Ytojkohpniokaaaa
