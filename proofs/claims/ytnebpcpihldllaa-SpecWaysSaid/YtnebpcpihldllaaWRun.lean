/- Walks: a word's answers and where it leads, both texts. -/
import Derived.Test.YtnebpcpihldllaaRows
import Derived.Test.YtnebpcpihldllaaModel
import Derived.Test.YtnebpcpihldllaaAppend
namespace Go.Proofs.Ytnebpcpihldllaa
open Go.RowKit Go.Lin

theorem Try.info3 : (Try.prog.info? 3).map (fun i => (i.zero, i.size, i.bytes)) = some (some (.int .i64 0), 1, 8) := by kernel_rfl
theorem Try.info34 : (Try.prog.info? 34).map (fun i => (i.zero, i.size, i.bytes)) = some (some (.slice none 0 0), 1, 24) := by kernel_rfl

set_option maxHeartbeats 1000000 in
theorem refRun_any (M : Mach) (hM : M.WF) (mv v : Value) (s : Nat) (ws : List Nat) (w : World) (hs : s < M.n) (hw : OkW M.k ws) (hl : ws.length ≤ 100) (hm : IsMach w mv M) (hv : IsNats Any w v ws) :
    Calls Try.prog 77 #[mv, .int .i64 s, v] w fun e w' => ∃ u, e = .returned (.tuple #[u, .int .i64 (stM M s ws)]) ∧ Seg w' w.heap.size 3 1 u ws.length ((anM M s ws).map (.int .i64)) ∧ Grew w w' := by
  obtain ⟨b, off, c, b2, off2, c2, rfl, t1, t2⟩ := hm
  obtain ⟨a, cap, rfl, hm, hc⟩ := hv
  obtain ⟨W0, hW0, g0, k0, k1, k2, k3, hz⟩ := box4 w (.int .i64 M.n) (.int .i64 M.k) (.slice (some ⟨b, off, none⟩) M.n c) (.slice (some ⟨b2, off2, none⟩) M.n c2) 24
  have T1 := hid (t1.grew g0)
  have T2 := hid (t2.grew g0)
  have HC := hid hc
  have n8 := hM.n8
  have k4 := hM.k4
  have hb := (T1.out).1
  have hb2 := (T2.out).1
  clear t1 t2 hc
  go_enter Try.func77, Try.ntmps77
  go_wp2
  clear hW0
  go_loopg [6, 7, 13] (ws.length) (fun g u q i wr => ∃ j p : Nat, j ≤ ws.length ∧ i = .int .i64 j ∧ q = .int .i64 p ∧ p < M.n ∧ g = ws.length - j ∧ Hid (p = stM M s (ws.take j)) ∧ Grew W0 wr ∧
    Seg wr W0.heap.size 3 1 u j ((anM M s (ws.take j)).map (.int .i64)))
  case atStart => exact ⟨0, s, Nat.zero_le _, rfl, rfl, hs, rfl, hid rfl, grew_refl _, Seg.nil _ _ _ _⟩
  case round =>
    obtain ⟨j, p, hj, rfl, rfl, hp, hk, HP, hg, hseg⟩ := hrel
    have HK := hid hk; clear hk
    have hcell := (bcell hg).1
    obtain ⟨ua, uc, rfl, hum⟩ := hseg.shape
    by_cases hlt : j < ws.length
    · obtain ⟨b5, off5, o5, rfl, ho5, _, hcj⟩ := HC.out j hlt
      have hbl := lt_of_obj ho5
      have hbl0 : b5 < W0.heap.size := by omega
      have hcj0 := (g0.cell (p := ⟨b5, off5 + j, none⟩) hbl).trans hcj
      clear ho5 hcj
      have hq := hw.nth hlt
      obtain ⟨b3, off3, c3, h3, h3b, h3c⟩ := T1.out.2 p hp
      have h3d := h3c _ hq
      obtain ⟨b4, off4, c4, h4, h4b, h4c⟩ := T2.out.2 p hp
      have h4d := h4c _ hq
      clear h3c h4c
      have hsz := hg.size
      have tk := take_succ_nthN hlt
      have hst : stM M s (ws.take (j + 1)) = M.nx p (nthN ws j) := by rw [tk, stM_snoc, ← HP.out]
      have han : anM M s (ws.take (j + 1)) = anM M s (ws.take j) ++ [M.sy p (nthN ws j)] := by rw [tk, anM_snoc, ← HP.out]
      have HST := hid hst; have HAN := hid han; clear hst han tk
      have hnx := hM.nx p hp _ hq
      go_wp2_with (at_builtin; refine wpList_append_one rfl _ _ 34 rfl W0.heap.size 3 Try.underlying34 Try.info3 rfl (by decide) _ (j) _ rfl (hseg.alloc _) _ _ _ rfl (one_new _ _ _) rfl (by omega) ?_ ?_; (simp only [World.size_alloc]; omega); intro v1 w1 hown1 hgrow1 hblk1; have hg1 := (hg.alloc hg.size _).grown hgrow1 (hg.alloc hg.size _).size (fun k e => (hseg.own k e).1); have hc1 := (bcell hg1).1; clear hgrow1)
      go_roundg (ws.length - (j + 1))
      case measure => have := HK.out; omega
      case rel =>
        refine ⟨j + 1, M.nx p (nthN ws j), by omega, by go_num, rfl, hnx, rfl, hid HST.out.symm, hg1, ?_⟩
        rw [HAN.out, List.map_append]; exact hown1
    · obtain rfl : j = ws.length := by omega
      go_wp2
      go_ret2
      have ht := List.take_of_length_le (Nat.le_refl ws.length)
      refine ⟨.slice ua ws.length uc, ?_, ?_, grew_trans g0 hg⟩
      · rw [ht] at HP; rw [← HP.out]; rfl
      · rw [ht] at hseg; exact hseg.mono g0.size

set_option maxHeartbeats 1000000 in
theorem run_any (M : Mach) (hM : M.WF) (mv v : Value) (s : Nat) (ws : List Nat) (w : World) (hs : s < M.n) (hw : OkW M.k ws) (hl : ws.length ≤ 100) (hm : IsMach w mv M) (hv : IsNats Any w v ws) :
    Calls Try.prog 75 #[mv, .int .i64 s, v] w fun e w' => ∃ u, e = .returned (.tuple #[u, .int .i64 (stM M s ws)]) ∧ Seg w' w.heap.size 3 1 u ws.length ((anM M s ws).map (.int .i64)) ∧ Grew w w' := by
  obtain ⟨b, off, c, b2, off2, c2, rfl, t1, t2⟩ := hm
  obtain ⟨a, cap, rfl, hm, hc⟩ := hv
  obtain ⟨W0, hW0, g0, k0, k1, k2, k3, hz⟩ := box4 w (.int .i64 M.n) (.int .i64 M.k) (.slice (some ⟨b, off, none⟩) M.n c) (.slice (some ⟨b2, off2, none⟩) M.n c2) 60
  have T1 := hid (t1.grew g0)
  have T2 := hid (t2.grew g0)
  have HC := hid hc
  have n8 := hM.n8
  have k4 := hM.k4
  have hb := (T1.out).1
  have hb2 := (T2.out).1
  clear t1 t2 hc
  go_enter Try.func75, Try.ntmps75
  go_wp2
  clear hW0
  go_loopg [1, 8, 13] (ws.length) (fun g q u i wr => ∃ j p : Nat, j ≤ ws.length ∧ i = .int .i64 j ∧ q = .int .i64 p ∧ p < M.n ∧ g = ws.length - j ∧ Hid (p = stM M s (ws.take j)) ∧ Grew W0 wr ∧
    Seg wr W0.heap.size 3 1 u j ((anM M s (ws.take j)).map (.int .i64)))
  case atStart => exact ⟨0, s, Nat.zero_le _, rfl, rfl, hs, rfl, hid rfl, grew_refl _, Seg.nil _ _ _ _⟩
  case round =>
    obtain ⟨j, p, hj, rfl, rfl, hp, hk, HP, hg, hseg⟩ := hrel
    have HK := hid hk; clear hk
    have hcell := (bcell hg).1
    obtain ⟨ua, uc, rfl, hum⟩ := hseg.shape
    by_cases hlt : j < ws.length
    · obtain ⟨b5, off5, o5, rfl, ho5, _, hcj⟩ := HC.out j hlt
      have hbl := lt_of_obj ho5
      have hbl0 : b5 < W0.heap.size := by omega
      have hcj0 := (g0.cell (p := ⟨b5, off5 + j, none⟩) hbl).trans hcj
      clear ho5 hcj
      have hq := hw.nth hlt
      obtain ⟨b3, off3, c3, h3, h3b, h3c⟩ := T1.out.2 p hp
      have h3d := h3c _ hq
      obtain ⟨b4, off4, c4, h4, h4b, h4c⟩ := T2.out.2 p hp
      have h4d := h4c _ hq
      clear h3c h4c
      have hsz := hg.size
      have tk := take_succ_nthN hlt
      have hst : stM M s (ws.take (j + 1)) = M.nx p (nthN ws j) := by rw [tk, stM_snoc, ← HP.out]
      have han : anM M s (ws.take (j + 1)) = anM M s (ws.take j) ++ [M.sy p (nthN ws j)] := by rw [tk, anM_snoc, ← HP.out]
      have HST := hid hst; have HAN := hid han; clear hst han tk
      have hnx := hM.nx p hp _ hq
      go_wp2_with (at_builtin; refine wpList_append_one rfl _ _ 34 rfl W0.heap.size 3 Try.underlying34 Try.info3 rfl (by decide) _ (j) _ rfl (hseg.alloc _) _ _ _ rfl (one_new _ _ _) rfl (by omega) ?_ ?_; (simp only [World.size_alloc]; omega); intro v1 w1 hown1 hgrow1 hblk1; have hg1 := (hg.alloc hg.size _).grown hgrow1 (hg.alloc hg.size _).size (fun k e => (hseg.own k e).1); have hc1 := (bcell hg1).1; clear hgrow1)
      go_roundg (ws.length - (j + 1))
      case measure => have := HK.out; omega
      case rel =>
        refine ⟨j + 1, M.nx p (nthN ws j), by omega, by go_num, rfl, hnx, rfl, hid HST.out.symm, hg1, ?_⟩
        rw [HAN.out, List.map_append]; exact hown1
    · obtain rfl : j = ws.length := by omega
      go_wp2
      go_ret2
      have ht := List.take_of_length_le (Nat.le_refl ws.length)
      refine ⟨.slice ua ws.length uc, ?_, ?_, grew_trans g0 hg⟩
      · rw [ht] at HP; rw [← HP.out]; rfl
      · rw [ht] at hseg; exact hseg.mono g0.size
end Go.Proofs.Ytnebpcpihldllaa
