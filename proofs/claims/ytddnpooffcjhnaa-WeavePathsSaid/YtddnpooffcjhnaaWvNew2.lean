/- Walk: newLoom. -/
import Derived.Test.YtddnpooffcjhnaaWvNew
namespace Go.Proofs.Ytddnpooffcjhnaa
open Go.RowKit Go.Lin Go.Lin.Wv Go.Maps

theorem loom_made' (w : World) (N : Nat) (ps : List (Int × Int)) (cs : Array Value) (h : cs = #[.int .i64 (N : Int)] ++ (List.replicate 36 (.bool false)).toArray) : LoomF (w.alloc (.cells cs 76)) w.heap.size N (dpt ps 0 0) := by
  subst h
  refine ⟨_, heap_alloc_new w _, by simp, by simp, fun a b ha hb => ?_⟩
  rw [Array.getElem?_append_right (by simp; omega)]
  simp only [List.size_toArray, List.length_cons, List.length_nil, List.getElem?_toArray]
  rw [List.getElem?_replicate, if_pos (by omega)]
  simp [dpt]

theorem loom_cells (N : Nat) : (#[.int .i64 (N : Int), .bool false, .bool false, .bool false, .bool false, .bool false, .bool false, .bool false, .bool false, .bool false, .bool false, .bool false, .bool false, .bool false, .bool false, .bool false, .bool false, .bool false, .bool false, .bool false, .bool false, .bool false, .bool false, .bool false, .bool false, .bool false, .bool false, .bool false, .bool false, .bool false, .bool false, .bool false, .bool false, .bool false, .bool false, .bool false, .bool false] : Array Value) = #[.int .i64 (N : Int)] ++ (List.replicate 36 (.bool false)).toArray := by
  simp only [List.replicate_succ, List.replicate_zero, List.append_toArray, List.cons_append, List.nil_append]

theorem keeps_at {w w' : World} {B : Nat} (h : Keeps (fun k _ => k = B) w w') {k : Nat} (hk : k < w.heap.size) (hne : k ≠ B) (o : Nat) : w'.cell? ⟨k, o, none⟩ = w.cell? ⟨k, o, none⟩ := by
  have h1 := h.obj k _ (Array.getElem?_eq_getElem hk) hne
  rw [World.cell?_of_block (w := w) (a := ⟨k, o, none⟩)]
  rw [h1, Array.getElem?_eq_getElem hk]

theorem keeps_setB (w : World) (B o : Nat) (u : Value) : Keeps (fun k _ => k = B) w (w.setCell ⟨B, o, none⟩ u) :=
  ⟨rfl, rfl, rfl, by simp, fun k o h hn => by rw [heap_setCell_other _ _ _ _ hn]; exact h⟩

set_option maxHeartbeats 16000000 in
set_option maxRecDepth 20000 in
theorem newLoom_any (v : Value) (L : Lt) (wv : Value) (ws : List (List Int)) (w : World) (hn : L.n ≤ 9223372036854775807) (hv : IsLt w v L) (hw : IsRows Any w wv ws) :
    Calls Try.prog 60 #[v, wv] w fun e w' => Grew w w' ∧ ((wrong L ws = 0 ∧ ∃ (B N : Nat), L.n = N ∧ 1 ≤ N ∧ N ≤ 6 ∧ e = .returned (.tuple #[.pointer (some ⟨B, 0, none⟩), .int .i64 0]) ∧ w.heap.size ≤ B ∧ Loom w' B (dep L) N) ∨
      (wrong L ws ≠ 0 ∧ e = .returned (.tuple #[.pointer none, .int .i64 (wrong L ws)]))) := by
  have HVA := hid (fun (y : World) (hy : Grew w y) => valid_any v L y hn (hv.grew hy))
  obtain ⟨s, rfl, hps⟩ := hv
  obtain ⟨W0, hW0, g0, k0, k1, hz⟩ := box2 w (.int .i64 L.n) s 24
  have HVA0 := hid (HVA.out W0 g0)
  have HW := hid hw
  cases hvl : valid L with
  | false =>
    have he : wrong L ws = 30 := by unfold wrong; rw [hvl]; rfl
    have HE := hid he
    rw [hvl] at HVA0
    clear he hvl
    have hg := g0
    go_enter Try.func60, Try.ntmps60
    go_wp2_with (go_at_call 37; (with_reducible refine HVA0.out.mono ?_); rintro e w1 ⟨rfl, hx⟩; have HX := hid hx; clear hx)
    go_ret2
    exact ⟨grew_trans g0 HX.out, .inr ⟨by rw [HE.out]; decide, by rw [HE.out]; rfl⟩⟩
  | true =>
    obtain ⟨⟨h1, h6⟩, hall⟩ := valid_iff hvl
    obtain ⟨N, hN⟩ : ∃ N : Nat, L.n = N := ⟨L.n.toNat, by omega⟩
    have hN6 : N ≤ 6 := by omega
    have hN1 : 1 ≤ N := by omega
    obtain ⟨pa, pc, rfl, hpm, hpc⟩ := hps
    obtain ⟨m, hm⟩ : ∃ m, L.ps.length = m := ⟨_, rfl⟩
    rw [hvl] at HVA0
    rw [hN] at hW0 k0 HVA0 ⊢
    rw [hm] at hW0 k1 hpm HVA0 ⊢
    have HWR := hid (show wrong L ws = if ws.all (isW L) then 0 else 31 from by unfold wrong; rw [hvl]; rfl)
    have HN := hid hN
    have HM := hid hm
    have HALL := hid hall
    have HPC := hid hpc
    obtain ⟨V, ⟨wa, wc, rfl, hwm, hwc⟩, hrows⟩ := hw
    have HWC := hid hwc
    have HROWS := hid hrows
    obtain ⟨q, hq⟩ : ∃ q, ws.length = q := ⟨_, rfl⟩
    rw [hq] at hwm HWC ⊢
    have HQ := hid hq
    clear hvl h1 h6 hall hn hN hm hpc hwc hrows hq HVA HW
    have hg := g0
    go_enter Try.func60, Try.ntmps60
    go_wp2_with (go_at_call 37; (with_reducible refine HVA0.out.mono ?_); rintro e w1 ⟨rfl, hx⟩; have HX := hid hx; have kx0 := (hx.cell (p := ⟨w.heap.size, 0, none⟩) hz).trans k0; have kx1 := (hx.cell (p := ⟨w.heap.size, 1, none⟩) hz).trans k1; have hzx := Nat.lt_of_lt_of_le hz hx.size; clear hx)
    obtain ⟨W1, hW1⟩ : ∃ W1, w1.alloc (.cells #[.int .i64 (N : Int), .bool false, .bool false, .bool false, .bool false, .bool false, .bool false, .bool false, .bool false, .bool false, .bool false, .bool false, .bool false, .bool false, .bool false, .bool false, .bool false, .bool false, .bool false, .bool false, .bool false, .bool false, .bool false, .bool false, .bool false, .bool false, .bool false, .bool false, .bool false, .bool false, .bool false, .bool false, .bool false, .bool false, .bool false, .bool false, .bool false] 76) = W1 := ⟨_, rfl⟩
    have hL1 : LoomF W1 w1.heap.size N (dpt L.ps 0 0) := by rw [← hW1]; exact loom_made' w1 N L.ps _ (loom_cells N)
    have g1 : Grew w1 W1 := by rw [← hW1]; exact grew_alloc (grew_refl _) _
    obtain ⟨W2, hW2, g2, p0, hz2⟩ := box1 W1 (.pointer (some ⟨w1.heap.size, 0, none⟩)) 58
    have hs1 : W1.heap.size = w1.heap.size + 1 := by rw [← hW1]; simp
    rw [hW1, ← hs1, hW2]
    generalize Value.agg #[.int .i64 (N : Int), .bool false, .bool false, .bool false, .bool false, .bool false, .bool false, .bool false, .bool false, .bool false, .bool false, .bool false, .bool false, .bool false, .bool false, .bool false, .bool false, .bool false, .bool false, .bool false, .bool false, .bool false, .bool false, .bool false, .bool false, .bool false, .bool false, .bool false, .bool false, .bool false, .bool false, .bool false, .bool false, .bool false, .bool false, .bool false, .bool false] = A
    obtain ⟨B, hB⟩ : ∃ B, w1.heap.size = B := ⟨_, rfl⟩
    obtain ⟨C, hC⟩ : ∃ C, W1.heap.size = C := ⟨_, rfl⟩
    rw [hC] at p0 hz2 ⊢
    rw [hB] at hL1 p0
    have hBC : C = B + 1 := by omega
    have g02 : Grew w1 W2 := grew_trans g1 g2
    have kw0 := (g02.cell (p := ⟨w.heap.size, 0, none⟩) hzx).trans kx0
    have kw1 := (g02.cell (p := ⟨w.heap.size, 1, none⟩) hzx).trans kx1
    have hzw := Nat.lt_of_lt_of_le hzx g02.size
    have HL2 := hid (hL1.grew g2)
    have hBw : w.heap.size < B := by omega
    have H02 := hid (grew_trans g0 (grew_trans HX.out g02))
    have hwB : w.heap.size ≤ B := by omega
    have HB := hid hB
    have hCB : C ≠ B := by omega
    have hwB2 : w.heap.size ≠ B := by omega
    have HBC := hid hBC
    clear hBC hC hW1 hW2 g1 g2 hs1 hL1 kx0 kx1 hzx hW0 k0 k1 hg g02 HVA0 hB
    -- the diagonal
    go_loopg [7, 21] N (fun k _ i wr => ∃ j : Nat, j ≤ N ∧ i = .int .i64 j ∧ k = N - j ∧ Hid (LoomF wr B N (dpt L.ps j 0)) ∧ Hid (Keeps (fun k _ => k = B) W2 wr))
    case atStart => exact ⟨0, by omega, rfl, rfl, HL2, hid (Keeps.refl _ _)⟩
    case round =>
      obtain ⟨j, hj, rfl, hk, HL, HG⟩ := hrel
      have HK := hid hk; clear hk
      rename World => wr
      have qp0 : wr.cell? ⟨C, 0, none⟩ = some (.pointer (some ⟨B, 0, none⟩)) := (keeps_at HG.out hz2 hCB 0).trans p0
      have qw0 := (keeps_at HG.out hzw hwB2 0).trans kw0
      have qw1 := (keeps_at HG.out hzw hwB2 1).trans kw1
      have hBl := HL.out.lt
      by_cases hlt : j < N
      · have hj6 : j < 6 := by omega
        have qc := HL.out.cell hj6 hj6
        have qf := HL.out.frozen (1 + j * 6 + j)
        go_wp2
        go_roundg (N - (j + 1))
        case measure => have := HK.out; omega
        case rel => exact ⟨j + 1, by omega, by go_num, rfl, hid (HL.out.set hj6 hj6 (fun a b => dpt_diag a b)), hid (HG.out.trans (keeps_setB _ _ _ _))⟩
      · obtain rfl : N = j := by omega
        have HBW := hid hBw
        have HL2' := HL2
        clear HL2
        go_wp2
        -- the pairs
        go_loopg [9, 35] m (fun k _ i ws => ∃ j : Nat, j ≤ m ∧ i = .int .i64 j ∧ k = m - j ∧ Hid (LoomF ws B N (dpt L.ps N j)) ∧ Hid (Keeps (fun k _ => k = B) W2 ws))
        case atStart => exact ⟨0, by omega, rfl, rfl, HL, HG⟩
        case round =>
          clear HL HG qp0 qw0 qw1 hBl HK hj hlt
          obtain ⟨j, hj, rfl, hk, HL, HG⟩ := hrel
          have HK := hid hk; clear hk
          rename World => wr
          have qp0 : wr.cell? ⟨C, 0, none⟩ = some (.pointer (some ⟨B, 0, none⟩)) := (keeps_at HG.out hz2 hCB 0).trans p0
          have qw0 := (keeps_at HG.out hzw hwB2 0).trans kw0
          have qw1 := (keeps_at HG.out hzw hwB2 1).trans kw1
          have hBl := HL.out.lt
          by_cases hlt : j < m
          · obtain ⟨x, hx⟩ : ∃ x, L.ps[j]? = some x := ⟨_, List.getElem?_eq_getElem (by rw [HM.out]; exact hlt)⟩
            obtain ⟨hx0, hx1, hx2⟩ := HALL.out x (List.mem_of_getElem? hx)
            rw [HN.out] at hx2
            obtain ⟨x1, x2⟩ := x
            simp only at hx0 hx1 hx2
            obtain ⟨a, rfl⟩ : ∃ a : Nat, x1 = a := ⟨x1.toNat, by omega⟩
            obtain ⟨b, rfl⟩ : ∃ b : Nat, x2 = b := ⟨x2.toNat, by omega⟩
            obtain ⟨bb, off, rfl, hpa⟩ := HPC.out j _ hx
            have hbb := hpa.lt
            have hbbB : bb ≠ B := by omega
            have hbb2 := Nat.lt_of_lt_of_le hbb H02.out.size
            have c0 := (keeps_at HG.out hbb2 hbbB _).trans ((H02.out.cell (p := ⟨bb, off + j * 2, none⟩) hbb).trans hpa.c0)
            have c1 := (keeps_at HG.out hbb2 hbbB _).trans ((H02.out.cell (p := ⟨bb, off + j * 2 + 1, none⟩) hbb).trans hpa.c1)
            have hbb3 := Nat.lt_of_lt_of_le hbb2 HG.out.size
            simp only at c0 c1
            have ha6 : a < 6 := by omega
            have hb6 : b < 6 := by omega
            have ia0 : (0 : Int) ≤ (a : Int) := by omega
            have ia6 : (a : Int) < 6 := by omega
            have ib0 : (0 : Int) ≤ (b : Int) := by omega
            have ib6 : (b : Int) < 6 := by omega
            have HPP := hid (fun (u v : Nat) => dpt_pair (n := N) hx u v)
            have hne1 : ¬ (1 + a * 6 + b = 1 + b * 6 + a) := by omega
            have hne2 : ¬ (1 + b * 6 + a = 1 + a * 6 + b) := by omega
            obtain ⟨W3, hW3, g3, l0, l1, hz3⟩ := box2 wr (.int .i64 (a : Int)) (.int .i64 (b : Int)) 57
            have HL3 := hid (HL.out.grew g3)
            have HG3 := hid (HG.out.trans g3.keeps)
            have rp0 := (g3.cell (p := ⟨C, 0, none⟩) (Nat.lt_of_lt_of_le hz2 HG.out.size)).trans qp0
            have q1 := HL3.out.cell ha6 hb6
            have q2 := HL3.out.cell hb6 ha6
            have f1 := HL3.out.frozen (1 + a * 6 + b)
            have f2 := HL3.out.frozen (1 + b * 6 + a)
            have hBw3 : wr.heap.size ≠ B := by omega
            have hB3 := HL3.out.lt
            have HX2 := hid hx2
            have HX1 := hid hx1
            clear hx hpa hx0 hx1 hx2
            go_wp2
            go_region_held3 (fun w' => ∀ b o, b ≠ B → w'.cell? ⟨b, o, none⟩ = W3.cell? ⟨b, o, none⟩) (first | exact cell_off_set (by assumption) | exact cell_off_set (cell_off_set (by assumption)) | (intro b o hb; rfl)) (fail)
            all_goals (
              go_wp2
              go_roundg (m - (j + 1))
              case measure => have := HK.out; omega
              case rel => exact ⟨j + 1, by omega, by go_num, rfl, hid (((HL3.out.set ha6 hb6 (fun _ _ => rfl)).set hb6 ha6 (fun u v => HPP.out u v)).grew (grew_drew (grew_refl _))), hid (((HG3.out.trans (keeps_setB _ _ _ _)).trans (keeps_setB _ _ _ _)).drew)⟩)
          · obtain rfl : m = j := by omega
            have hLm := HL.out.loom (D := dep L) hN6 (fun a b ha _ => by rw [← HM.out]; exact dpt_dep a b ha)
            have HLM := hid hLm
            have H03 := hid (H02.out.trans (HG.out.below (B := w.heap.size) (Nat.le_trans hwB (by have := HL2'.out.lt; omega)) (fun k o e => by omega)))
            clear hLm
            go_wp2
            go_loopg [11, 60] q (fun k _ i wt => ∃ j : Nat, j ≤ q ∧ i = .int .i64 j ∧ k = q - j ∧ Hid ((ws.take j).all (isW L) = true) ∧ Hid (Grew wr wt))
            case atStart => exact ⟨0, by omega, rfl, rfl, hid rfl, hid (grew_refl _)⟩
            case round =>
              clear HL HG HK hj hlt qw0 qw1
              obtain ⟨j, hj, rfl, hk, HA, HG⟩ := hrel
              have HK := hid hk; clear hk
              rename World => wt
              have tp0 : wt.cell? ⟨C, 0, none⟩ = some (.pointer (some ⟨B, 0, none⟩)) := (HG.out.cell (p := ⟨C, 0, none⟩) (World.block_lt_of_cell? wr _ qp0)).trans qp0
              by_cases hlt : j < q
              · obtain ⟨wb, wof, wo, hwa, hwob, -, hwcc⟩ := HWC.out j hlt
                subst hwa
                have hjw : j < ws.length := by rw [HQ.out]; exact hlt
                have hin := HROWS.out j (by rw [HQ.out]; exact hlt)
                obtain ⟨va, vc, hVj⟩ : ∃ va vc, V j = .slice va (nthL ws j).length vc := by obtain ⟨va, vc, h, _⟩ := hin; exact ⟨va, vc, h⟩
                have htk := take_succ_nthL hjw
                have hmem : nthL ws j ∈ ws := by rw [nthL_lt hjw]; exact List.getElem_mem _
                obtain ⟨x, hx⟩ : ∃ x, nthL ws j = x := ⟨_, rfl⟩
                rw [hx] at hin hVj htk hmem
                rw [hVj] at hwcc hin
                have hwl := lt_of_obj hwob
                have hg := H03.out.trans (HG.out.mono (by have := H03.out.size; omega))
                have hcw := (hg.cell (p := ⟨wb, wof + j, none⟩) hwl).trans hwcc
                have hwl2 := Nat.lt_of_lt_of_le hwl hg.size
                have hxl : x.length ≤ 9223372036854775807 := by obtain ⟨_, _, _, h, _⟩ := hin; exact h
                have hcf := containsFunc_any 96 #[.pointer (some ⟨C, 0, none⟩)] (fun a => !(decide (0 ≤ a) && decide (a ≤ (N : Int) - 1))) _ x wt entered96 (Reads.grew hin hg) (fun i hi => bad_says B N C (nth x i) wt hN6 (HLM.out.grew HG.out) tp0)
                have hiw : isW L x = (decide (x.length ≤ 10) && !x.any (fun a => !(decide (0 ≤ a) && decide (a ≤ (N : Int) - 1)))) := by
                  unfold isW
                  congr 1
                  rw [List.all_eq_not_any_not]
                  unfold isL
                  rw [HN.out]
                obtain ⟨r, hr⟩ : ∃ r, x.any (fun a => !(decide (0 ≤ a) && decide (a ≤ (N : Int) - 1))) = r := ⟨_, rfl⟩
                rw [hr] at hcf hiw
                have HCF := hid hcf
                have HTK := hid htk
                have hbadw : isW L x = false → wrong L ws = 31 := fun h => by
                  rw [HWR.out, show ws.all (isW L) = false from List.all_eq_false.2 ⟨x, hmem, by rw [h]; simp⟩]; rfl
                have HGW := hid hg
                obtain ⟨xl, hxl2⟩ : ∃ xl, x.length = xl := ⟨_, rfl⟩
                rw [hxl2] at hiw hcw hxl HCF
                clear hin hVj htk hmem hx hwcc hwob hcf hr hjw hxl2
                by_cases h10 : xl ≤ 10
                · have h10' : ¬ (10 : Int) < (xl : Int) := by omega
                  cases r
                  · have HIW := hid (show isW L x = true by rw [hiw]; simpa using h10)
                    clear hiw hbadw
                    go_wp2_with (go_at_call 70; (with_reducible refine HCF.out.mono ?_); rintro e w5 ⟨rfl, hx5⟩; have HX5 := hid hx5; clear hx5)
                    go_roundg (q - (j + 1))
                    case measure => have := HK.out; omega
                    case rel => exact ⟨j + 1, by omega, by go_num, rfl, hid (by rw [HTK.out, List.all_append, HA.out]; simp [HIW.out]), hid (grew_trans HG.out HX5.out)⟩
                  · have HIW := hid (hbadw (by rw [hiw]; simp))
                    clear hiw hbadw
                    go_wp2_with (go_at_call 70; (with_reducible refine HCF.out.mono ?_); rintro e w5 ⟨rfl, hx5⟩; have HX5 := hid hx5; clear hx5)
                    go_ret2
                    exact ⟨HGW.out.trans (HX5.out.mono HGW.out.size), .inr ⟨by rw [HIW.out]; decide, by rw [HIW.out]; rfl⟩⟩
                · have h10' : (10 : Int) < (xl : Int) := by omega
                  have HIW := hid (hbadw (by rw [hiw]; simp; omega))
                  clear hiw hbadw
                  go_wp2
                  go_ret2
                  exact ⟨HGW.out, .inr ⟨by rw [HIW.out]; decide, by rw [HIW.out]; rfl⟩⟩
              · obtain rfl : q = j := by omega
                have HWZ := hid (show wrong L ws = 0 by
                  have h := HA.out
                  rw [List.take_of_length_le (by rw [HQ.out]; exact Nat.le_refl _)] at h
                  rw [HWR.out, h]; rfl)
                go_wp2
                go_ret2
                exact ⟨H03.out.trans (HG.out.mono (by have := H03.out.size; omega)), .inl ⟨HWZ.out, B, N, rfl, hN1, hN6, rfl, hwB, HLM.out.grew HG.out⟩⟩

end Go.Proofs.Ytddnpooffcjhnaa
