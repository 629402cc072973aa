/- Walk of the reference: common. -/
import Derived.Test.YtddnpooffcjhnaaWvCommonQ
namespace Go.Proofs.Ytddnpooffcjhnaa
open Go.RowKit Go.Lin Go.Lin.Wv

set_option maxHeartbeats 16000000 in
set_option maxRecDepth 20000 in
theorem rCommon_any (v : Value) (L : Lt) (N : Nat) (wv yv : Value) (x0 y0 : List Int) (w : World) (hN : L.n = (N : Int)) (hN6 : N ≤ 6) (hx0 : ∀ z ∈ x0, 0 ≤ z ∧ z < (N : Int)) (hlx : x0.length ≤ 1000) (hly : y0.length ≤ 1000) (hv : IsLt w v L) (hx : IsWd w wv x0) (hy : IsWd w yv y0) :
    Calls Try.prog 68 #[v, wv, yv] w fun e w' => ∃ u p q, e = .returned (.tuple #[u, p, q]) ∧ Seg w' w.heap.size 3 1 u (common (dep L) N x0 y0).1.length ((common (dep L) N x0 y0).1.map (.int .i64)) ∧ WdOff (fun k _ => u.ownBlock ≠ some k) w' p (common (dep L) N x0 y0).2.1 ∧ WdOff (fun k _ => u.ownBlock ≠ some k) w' q (common (dep L) N x0 y0).2.2 ∧ Grew w w' := by
  have HFR := hid (fun (lv : Value) (y : List Int) (a : Int) (W : World) (hy : Grew w W) (hr : IsInts Any W lv y) => free_any v L lv y a W (hv.grew hy) hr)
  obtain ⟨s, rfl, hps⟩ := hv
  rw [hN] at HFR ⊢
  obtain ⟨W0, hW0, g0, k0, k1, hz⟩ := box2 w (.int .i64 (N : Int)) s 24
  obtain ⟨R, hR⟩ : ∃ R, common (dep L) N x0 y0 = R := ⟨_, rfl⟩
  rw [hR]
  have HR0 := hid (show R = ([] ++ (common (dep L) N x0 y0).1, (common (dep L) N x0 y0).2) from by rw [← hR]; rfl)
  have off : ∀ {u : Value} {xs : List Int}, IsWd w u xs → WdOff (fun k _ => (Value.slice none 0 0).ownBlock ≠ some k) W0 u xs := fun h => (h.off.re (fun k o _ _ e => by simp [Value.ownBlock] at e)).grew g0
  have HX := hid (off hx); have HY := hid (off hy); have HW := hid hx0
  have hg := g0
  have hmx : Try.prog.follows .mixedOrders = true := by kernel_rfl
  obtain ⟨M, hM⟩ : ∃ M, x0.length * (N + 1) + N = M := ⟨_, rfl⟩
  have HMM := hid hM
  clear hR hps hx hy hx0 off hM
  go_enter Try.func68, Try.ntmps68
  go_wp2
  go_loopg [6, 7, 8, 9] M (fun k lb lx ly i wr => ∃ (a : Nat) (x y b : List Int), Hid (k = x.length * (N + 1) + (N - a)) ∧ i = .int .i64 (a : Int) ∧ a ≤ N ∧ b.length + x.length = x0.length ∧ x.length ≤ 1000 ∧ y.length ≤ 1000 ∧ Hid (∀ z ∈ x, 0 ≤ z ∧ z < (N : Int)) ∧ Hid (∀ a' : Nat, a' < a → ¬ ((free (dep L) x a').isSome = true ∧ (free (dep L) y a').isSome = true)) ∧ Hid (R = (b ++ (common (dep L) N x y).1, (common (dep L) N x y).2)) ∧
    Hid (Seg wr W0.heap.size 3 1 lb b.length (b.map (.int .i64))) ∧ Hid (WdOff (fun k _ => lb.ownBlock ≠ some k) wr lx x) ∧ Hid (WdOff (fun k _ => lb.ownBlock ≠ some k) wr ly y) ∧ Hid (Grew W0 wr))
  case atStart => exact ⟨0, x0, y0, [], hid (by rw [← HMM.out]; rfl), rfl, by omega, by simp, hlx, hly, HW, hid (fun a' h => by omega), HR0, hid (Seg.nil _ _ _ _), HX, HY, hid (grew_refl _)⟩
  case round =>
    obtain ⟨a, x, y, b, HK, rfl, ha, hsum, hlx', hly', HWX, HNO, HRR, HSG, HLX, HLY, HG⟩ := hrel
    rename World => wr
    obtain ⟨⟨la, lc, hlw, -⟩, -⟩ := HLX.out
    obtain ⟨⟨va, vc, hlv, -⟩, -⟩ := HLY.out
    obtain ⟨ba, bc, hlb, -⟩ := HSG.out.shape
    subst hlw hlv hlb
    have kw0 := (HG.out.cell (p := ⟨w.heap.size, 0, none⟩) hz).trans k0
    have kw1 := (HG.out.cell (p := ⟨w.heap.size, 1, none⟩) hz).trans k1
    have hzw := Nat.lt_of_lt_of_le hz HG.out.size
    by_cases hlt : a < N
    · obtain ⟨fx, hfx⟩ : ∃ q, free (dep L) x a = q := ⟨_, rfl⟩
      obtain ⟨fy, hfy⟩ : ∃ q, free (dep L) y a = q := ⟨_, rfl⟩
      have hA := hid (fun (y' : World) (hy' : Grew wr y') => HFR.out (.slice la x.length lc) x a y' (grew_trans (grew_trans g0 HG.out) hy') (HLX.out.grew hy').wd.ints)
      have hB := hid (fun (y' : World) (hy' : Grew wr y') => HFR.out (.slice va y.length vc) y a y' (grew_trans (grew_trans g0 HG.out) hy') (HLY.out.grew hy').wd.ints)
      rw [hfx] at hA; rw [hfy] at hB
      have HFX := hid hfx; have HFY := hid hfy
      clear hfx hfy
      rcases fx with _ | i
      · rcases fy with _ | j
        · rw [show ix none = -1 from rfl] at hA
          rw [show ix none = -1 from rfl] at hB
          have HNO2 := hid (show ∀ a' : Nat, a' < a + 1 → ¬ ((free (dep L) x a').isSome = true ∧ (free (dep L) y a').isSome = true) from fun a' h' => by
            rcases Nat.lt_or_ge a' a with h2 | h2
            · exact HNO.out a' h2
            · obtain rfl : a' = a := by omega
              rintro ⟨q1, q2⟩
              rw [HFX.out] at q1; cases q1)
          go_wp2
          go_region_law (first
            | (go_simp; go_at_call 98; (with_reducible refine (hA.out _ (grew_drew (grew_refl wr))).mono ?_); rintro e w2 ⟨rfl, hx2⟩; have G2 := hid (grew_trans (grew_drew (grew_refl wr)) hx2); have m0 := (G2.out.cell (p := ⟨w.heap.size, 0, none⟩) hzw).trans kw0; have m1 := (G2.out.cell (p := ⟨w.heap.size, 1, none⟩) hzw).trans kw1; have mz := Nat.lt_of_lt_of_le hzw G2.out.size; clear hx2)
            | (go_simp; go_at_call 98; (with_reducible refine (hB.out _ G2.out).mono ?_); rintro e w3 ⟨rfl, hx3⟩; have G3 := hid (grew_trans G2.out hx3); clear hx3))
          all_goals (
            go_wp2
            go_roundg (x.length * (N + 1) + (N - (a + 1)))
            case measure => have := HK.out; omega
            case rel => exact ⟨a + 1, x, y, b, hid rfl, by go_num, by omega, hsum, hlx', hly', HWX, HNO2, HRR, hid (HSG.out.grew G3.out), hid (HLX.out.grew G3.out), hid (HLY.out.grew G3.out), hid (grew_trans HG.out G3.out)⟩)
        · rw [show ix none = -1 from rfl] at hA
          rw [show ix (some j) = (j : Int) from rfl] at hB
          have HNO2 := hid (show ∀ a' : Nat, a' < a + 1 → ¬ ((free (dep L) x a').isSome = true ∧ (free (dep L) y a').isSome = true) from fun a' h' => by
            rcases Nat.lt_or_ge a' a with h2 | h2
            · exact HNO.out a' h2
            · obtain rfl : a' = a := by omega
              rintro ⟨q1, q2⟩
              rw [HFX.out] at q1; cases q1)
          go_wp2
          go_region_law (first
            | (go_simp; go_at_call 98; (with_reducible refine (hA.out _ (grew_drew (grew_refl wr))).mono ?_); rintro e w2 ⟨rfl, hx2⟩; have G2 := hid (grew_trans (grew_drew (grew_refl wr)) hx2); have m0 := (G2.out.cell (p := ⟨w.heap.size, 0, none⟩) hzw).trans kw0; have m1 := (G2.out.cell (p := ⟨w.heap.size, 1, none⟩) hzw).trans kw1; have mz := Nat.lt_of_lt_of_le hzw G2.out.size; clear hx2)
            | (go_simp; go_at_call 98; (with_reducible refine (hB.out _ G2.out).mono ?_); rintro e w3 ⟨rfl, hx3⟩; have G3 := hid (grew_trans G2.out hx3); clear hx3))
          all_goals (
            go_wp2
            go_roundg (x.length * (N + 1) + (N - (a + 1)))
            case measure => have := HK.out; omega
            case rel => exact ⟨a + 1, x, y, b, hid rfl, by go_num, by omega, hsum, hlx', hly', HWX, HNO2, HRR, hid (HSG.out.grew G3.out), hid (HLX.out.grew G3.out), hid (HLY.out.grew G3.out), hid (grew_trans HG.out G3.out)⟩)
      · rcases fy with _ | j
        · rw [show ix (some i) = (i : Int) from rfl] at hA
          rw [show ix none = -1 from rfl] at hB
          have HNO2 := hid (show ∀ a' : Nat, a' < a + 1 → ¬ ((free (dep L) x a').isSome = true ∧ (free (dep L) y a').isSome = true) from fun a' h' => by
            rcases Nat.lt_or_ge a' a with h2 | h2
            · exact HNO.out a' h2
            · obtain rfl : a' = a := by omega
              rintro ⟨q1, q2⟩
              rw [HFY.out] at q2; cases q2)
          go_wp2
          go_region_law (first
            | (go_simp; go_at_call 98; (with_reducible refine (hA.out _ (grew_drew (grew_refl wr))).mono ?_); rintro e w2 ⟨rfl, hx2⟩; have G2 := hid (grew_trans (grew_drew (grew_refl wr)) hx2); have m0 := (G2.out.cell (p := ⟨w.heap.size, 0, none⟩) hzw).trans kw0; have m1 := (G2.out.cell (p := ⟨w.heap.size, 1, none⟩) hzw).trans kw1; have mz := Nat.lt_of_lt_of_le hzw G2.out.size; clear hx2)
            | (go_simp; go_at_call 98; (with_reducible refine (hB.out _ G2.out).mono ?_); rintro e w3 ⟨rfl, hx3⟩; have G3 := hid (grew_trans G2.out hx3); clear hx3))
          all_goals (
            go_wp2
            go_roundg (x.length * (N + 1) + (N - (a + 1)))
            case measure => have := HK.out; omega
            case rel => exact ⟨a + 1, x, y, b, hid rfl, by go_num, by omega, hsum, hlx', hly', HWX, HNO2, HRR, hid (HSG.out.grew G3.out), hid (HLX.out.grew G3.out), hid (HLY.out.grew G3.out), hid (grew_trans HG.out G3.out)⟩)
        · rw [show ix (some i) = (i : Int) from rfl] at hA
          rw [show ix (some j) = (j : Int) from rfl] at hB
          obtain ⟨hil, -⟩ := free_lt HFX.out
          obtain ⟨hjl, -⟩ := free_lt HFY.out
          have hfind : (starts (dep L) N x).find? (fun a => (free (dep L) y a).isSome) = some (a : Int) := by
            refine find_first (starts_split hlt HFX.out) (fun z hz => ?_) (by rw [HFY.out]; rfl)
            obtain ⟨⟨z0, z1⟩, z2⟩ := mem_starts.1 hz
            obtain ⟨a', rfl⟩ : ∃ a' : Nat, z = a' := ⟨z.toNat, by omega⟩
            cases hq : (free (dep L) y (a' : Int)).isSome with
            | false => rfl
            | true => exact absurd ⟨z2, hq⟩ (HNO.out a' (by omega))
          have hcs := common_some hfind
          rw [free_pos HFX.out, free_pos HFY.out] at hcs
          have HCS := hid hcs; have HIL := hid hil; have HJL := hid hjl
          have hb9 : b.length < 1000000000 := by omega
          clear hcs hfind hil hjl
          go_wp2
          go_region_law (first
            | (go_simp; go_at_call 98; (with_reducible refine (hA.out _ (grew_drew (grew_refl wr))).mono ?_); rintro e w2 ⟨rfl, hx2⟩; have G2 := hid (grew_trans (grew_drew (grew_refl wr)) hx2); have m0 := (G2.out.cell (p := ⟨w.heap.size, 0, none⟩) hzw).trans kw0; have m1 := (G2.out.cell (p := ⟨w.heap.size, 1, none⟩) hzw).trans kw1; have mz := Nat.lt_of_lt_of_le hzw G2.out.size; clear hx2)
            | (go_simp; go_at_call 98; (with_reducible refine (hB.out _ G2.out).mono ?_); rintro e w3 ⟨rfl, hx3⟩; have G3 := hid (grew_trans G2.out hx3); clear hx3))
          all_goals (
            have HSG3 := hid (HSG.out.grew G3.out); have HLX3 := hid (HLX.out.grew G3.out); have HLY3 := hid (HLY.out.grew G3.out)
            have hz3 : W0.heap.size ≤ w3.heap.size := by have := HG.out.size; have := G3.out.size; omega
            go_wp2_with (first
              | (at_builtin; refine wpList_append_one rfl _ _ 25 rfl W0.heap.size 3 Try.underlying25 Try.info3 rfl (by decide) _ b.length _ rfl (HSG3.out.alloc _) _ _ _ rfl (one_new _ _ _) rfl hb9 ?_ ?_; (simp only [World.size_alloc]; omega); go_loud (
                  intro v9 w9 hown9 hgrow9 hblk9
                  have hk9 := ((Keeps.refl (fun k _ => (Value.slice ba b.length bc).ownBlock = some k) w3).alloc (.cells #[.int .i64 (a : Int)] 3)).trans (keeps_of_grown hgrow9)
                  have hb9' : Below W0.heap.size w3 w9 := hk9.below hz3 (fun k o e => (HSG3.out.own k e).1)
                  have hoff : ∀ k o, w3.heap[k]? = some o → (Value.slice ba b.length bc).ownBlock ≠ some k → v9.ownBlock ≠ some k ∧ (Value.slice ba b.length bc).ownBlock ≠ some k := fun k o ho h => ⟨fun e => by
                    rcases hblk9 with h9 | h9
                    · exact h (h9 ▸ e)
                    · rw [h9] at e; simp at e; have := lt_of_obj ho; omega, h⟩
                  have HX9 := hid ((HLX3.out.re (S' := fun k _ => v9.ownBlock ≠ some k ∧ (Value.slice ba b.length bc).ownBlock ≠ some k) hoff).keeps hk9 (fun k o h e => h.2 e))
                  have HY9 := hid ((HLY3.out.re (S' := fun k _ => v9.ownBlock ≠ some k ∧ (Value.slice ba b.length bc).ownBlock ≠ some k) hoff).keeps hk9 (fun k o h e => h.2 e))
                  have HOWN9 := hid hown9
                  have HG9 := hid (show Grew W0 w9 from (grew_trans HG.out G3.out).trans hb9')
                  clear hown9 hgrow9 hblk9 hk9 hb9' hoff))
              | (go_at_call 97; (with_reducible refine (rWithout_any _ x i _ HIL.out (Nat.le_trans hlx' (by omega)) HX9.out.wd).mono ?_); rintro e w10 ⟨v10, rfl, hs10, hx10⟩; have HS10 := hid hs10; have HX10 := hid hx10; clear hs10 hx10)
              | (go_at_call 97; (with_reducible refine (rWithout_any _ y j _ HJL.out (Nat.le_trans hly' (by omega)) (HY9.out.grew HX10.out).wd).mono ?_); rintro e w11 ⟨v11, rfl, hs11, hx11⟩; have HS11 := hid hs11; have HX11 := hid hx11; clear hs11 hx11))
            go_roundg ((x.eraseIdx i).length * (N + 1) + (N - 0))
            case measure =>
              have h1 := HK.out
              have h2 : (x.eraseIdx i).length = x.length - 1 := by rw [List.length_eraseIdx, if_pos HIL.out]
              have h3 : x.length * (N + 1) = (x.length - 1) * (N + 1) + (N + 1) := by
                have := HIL.out
                obtain ⟨q, hq⟩ : ∃ q, x.length = q + 1 := ⟨x.length - 1, by omega⟩
                rw [hq, Nat.add_sub_cancel, Nat.add_mul, Nat.one_mul]
              rw [h2]
              omega
            case rel =>
              have hlx2 : (x.eraseIdx i).length = x.length - 1 := by rw [List.length_eraseIdx, if_pos HIL.out]
              have hly2 : (y.eraseIdx j).length = y.length - 1 := by rw [List.length_eraseIdx, if_pos HJL.out]
              have hil2 := HIL.out
              refine ⟨0, x.eraseIdx i, y.eraseIdx j, b ++ [(a : Int)], hid rfl, by go_num, by omega, by rw [List.length_append, List.length_singleton]; omega, by omega, by omega, hid (fun z hz => HWX.out z (List.mem_of_mem_eraseIdx hz)), hid (fun a' h => by omega), hid (by rw [HRR.out, HCS.out]; simp), hid ?_, hid ?_, hid ?_, hid (grew_trans HG9.out (grew_trans HX10.out HX11.out))⟩
              · rw [List.map_append, List.length_append, List.length_singleton]
                exact HOWN9.out.grew (grew_trans HX10.out HX11.out)
              · exact ((WdOff.of_seg HS10.out).grew HX11.out).re (fun k o _ hk e => by have h1 := (HOWN9.out.own k e).2.1; omega)
              · exact (WdOff.of_seg HS11.out).re (fun k o _ hk e => by have h1 := (HOWN9.out.own k e).2.1; have h2 := HX10.out.size; omega))
    · obtain rfl : a = N := by omega
      have hnone : (starts (dep L) a x).find? (fun z => (free (dep L) y z).isSome) = none := List.find?_eq_none.2 (fun z hz h2 => by
        obtain ⟨⟨z0, z1⟩, z2⟩ := mem_starts.1 hz
        obtain ⟨a', rfl⟩ : ∃ a' : Nat, z = a' := ⟨z.toNat, by omega⟩
        exact HNO.out a' (by omega) ⟨z2, by simpa using h2⟩)
      have hre : R = (b, x, y) := by rw [HRR.out, common_none hnone]; simp
      have HRE := hid hre
      clear hre hnone
      go_wp2
      go_ret3
      refine ⟨_, _, _, rfl, ?_, ?_, ?_, grew_trans g0 HG.out⟩
      · rw [HRE.out]; exact HSG.out.mono g0.size
      · rw [HRE.out]; exact HLX.out
      · rw [HRE.out]; exact HLY.out

end Go.Proofs.Ytddnpooffcjhnaa
