/- Walks: slices.Grow of a nil slice, and slices.Concat. -/
import Derived.Test.YtnebpcpihldllaaWAwake
import Derived.Lib.AppendZerosOnto
namespace Go.Lin

theorem take_succ_nthL {rows : List (List Int)} {k : Nat} (h : k < rows.length) : rows.take (k + 1) = rows.take k ++ [nthL rows k] := by
  rw [List.take_succ_eq_append_getElem h, nthL_lt h]

theorem flat_succ {rows : List (List Int)} {k : Nat} (h : k < rows.length) : (rows.take (k + 1)).flatten = (rows.take k).flatten ++ nthL rows k := by
  rw [take_succ_nthL h, List.flatten_append]; simp

theorem flat_le {rows : List (List Int)} (h : ∀ i, i < rows.length → (nthL rows i).length ≤ 100) : ∀ k, k ≤ rows.length → (rows.take k).flatten.length ≤ 100 * k := by
  intro k
  induction k with
  | zero => intro _; simp
  | succ k ih =>
    intro hk
    rw [flat_succ (by omega), List.length_append]
    have := ih (by omega)
    have := h k (by omega)
    omega
end Go.Lin
namespace Go.Proofs.Ytnebpcpihldllaa
open Go.RowKit Go.Lin

set_option maxHeartbeats 1000000 in
set_option maxRecDepth 100000 in
theorem grow_nil (n : Nat) (w : World) (hn : n ≤ 1000) :
    Calls Try.prog 106 #[.slice none 0 0, .int .i64 (n : Int)] w fun e w' => ∃ u, e = .returned u ∧ Seg w' w.heap.size 3 1 u 0 [] ∧ Grew w w' := by
  rcases Nat.eq_zero_or_pos n with h0 | h0
  · subst h0
    go_enter Try.func106, Try.ntmps106
    go_wp2
    go_ret
    exact ⟨_, rfl, Seg.nil _ _ _ _, grew_refl _⟩
  · obtain ⟨i0, hi, hz0, hz1, hz2⟩ := info_parts Try.info3
    have hrz : ∀ ty, (Builtin.append_ #[34, 3] ty #[.slice none 0 0, .int .i64 (n : Int)]).run Try.prog w =
        .ok (.slice (some ⟨w.heap.size, 0, none⟩) n (grownCap w n 0 3)) (w.drew.alloc (.cells (#[] ++ Builtin.zeroCells (Value.int .i64 0).cells n ++ Builtin.zeroCells (Value.int .i64 0).cells (grownCap w n 0 3 - n)) 3)) := fun ty => by
      have h := Lib.run_append_grow_zeros w 34 3 ty 3 i0 (.int .i64 0) .i64 .i64 Try.underlying34 Try.underlying3 hi hz0 none 0 0 [] (run_firstCells_none w.drew i0.size 0 0 0) n h0 (by omega) (by omega) (by omega) (by rw [hz2]; omega)
        (by rw [hz2]; exact growslice_fits (by omega) (by omega))
      simpa using h
    have hG1 : n ≤ grownCap w n 0 3 := grownCap_ge w _ _ _
    have hG2 : grownCap w n 0 3 ≤ maxLen := grownCap_le_maxLen w n 0 3 (by unfold maxLen; omega)
    obtain ⟨G, hG⟩ : ∃ G, grownCap w n 0 3 = G := ⟨_, rfl⟩
    rw [hG] at hrz hG1 hG2
    have hG3 : G ≤ 9223372036854775807 := by unfold maxLen at hG2; omega
    have HG2 := hid hG2
    obtain ⟨C, hC⟩ : ∃ C, (#[] ++ Builtin.zeroCells (Value.int .i64 0).cells n ++ Builtin.zeroCells (Value.int .i64 0).cells (G - n)) = C := ⟨_, rfl⟩
    have hCs : C.size = G := by rw [← hC]; simp [Builtin.zeroCells, Value.cells]; omega
    rw [hC] at hrz
    have HCS := hid hCs
    clear hG hC hCs hG2 hz1 hz2
    go_enter Try.func106, Try.ntmps106
    go_wp2_with (at_builtin; refine Lib.wpList_append_run _ rfl _ _ _ _ rfl _ _ rfl rfl _ _ (hrz _) ?_)
    go_ret
    refine ⟨_, rfl, ⟨by simp, .inr ⟨w.heap.size, 0, G, C, rfl, Nat.le_refl _, ?_, Nat.zero_le _, HG2.out, by rw [HCS.out]; omega, by simp⟩⟩, ?_⟩
    · exact heap_alloc_new w.drew _
    · exact grew_alloc (grew_drew (grew_refl w)) _

set_option maxHeartbeats 2000000 in
theorem concat_any (v : Value) (rows : List (List Int)) (w : World) (hv : IsRows Any w v rows) (h4 : rows.length ≤ 4) (hl : ∀ i, i < rows.length → 1 ≤ (nthL rows i).length ∧ (nthL rows i).length ≤ 100) :
    Calls Try.prog 85 #[v] w fun e w' => ∃ u, e = .returned u ∧ Seg w' w.heap.size 3 1 u rows.flatten.length (rows.flatten.map (.int .i64)) ∧ Grew w w' := by
  obtain ⟨V, ⟨a, cap, rfl, hm, hc⟩, hr⟩ := hv
  have HC := hid hc; have HR := hid hr; clear hc hr
  have hle := flat_le (fun i hi => (hl i hi).2)
  have HLE := hid hle; have HLEN := hid hl; clear hle hl
  go_enter Try.func85, Try.ntmps85
  go_wp2
  go_loopg [3, 11] rows.length (fun g s i wr => ∃ k t : Nat, k ≤ rows.length ∧ i = .int .i64 (k : Int) ∧ s = .int .i64 (t : Int) ∧ t ≤ 400 ∧ Hid ((rows.take k).flatten.length = t) ∧ Hid (g = rows.length - k) ∧ wr = w)
  case atStart => exact ⟨0, 0, Nat.zero_le _, rfl, rfl, by omega, hid rfl, hid rfl, rfl⟩
  case round =>
    obtain ⟨k, t, hk, rfl, rfl, ht, HT, HG, rfl⟩ := hrel
    by_cases hlt : k < rows.length
    · obtain ⟨b, off, o, rfl, ho, _, hck⟩ := HC.out k hlt
      obtain ⟨ra, rc, hrv⟩ := (show ∃ ra rc, V k = .slice ra (nthL rows k).length rc from by obtain ⟨ra, rc, h, _⟩ := HR.out k hlt; exact ⟨ra, rc, h⟩)
      rw [hrv] at hck
      have hrl := (HLEN.out k hlt).2
      have hbl := lt_of_obj ho
      have hfs := flat_succ hlt
      have hfl := HLE.out (k + 1) (by omega)
      rw [hfs, List.length_append, HT.out] at hfl
      have hneg : decide ((t : Int) + ((nthL rows k).length : Int) < 0) = false := decide_eq_false (by omega)
      have HFS := hid hfs; clear hfs hrv ho
      go_wp2
      go_roundg (rows.length - (k + 1))
      case measure => have := HG.out; omega
      case rel => exact ⟨k + 1, t + (nthL rows k).length, by omega, by go_num, by go_num, by omega, hid (by rw [HFS.out, List.length_append, HT.out]), hid rfl, rfl⟩
    · obtain rfl : k = rows.length := by omega
      have hgn := grow_nil t wr (by omega)
      have HGN := hid hgn; clear hgn
      go_wp2_with (go_at_call 106; with_reducible refine HGN.out.mono ?_; rintro e w1 ⟨u, rfl, hseg, hg1⟩)
      have HS0 := hid hseg
      clear hseg
      obtain ⟨W, rfl⟩ : ∃ W : World, W = wr := ⟨_, rfl⟩
      go_loopg [6, 27] rows.length (fun g u i wr => ∃ k : Nat, k ≤ rows.length ∧ i = .int .i64 (k : Int) ∧ Hid (g = rows.length - k) ∧ Grew W wr ∧ Seg wr W.heap.size 3 1 u (rows.take k).flatten.length ((rows.take k).flatten.map (.int .i64)))
      case atStart => exact ⟨0, Nat.zero_le _, rfl, hid rfl, hg1, HS0.out⟩
      case round =>
        clear HS0
        obtain ⟨k, hk2, rfl, HG2, hgr, hseg⟩ := hrel
        obtain ⟨sa, sc, rfl, _⟩ := hseg.shape
        have hsz := hgr.size
        by_cases hlt2 : k < rows.length
        · obtain ⟨b, off, o, rfl, ho, _, hck⟩ := HC.out k hlt2
          obtain ⟨ra, rc, hrv, hrm, hrc⟩ := HR.out k hlt2
          rw [hrv] at hck
          obtain ⟨l1, l2⟩ := HLEN.out k hlt2
          obtain ⟨b2, off2, o2, rfl, ho2, _, _⟩ := hrc 0 (by omega)
          have hbl : b < wr.heap.size := Nat.lt_of_lt_of_le (lt_of_obj ho) hsz
          have hck2 := (hgr.cell (p := ⟨b, off + k, none⟩) (lt_of_obj ho)).trans hck
          have hsrc : Src Try.prog 1 34 (.slice (some ⟨b2, off2, none⟩) (nthL rows k).length rc) (nthL rows k).length ((nthL rows k).map (.int .i64)) wr := by
            refine Src.ofSlice _ Try.underlying34 _ _ _ _ (by simp) ?_ ?_
            · intro j u hj
              have hjn : j < (nthL rows k).length := by have := (List.getElem?_eq_some_iff.1 hj).1; simpa using this
              obtain ⟨b3, off3, o3, h2, h3, _, h5⟩ := hrc j hjn
              cases h2
              rw [Addr.add_lit, hgr.cell (p := ⟨b2, off2 + j, none⟩) (lt_of_obj h3), h5]
              simp only [List.getElem?_map, List.getElem?_eq_getElem hjn, Option.map_some, Option.some.injEq] at hj
              rw [← hj]
              show some (Value.int .i64 (nth (nthL rows k) j)) = _
              rw [nth_lt hjn]
            · intro u hu
              obtain ⟨i, _, rfl⟩ := List.mem_map.1 hu
              rfl
          have hfs := flat_succ hlt2
          have hfl := HLE.out k (by omega)
          obtain ⟨i0, hi, hz0, hz1, hz2⟩ := info_parts Try.info3
          have HSRC := hid hsrc; have HSEG := hid hseg; have HFS := hid hfs
          have hfl2 : (rows.take k).flatten.length + (nthL rows k).length ≤ 1000 := by omega
          clear hsrc hseg hfs hrc hrv hck ho ho2 hfl
          obtain ⟨N, hN⟩ : ∃ N, (rows.take k).flatten.length = N := ⟨_, rfl⟩
          go_wp2_with (at_builtin; refine wpList_append_seg rfl _ _ 34 34 rfl W.heap.size 3 i0 (.int .i64 0) 1 8 Try.underlying34 hi hz0 hz1 hz2 rfl _ _ _ rfl HSEG.out _ rfl _ _ HSRC.out (by unfold maxLen; omega) (by omega) ?_ ?_; (omega); intro v1 w3 hown1 hgrow1 hblk1; have hg3 := hgr.grown hgrow1 hsz (fun k e => (HSEG.out.own k e).1))
          go_roundg (rows.length - (k + 1))
          case measure => have := HG2.out; omega
          case rel =>
            refine ⟨k + 1, by omega, by go_num, hid rfl, hg3, ?_⟩
            rw [HFS.out, List.map_append, List.length_append]
            exact hown1
        · obtain rfl : k = rows.length := by omega
          go_wp2
          go_ret
          have h : Seg wr W.heap.size 3 1 (.slice sa (List.take rows.length rows).flatten.length sc) rows.flatten.length (rows.flatten.map (.int .i64)) := by
            have h := hseg
            rw [List.take_length] at h ⊢
            exact h
          exact ⟨_, rfl, h, hgr⟩

theorem concat_two (g p q : Nat) (u v : Value) (xs ys : List Int) (w : World) (h0 : w.cell? ⟨g, 0, none⟩ = some u) (h1 : w.cell? ⟨g, 1, none⟩ = some v) (hu : IsInts Any w u xs) (hv : IsInts Any w v ys)
    (hp : xs.length = p) (hq : ys.length = q) (p1 : 1 ≤ p) (p4 : p ≤ 100) (q1 : 1 ≤ q) (q4 : q ≤ 100) :
    Calls Try.prog 85 #[.slice (some ⟨g, 0, none⟩) 2 2] w fun e w' => ∃ r, e = .returned r ∧ Seg w' w.heap.size 3 1 r (p + q) ((xs ++ ys).map (.int .i64)) ∧ Grew w w' := by
  have h := concat_any _ [xs, ys] w (two_rows h0 h1 hu hv) (by simp) (fun i hi => by
    have hi' : i = 0 ∨ i = 1 := by simp at hi; omega
    rcases hi' with rfl | rfl
    · simp [nthL]; omega
    · simp [nthL]; omega)
  refine h.mono ?_
  rintro e w' ⟨r, rfl, hs, hg⟩
  refine ⟨r, rfl, ?_, hg⟩
  have e1 : [xs, ys].flatten = xs ++ ys := by simp
  rw [e1] at hs
  have e2 : (xs ++ ys).length = p + q := by rw [List.length_append, hp, hq]
  rwa [e2] at hs
end Go.Proofs.Ytnebpcpihldllaa
