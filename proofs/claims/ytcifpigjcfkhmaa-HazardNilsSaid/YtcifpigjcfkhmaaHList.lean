/- Walks: slices.Clone of a list, List, Held. -/
import Derived.Test.YtcifpigjcfkhmaaHDo2
import Derived.Test.YtcifpigjcfkhmaaHCount
namespace Go.Lin.Hz
open Go.RowKit Go.Lin

theorem Lst.of_seg {n : TypeId} {base : Nat} {w : World} {v : Value} {l : List Int} (h : Seg w base n 1 v l.length (l.map (.int .i64))) : Lst n w v l ∧ ∀ k, foot v = some k → base ≤ k := by
  rcases h.2 with ⟨rfl, h0⟩ | ⟨g, off, c, cur, rfl, hb, h1, h2, h3, h4, h5⟩
  · exact ⟨.inl ⟨none, rfl, List.eq_nil_of_length_eq_zero h0⟩, fun k hk => by simp [foot] at hk⟩
  · cases c with
    | zero =>
      have h0 : l.length = 0 := by omega
      refine ⟨.inl ⟨_, by rw [h0], List.eq_nil_of_length_eq_zero h0⟩, fun k hk => by simp [foot] at hk⟩
    | succ c => exact ⟨.inr ⟨rfl, h.mono (Nat.zero_le _)⟩, fun k hk => by simp [foot] at hk; omega⟩

def heldTo (Y : Yd) (j : Nat) : List Int := ((List.range j).map Int.ofNat).filter (held Y)

theorem heldTo_succ (Y : Yd) (j : Nat) : heldTo Y (j + 1) = if held Y j then heldTo Y j ++ [(j : Int)] else heldTo Y j := by
  unfold heldTo
  rw [List.range_succ, List.map_append, List.filter_append]
  cases h : held Y (j : Int) <;> simp [h]

theorem heldTo_le (Y : Yd) (j : Nat) : (heldTo Y j).length ≤ j := by
  unfold heldTo
  refine Nat.le_trans (List.length_filter_le _ _) (by simp)

end Go.Lin.Hz
namespace Go.Proofs.Ytcifpigjcfkhmaa
open Go.RowKit Go.Lin Go.Lin.Hz

theorem Try.info3 : (Try.prog.info? 3).map (fun i => (i.zero, i.size, i.bytes)) = some (some (.int .i64 0), 1, 8) := by kernel_rfl

set_option maxHeartbeats 1000000 in
theorem clone64_any (v : Value) (l : List Int) (w : World) (hn : l.length ≤ 1000000) (hv : IsInts Any w v l) :
    Calls Try.prog 64 #[v] w fun e w' => ∃ u, e = .returned u ∧ Seg w' w.heap.size 3 1 u l.length (l.map (.int .i64)) ∧ Grew w w' := by
  obtain ⟨a, cap, rfl, hm, hc⟩ := hv
  have HC := hid hc; clear hc
  rcases a with _ | ad
  · have h0 : l = [] := by
      cases l with
      | nil => rfl
      | cons x l => obtain ⟨_, _, _, h2, _⟩ := HC.out 0 (by simp); cases h2
    subst h0
    have hnil := fun w => Lib.run_eql_slice_nil (P := Try.prog) w 24 3 none 0 cap 0 0 Try.underlying24
    go_enter Try.func64, Try.ntmps64
    go_wp2
    go_ret
    exact ⟨.slice none 0 0, rfl, Seg.nil _ _ _ _, grew_refl _⟩
  · obtain ⟨vs, hvs⟩ : ∃ vs, l.map (Value.int .i64) = vs := ⟨_, rfl⟩
    obtain ⟨n, hnn⟩ : ∃ n, l.length = n := ⟨_, rfl⟩
    rw [hnn] at hn hm ⊢
    rw [hvs]
    have hnil := fun w => Lib.run_eql_slice_nil (P := Try.prog) w 24 3 (some ad) n cap 0 0 Try.underlying24
    obtain ⟨i0, hi, hz0, hz1, hz2⟩ := info_parts Try.info3
    have hsrc : Src Try.prog 1 24 (.slice (some ad) n cap) n vs (w.alloc (.cells #[] 3)) := by
      refine Src.ofSlice _ Try.underlying24 ad n cap _ (by rw [← hvs]; simp [hnn]) ?_ ?_
      · intro j u hj
        have hjn : j < l.length := by have := (List.getElem?_eq_some_iff.1 hj).1; rw [← hvs] at this; simpa using this
        rw [← hvs] at hj
        simp only [List.getElem?_map, List.getElem?_eq_getElem hjn, Option.map_some, Option.some.injEq] at hj
        obtain ⟨b, off, o, h2, h3, _, h5⟩ := HC.out j hjn
        cases h2
        rw [Addr.add_lit, World.cell?_alloc_lt (a := ⟨b, off + j, none⟩) _ _ (lt_of_obj h3), h5, ← hj, ← nth_lt hjn]
      · intro u hu
        rw [← hvs] at hu
        obtain ⟨i, _, rfl⟩ := List.mem_map.1 hu
        rfl
    have hseg : Seg (w.alloc (.cells #[] 3)) w.heap.size 3 1 (.slice (some ⟨w.heap.size, 0, none⟩) 0 0) 0 [] :=
      ⟨by simp, .inr ⟨w.heap.size, 0, 0, #[], rfl, Nat.le_refl _, heap_alloc_new w _, Nat.le_refl _, by unfold maxLen; omega, by simp, by simp⟩⟩
    have HSRC := hid hsrc; clear hsrc
    have HSEG := hid hseg; clear hseg
    clear HC hvs hnn
    go_enter Try.func64, Try.ntmps64
    go_wp2_with (at_builtin; refine wpList_append_seg rfl _ _ 24 24 rfl w.heap.size 3 i0 (.int .i64 0) 1 8 Try.underlying24 hi hz0 hz1 hz2 rfl _ 0 [] rfl HSEG.out _ rfl n _ HSRC.out (by unfold maxLen; omega) (by omega) ?_ ?_; simp; intro v1 w1 hown1 hgrow1 hblk1)
    go_ret
    have hg : Grew w w1 := ((grew_refl w).alloc (Nat.le_refl _) _).grown hgrow1 (by simp) (fun k e => by cases e; exact Nat.le_refl _)
    exact ⟨v1, rfl, by simpa using hown1, hg⟩

set_option maxHeartbeats 2000000 in
theorem held19_any (Y : Yd) (hI : Inv Y) (b tb cap : Nat) (lv : List Value) (w : World) (hv : YView w b Y tb cap lv) :
    Calls Try.prog 19 #[.pointer (some ⟨b, 0, none⟩)] w fun e w' => ∃ u, e = .returned u ∧ Seg w' w.heap.size 3 1 u (heldAll Y).length ((heldAll Y).map (.int .i64)) ∧ Grew w w' := by
  have HN := hid (none_head hI hv.head)
  have HH := hid (fun (n : Int) (y : World) (hy : Grew w y) => held57_any Y hI.th.2 b tb cap lv n y (hv.grew hy))
  have hg := grew_refl w
  clear hv
  go_enter Try.func19, Try.ntmps19
  go_wp2_with (go_at_call 56; with_reducible refine (HN.out _ hg).mono ?_; rintro e w1 ⟨rfl, hx⟩; replace hg := grew_trans hg hx; have hc := (bcell hg).1)
  go_loopg [3, 7] 8 (fun k out i wr => ∃ j n : Nat, j ≤ 8 ∧ n ≤ j ∧ i = .int .i64 j ∧ k = 8 - j ∧ Hid (n = (heldTo Y j).length) ∧ Hid (Seg wr w.heap.size 3 1 out n ((heldTo Y j).map (.int .i64))) ∧ Grew w wr)
  case atStart => exact ⟨0, 0, by omega, by omega, rfl, rfl, hid rfl, hid (Seg.nil _ _ _ _), hg⟩
  case round =>
    clear hg hc
    obtain ⟨j, n, hj, hnj, rfl, hk, HL, HS, hg⟩ := hrel
    have HK := hid hk; clear hk
    have hz := hg.size
    by_cases hlt8 : j < 8
    · have hsu := heldTo_succ Y j
      obtain ⟨p, hp⟩ : ∃ p, held Y (j : Int) = p := ⟨_, rfl⟩
      rw [hp] at hsu
      have HSU := hid hsu; clear hsu
      have HP := hid hp; clear hp
      have H2 := hid (fun (y : World) (hy : Grew w y) => HH.out (j : Int) y hy)
      rw [HP.out] at H2
      cases p
      · go_wp2_with (go_at_call 57; with_reducible refine (H2.out _ hg).mono ?_; rintro e w1 ⟨rfl, hx⟩; have HX := hid hx; replace hg := grew_trans hg hx; have hc := (bcell hg).1)
        go_roundg (8 - (j + 1))
        case measure => have := HK.out; omega
        case rel => exact ⟨j + 1, n, by omega, by omega, by go_num, rfl, hid (by rw [HSU.out]; exact HL.out), hid (by rw [HSU.out]; exact HS.out.grew HX.out), hg⟩
      · obtain ⟨vs, hvs⟩ : ∃ vs, (heldTo Y j).map (Value.int .i64) = vs := ⟨_, rfl⟩
        have HVS := hid hvs
        rw [hvs] at HS
        clear hvs
        go_wp2_with (first
          | (go_at_call 57; with_reducible refine (H2.out _ hg).mono ?_; rintro e w1 ⟨rfl, hx⟩; have hseg := HS.out.grew hx; replace hg := grew_trans hg hx; have hc := (bcell hg).1; have hz1 := hg.size)
          | (at_builtin; refine wpList_append_one rfl _ _ 24 rfl w.heap.size 3 Try.underlying24 Try.info3 rfl (by decide) _ (n) _ rfl (hseg.alloc _) _ _ _ rfl (one_new _ _ _) rfl (by omega) ?_ ?_; (simp only [World.size_alloc]; omega); intro v9 w9 hown9 hgrow9 hblk9; have hg9 := (hg.alloc hg.size _).grown hgrow9 (hg.alloc hg.size _).size (fun k e => (hseg.own k e).1); have hc9 := (bcell hg9).1; clear hgrow9))
        go_roundg (8 - (j + 1))
        case measure => have := HK.out; omega
        case rel => exact ⟨j + 1, n + 1, by omega, by omega, by go_num, rfl, hid (by rw [HSU.out]; simp [HL.out]), hid (by rw [HSU.out]; simpa [HVS.out] using hown9), hg9⟩
    · obtain rfl : j = 8 := by omega
      go_wp2
      go_ret
      exact ⟨_, rfl, by rw [show heldAll Y = heldTo Y 8 from rfl, ← HL.out]; exact HS.out, hg⟩

end Go.Proofs.Ytcifpigjcfkhmaa
