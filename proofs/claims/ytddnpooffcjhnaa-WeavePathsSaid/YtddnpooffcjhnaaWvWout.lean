/- Walk: without, of the program. -/
import Derived.Test.YtddnpooffcjhnaaWvConcat
namespace Go.Proofs.Ytddnpooffcjhnaa
open Go.RowKit Go.Lin Go.Lin.Wv

theorem two_rows {w : World} {g : Nat} {u v : Value} {xs ys : List Int} (h0 : w.cell? ⟨g, 0, none⟩ = some u) (h1 : w.cell? ⟨g, 1, none⟩ = some v) (hu : IsInts Any w u xs) (hv : IsInts Any w v ys) :
    IsRows Any w (.slice (some ⟨g, 0, none⟩) 2 2) [xs, ys] :=
  ⟨fun i => if i = 0 then u else v, ⟨_, _, rfl, by simp, fun i hi => by
    have hi' : i = 0 ∨ i = 1 := by simp at hi; omega
    have hz := World.block_lt_of_cell? w _ h0
    rcases hi' with rfl | rfl
    · exact ⟨_, _, _, rfl, Array.getElem?_eq_getElem hz, trivial, by simpa using h0⟩
    · exact ⟨_, _, _, rfl, Array.getElem?_eq_getElem hz, trivial, by simpa using h1⟩⟩, fun i hi => by
    have hi' : i = 0 ∨ i = 1 := by simp at hi; omega
    rcases hi' with rfl | rfl
    · simpa [nthL] using hu
    · simpa [nthL] using hv⟩


set_option maxHeartbeats 4000000 in
set_option maxRecDepth 20000 in
theorem without_any (wv : Value) (x : List Int) (i : Nat) (w : World) (hi : i < x.length) (hs : x.length ≤ 100) (hx : IsWd w wv x) : Calls Try.prog 100 #[wv, .int .i64 (i : Int)] w fun e w' => ∃ u, e = .returned u ∧ Seg w' w.heap.size 3 1 u (x.eraseIdx i).length ((x.eraseIdx i).map (.int .i64)) ∧ Grew w w' := by
  obtain ⟨va, vc, rfl, hcap, va0, vc0, hveq, hm, hc⟩ := hx
  obtain ⟨rfl, rfl⟩ : va = va0 ∧ vc = vc0 := by simp at hveq; exact ⟨hveq.1, hveq.2⟩
  clear hveq
  obtain ⟨m, hmm⟩ : ∃ m, x.length = m := ⟨_, rfl⟩
  rw [hmm] at hm hc hi hs hcap ⊢
  obtain ⟨b, off, o, hva, hob, -, -⟩ := hc 0 (by omega)
  subst hva
  have hiv : i ≤ vc := by omega
  have hiv2 : i + 1 ≤ vc := by omega
  have him : i + 1 ≤ m := by omega
  have hwr : IntKind.i64.wrap ((i : Int) + 1) = (i : Int) + 1 := IntWalk.i64_in _ (by omega)
  have htn : ((i : Int) + 1).toNat = i + 1 := by omega
  have hp0 : (0 : Int) ≤ (i : Int) + 1 := by omega
  have hR : Reads Any w (.slice (some ⟨b, off, none⟩) m vc) m (fun i => .int .i64 (nth x i)) := ⟨_, _, rfl, hm, hc⟩
  have hl1 : ((x.drop 0).take i).length = i := by simp; omega
  have hl2 : ((x.drop (i + 1)).take (m - (i + 1))).length = m - (i + 1) := by simp; omega
  have hgd : Grew w w.drew := grew_drew (grew_refl w)
  have he : (x.drop 0).take i ++ (x.drop (i + 1)).take (m - (i + 1)) = x.eraseIdx i := by
    rw [List.eraseIdx_eq_take_drop_succ, List.take_of_length_le (l := x.drop (i + 1)) (by rw [List.length_drop, hmm]; exact Nat.le_refl _)]; rfl
  obtain ⟨r, hr⟩ : ∃ r, m - (i + 1) = r := ⟨_, rfl⟩
  have hmr : m = i + 1 + r := by omega
  have hle : (i : Int) + 1 ≤ (i : Int) + 1 + (r : Int) := by omega
  have hlast : ∃ p2 : Addr, (if vc = i + 1 then (⟨b, off, none⟩ : Addr) else ⟨b, off + (i + 1), none⟩) = p2 := ⟨_, rfl⟩
  obtain ⟨p2, hp2⟩ := hlast
  obtain ⟨W8, hW8, g8, x0, x1, x2⟩ := box2 w.drew (.slice (some ⟨b, off, none⟩) i vc) (.slice (some p2) r (vc - (i + 1))) 25
  have r1 := part_ints hR hmm 0 i vc (by omega)
  have r2 : IsInts Any w (.slice (some p2) ((x.drop (i + 1)).take (m - (i + 1))).length (vc - (i + 1))) ((x.drop (i + 1)).take (m - (i + 1))) := by
    by_cases hv : vc = i + 1
    · have h0 : (x.drop (i + 1)).take (m - (i + 1)) = [] := List.length_eq_zero_iff.1 (by rw [hl2]; omega)
      rw [h0]; exact Reads.nil _ _ _ _ _
    · rw [if_neg hv] at hp2; subst hp2
      exact part_ints hR hmm (i + 1) (m - (i + 1)) _ (by omega)
  rw [Nat.add_zero] at r1
  rw [hr] at r2 hl2 he
  obtain ⟨X1, hX1⟩ : ∃ X1, (x.drop 0).take i = X1 := ⟨_, rfl⟩
  obtain ⟨X2, hX2⟩ : ∃ X2, (x.drop (i + 1)).take r = X2 := ⟨_, rfl⟩
  rw [hX1] at r1 hl1 he
  rw [hX2] at r2 hl2 he
  have y0 : W8.cell? ⟨w.drew.heap.size, 0, none⟩ = some (.slice (some ⟨b, off, none⟩) X1.length vc) := by rw [hl1]; exact x0
  have y1 : W8.cell? ⟨w.drew.heap.size, 1, none⟩ = some (.slice (some p2) X2.length (vc - (i + 1))) := by rw [hl2]; exact x1
  have hcc := concat_any _ _ W8 (two_rows y0 y1 (Reads.grew r1 (grew_trans hgd g8)) (Reads.grew r2 (grew_trans hgd g8))) (by simp) (fun j hj => by
    have hj' : j = 0 ∨ j = 1 := by simp at hj; omega
    rcases hj' with rfl | rfl
    · show X1.length ≤ 100; omega
    · show X2.length ≤ 100; omega)
  rw [show [X1, X2].flatten = x.eraseIdx i by simpa using he] at hcc
  obtain ⟨E, hE⟩ : ∃ E, x.eraseIdx i = E := ⟨_, rfl⟩
  rw [hE] at hcc ⊢
  have HCC := hid hcc
  have hgs : Grew w W8 := grew_trans hgd g8
  have HGS := hid hgs
  subst hmr
  clear hcc r1 r2 hl1 hl2 he hX1 hX2 y0 y1 hE hR hc hob hmm hr hgs hgd
  by_cases hvc : vc = i + 1
  all_goals (
    first
    | (rw [if_pos hvc] at hp2; subst hp2; obtain rfl : r = 0 := (by omega); subst hvc; rw [show i + 1 - (i + 1) = 0 by omega] at hW8; have hia : (i : Int) ≤ (i : Int) + 1 := (by omega))
    | (rw [if_neg hvc] at hp2; subst hp2; have hvc2 : ¬ vc ≤ i + 1 := (by omega))
    go_enter Try.func100, Try.ntmps100
    go_wp2
    go_region_law (go_simp; go_at_call 73; refine (show Calls _ _ _ _ _ from HCC.out).mono ?_; rintro e w7 ⟨cv, rfl, hseg7, hg7⟩)
    all_goals (
      go_wp2
      go_ret
      exact ⟨_, rfl, hseg7.mono HGS.out.size, grew_trans HGS.out hg7⟩))

end Go.Proofs.Ytddnpooffcjhnaa
