/- The statements' sanity check, and the small functions of the law: Awake, Long, wide; Equal of the reference. -/
import Derived.Test.YtnebpcpihldllaaWWord
namespace Go.Lin

/-- The flag of example 1. -/
def flagM : RSpec := ⟨2, 2, [[1, 0], [1, 1]], [[0, 0], [0, 1]]⟩

theorem flag_first : IsFirst (machOf flagM) (machOf flagM) 0 1 [1] where
  ok := fun x hx => by simp at hx; subst hx; decide
  tells := by decide
  least := fun v hv ht => by
    match v with
    | [] => exact absurd rfl ht
    | [x] =>
      have hx : x < 2 := hv x (by simp)
      have : x = 0 ∨ x = 1 := by omega
      rcases this with rfl | rfl
      · exact absurd (by decide) ht
      · exact sle_refl _
    | _ :: _ :: _ => exact .inl (by simp)

theorem flag_word {w : World} {u : Value} {ev : Int} (h : (ev = 0 ∧ ∃ ws, IsFirst (machOf flagM) (machOf flagM) 0 1 ws ∧ IsNats Any w u ws) ∨ (ev = 5 ∧ u = .slice none 0 0 ∧ NoTells (machOf flagM) (machOf flagM) 0 1)) : ev = 0 ∧ IsInts Any w u [1] := by
  rcases h with ⟨h1, ws, h2, h3⟩ | ⟨_, _, h⟩
  · have h4 := IsFirst.unique h2 flag_first
    subst h4
    exact ⟨h1, by simpa [ofN] using h3.ints⟩
  · exact absurd (h [1] flag_first.ok) flag_first.tells

end Go.Lin
namespace Go.Proofs.Ytnebpcpihldllaa
open Go.RowKit Go.Lin

theorem bool_either (b : Bool) : Value.bool b = .bool true ∨ Value.bool b = .bool false := by cases b <;> simp

theorem two_at {w : World} {g : Nat} {x y : Int} (h0 : w.cell? ⟨g, 0, none⟩ = some (.int .i64 x)) (h1 : w.cell? ⟨g, 1, none⟩ = some (.int .i64 y)) : IsInts Any w (.slice (some ⟨g, 0, none⟩) 2 2) [x, y] :=
  ⟨_, _, rfl, by simp, fun i hi => by
    have hi' : i = 0 ∨ i = 1 := by simp at hi; omega
    have hz := World.block_lt_of_cell? w _ h0
    rcases hi' with rfl | rfl
    · exact ⟨_, _, _, rfl, Array.getElem?_eq_getElem hz, trivial, by simpa [nth] using h0⟩
    · exact ⟨_, _, _, rfl, Array.getElem?_eq_getElem hz, trivial, by simpa [nth] using h1⟩⟩

theorem two_rows {w : World} {g : Nat} {u v : Value} {xs ys : List Int} (h0 : w.cell? ⟨g, 0, none⟩ = some u) (h1 : w.cell? ⟨g, 1, none⟩ = some v) (hu : IsInts Any w u xs) (hv : IsInts Any w v ys) :
    IsRows Any w (.slice (some ⟨g, 0, none⟩) 2 2) [xs, ys] :=
  ⟨fun i => if i = 0 then u else v, ⟨_, _, rfl, by simp, fun i hi => by
    have hi' : i = 0 ∨ i = 1 := by simp at hi; omega
    have hz := World.block_lt_of_cell? w _ h0
    rcases hi' with rfl | rfl
    · exact ⟨_, _, _, rfl, Array.getElem?_eq_getElem hz, trivial, by simpa using h0⟩
    · exact ⟨_, _, _, rfl, Array.getElem?_eq_getElem hz, trivial, by simpa using h1⟩⟩, fun i hi => by
    have hi' : i = 0 ∨ i = 1 := by simp at hi; omega
    rcases hi' with rfl | rfl
    · simpa [nthL] using hu
    · simpa [nthL] using hv⟩

set_option maxHeartbeats 2000000 in
theorem awake_any (w : World) : Calls Try.prog 17 #[] w fun e w' => e = .returned (.bool true) ∧ Grew w w' := by
  obtain ⟨W1, hW1, g1, a0, a1, z1⟩ := box2 w (.int .i64 1) (.int .i64 0) 3
  obtain ⟨W2, hW2, g2, b0, b1, z2⟩ := box2 W1 (.int .i64 1) (.int .i64 1) 3
  obtain ⟨W3, hW3, g3, c0, c1, z3⟩ := box2 W2 (.slice (some ⟨w.heap.size, 0, none⟩) 2 2) (.slice (some ⟨W1.heap.size, 0, none⟩) 2 2) 34
  obtain ⟨W4, hW4, g4, d0, d1, z4⟩ := box2 W3 (.int .i64 0) (.int .i64 0) 3
  obtain ⟨W5, hW5, g5, e0, e1, z5⟩ := box2 W4 (.int .i64 0) (.int .i64 1) 3
  obtain ⟨W6, hW6, g6, f0, f1, z6⟩ := box2 W5 (.slice (some ⟨W3.heap.size, 0, none⟩) 2 2) (.slice (some ⟨W4.heap.size, 0, none⟩) 2 2) 34
  obtain ⟨W7, hW7, g7, i0, i1, i2, i3, z7⟩ := box4 W6 (.int .i64 2) (.int .i64 2) (.slice (some ⟨W2.heap.size, 0, none⟩) 2 2) (.slice (some ⟨W5.heap.size, 0, none⟩) 2 2) 24
  have g67 := g7
  have g57 := grew_trans g6 g67
  have g47 := grew_trans g5 g57
  have g37 := grew_trans g4 g47
  have g27 := grew_trans g3 g37
  have g17 := grew_trans g2 g27
  have g07 := grew_trans g1 g17
  have hs : IsSpec W7 (.agg #[.int .i64 2, .int .i64 2, .slice (some ⟨W2.heap.size, 0, none⟩) 2 2, .slice (some ⟨W5.heap.size, 0, none⟩) 2 2]) flagM :=
    ⟨_, _, rfl, two_rows ((g37.cell (p := ⟨W2.heap.size, 0, none⟩) z3).trans c0) ((g37.cell (p := ⟨W2.heap.size, 1, none⟩) z3).trans c1) ((two_at a0 a1).grew g17) ((two_at b0 b1).grew g27),
      two_rows ((g67.cell (p := ⟨W5.heap.size, 0, none⟩) z6).trans f0) ((g67.cell (p := ⟨W5.heap.size, 1, none⟩) z6).trans f1) ((two_at d0 d1).grew g47) ((two_at e0 e1).grew g57)⟩
  have hw := word_ok flagM 0 1 _ W7 hs (by decide)
  rw [show ((0 : Nat) : Int) = 0 from rfl, show ((1 : Nat) : Int) = 1 from rfl] at hw
  have HW := hid hw; clear hw hs
  clear a0 a1 b0 b1 c0 c1 d0 d1 e0 e1 f0 f1
  go_enter Try.func17, Try.ntmps17
  go_wp2_with (first
    | (go_at_call 23; with_reducible refine HW.out.mono ?_; rintro e w1 ⟨u, ev, rfl, hg, hres⟩; have hfirst := flag_word hres; obtain ⟨rfl, hu⟩ := hfirst; clear hres)
    | (go_at_call 25; refine (sameInts_any _ _ [1] [1] _ (hu.grew ?_) ?_).mono ?_; exact (by repeat' (first | exact grew_refl _ | assumption | refine grew_alloc ?_ _ | refine Below.setCell ?_ (by (try simp); omega) _ | refine grew_drewN ?_ _ | refine grew_drew ?_ | refine grew_trans ?_ (by assumption))); (exact ⟨_, _, rfl, by simp, fun i hi => by (have hi' : i = 0 := by simpa using hi); subst hi'; exact ⟨_, _, _, rfl, heap_alloc_new _ _, trivial, by simp [nth]⟩⟩); rintro e w2 ⟨rfl, hg2⟩))
  go_ret
  refine ⟨ret_bool (by decide), (by repeat' (first | exact grew_refl _ | assumption | refine grew_alloc ?_ _ | refine Below.setCell ?_ (by (try simp); omega) _ | refine grew_drewN ?_ _ | refine grew_drew ?_ | refine grew_trans ?_ (by assumption)))⟩

set_option maxHeartbeats 1000000 in
theorem wide_any (v : Value) (rows : List (List Int)) (w : World) (hx : IsRows Any w v rows) :
    Calls Try.prog 55 #[v] w fun e w' => ∃ v, e = .returned v ∧ (v = .bool true ∨ v = .bool false) ∧ Grew w w' := by
  obtain ⟨V, ⟨a, cap, rfl, hm, hc⟩, hr⟩ := hx
  have HC := hid hc; clear hc
  have HR := hid hr; clear hr
  go_enter Try.func55, Try.ntmps55
  go_wp2
  go_loopg [7] (rows.length) (fun g i wr => ∃ k : Nat, k ≤ rows.length ∧ i = .int .i64 k ∧ Hid (g = rows.length - k) ∧ Grew w wr)
  case atStart => exact ⟨0, Nat.zero_le _, rfl, hid rfl, grew_refl _⟩
  case round =>
    obtain ⟨k, hk, rfl, HG, hg⟩ := hrel
    by_cases hlt : k < rows.length
    · obtain ⟨b, off, o, rfl, hb, _, hcx⟩ := HC.out k hlt
      have hcx' := (hg.cell (p := ⟨b, off + k, none⟩) (lt_of_obj hb)).trans hcx
      clear hb hcx
      obtain ⟨a2, cap2, hv2, _, _⟩ := HR.out k hlt
      rw [hv2] at hcx'
      clear hv2
      by_cases h40 : (40 : Int) < ((nthL rows k).length : Int)
      · go_wp2
        go_ret
        exact ⟨_, rfl, bool_either _, hg⟩
      · go_wp2
        go_roundg (rows.length - (k + 1))
        case measure => have := HG.out; omega
        case rel => exact ⟨k + 1, by omega, by go_num, hid rfl, hg⟩
    · obtain rfl : k = rows.length := by omega
      go_wp2
      all_goals (go_ret; exact ⟨_, rfl, bool_either _, hg⟩)

set_option maxHeartbeats 1000000 in
theorem long_any (s : RSpec) (sv : Value) (w : World) (hs : IsSpec w sv s) :
    Calls Try.prog 16 #[sv] w fun e w' => ∃ v, e = .returned v ∧ (v = .bool true ∨ v = .bool false) ∧ Grew w w' := by
  have HS := hs
  obtain ⟨nv, yv, rfl, hn, hy⟩ := hs
  obtain ⟨W0, hW0, g0, k0, k1, k2, k3, hz⟩ := box4 w (.int .i64 s.st) (.int .i64 s.ops) nv yv 24
  have hg := grew_refl W0
  go_enter Try.func16, Try.ntmps16
  go_wp2_with (first | (go_at_call 55; with_reducible refine (wide_any nv s.next _ (hn.grew (by exact grew_trans g0 hg))).mono ?_; rintro e w1 ⟨x1, rfl, hx1, hx⟩; replace hg := grew_trans hg hx; have hc := (bcell hg).1; rcases hx1 with rfl | rfl) | (go_at_call 55; with_reducible refine (wide_any yv s.says _ (hy.grew (by exact grew_trans g0 hg))).mono ?_; rintro e w1 ⟨x2, rfl, hx2, hx⟩; replace hg := grew_trans hg hx; have hc := (bcell hg).1; rcases hx2 with rfl | rfl))
  all_goals (go_ret; refine ⟨_, rfl, ?_, grew_trans g0 hg⟩; first | exact .inl rfl | exact .inr rfl)

set_option maxHeartbeats 1000000 in
theorem equal_any (s t : RSpec) (sv tv : Value) (w : World) (hs : IsSpec w sv s) (ht : IsSpec w tv t) :
    Calls Try.prog 20 #[sv, tv] w fun e w' => e = .returned (.bool (eqSpec s t)) ∧ Grew w w' := by
  obtain ⟨nv, yv, rfl, hn, hy⟩ := hs
  obtain ⟨mv, xv, rfl, hn2, hy2⟩ := ht
  obtain ⟨W0, hW0, g0, k0, k1, k2, k3, hz⟩ := box4 w (.int .i64 s.st) (.int .i64 s.ops) nv yv 24
  obtain ⟨W1, hW1, g1, l0, l1, l2, l3, hz1⟩ := box4 W0 (.int .i64 t.st) (.int .i64 t.ops) mv xv 24
  have m0 := (g1.cell (p := ⟨w.heap.size, 0, none⟩) hz).trans k0
  have m1 := (g1.cell (p := ⟨w.heap.size, 1, none⟩) hz).trans k1
  have m2 := (g1.cell (p := ⟨w.heap.size, 2, none⟩) hz).trans k2
  have m3 := (g1.cell (p := ⟨w.heap.size, 3, none⟩) hz).trans k3
  have hza : w.heap.size < W1.heap.size := Nat.lt_of_lt_of_le hz g1.size
  have g01 := grew_trans g0 g1
  have hg := grew_refl W1
  clear k0 k1 k2 k3
  by_cases h1 : s.st = t.st
  · have b1 : (s.st == t.st) = true := by simpa using h1
    have H1 := hid h1; clear h1
    by_cases h2 : s.ops = t.ops
    · have b2 : (s.ops == t.ops) = true := by simpa using h2
      have H2 := hid h2; clear h2
      cases hr1 : sameLL s.next t.next <;> cases hr2 : sameLL s.says t.says
      all_goals
        go_enter Try.func20, Try.ntmps20
        go_wp2_with (first | (go_at_call 63; with_reducible refine (sameLists_any nv mv s.next t.next _ (hn.grew (by exact grew_trans g01 hg)) (hn2.grew (by exact grew_trans g01 hg))).mono ?_; rw [hr1]; rintro e w1 ⟨rfl, hx⟩; replace hg := grew_trans hg hx; have hc := (bcell hg).1) | (go_at_call 63; with_reducible refine (sameLists_any yv xv s.says t.says _ (hy.grew (by exact grew_trans g01 hg)) (hy2.grew (by exact grew_trans g01 hg))).mono ?_; rw [hr2]; rintro e w1 ⟨rfl, hx⟩; replace hg := grew_trans hg hx; have hc := (bcell hg).1))
        go_ret
        refine ⟨ret_bool ?_, (by repeat' (first | exact grew_refl _ | assumption | refine grew_alloc ?_ _ | refine Below.setCell ?_ (by (try simp); omega) _ | refine grew_drewN ?_ _ | refine grew_drew ?_ | refine grew_trans ?_ (by assumption)))⟩
        unfold eqSpec
        rw [hr1, hr2]
        have := H1.out; have := H2.out
        simp [*]
    · have b2 : (s.ops == t.ops) = false := by simpa using h2
      have H2 := hid h2; clear h2
      go_enter Try.func20, Try.ntmps20
      go_wp2
      go_ret
      refine ⟨ret_bool ?_, (by repeat' (first | exact grew_refl _ | assumption | refine grew_alloc ?_ _ | refine Below.setCell ?_ (by (try simp); omega) _ | refine grew_drewN ?_ _ | refine grew_drew ?_ | refine grew_trans ?_ (by assumption)))⟩
      unfold eqSpec
      have := H2.out
      simp [*]
  · have b1 : (s.st == t.st) = false := by simpa using h1
    have H1 := hid h1; clear h1
    go_enter Try.func20, Try.ntmps20
    go_wp2
    go_ret
    refine ⟨ret_bool ?_, (by repeat' (first | exact grew_refl _ | assumption | refine grew_alloc ?_ _ | refine Below.setCell ?_ (by (try simp); omega) _ | refine grew_drewN ?_ _ | refine grew_drew ?_ | refine grew_trans ?_ (by assumption)))⟩
    unfold eqSpec
    have := H1.out
    simp [*]
end Go.Proofs.Ytnebpcpihldllaa
