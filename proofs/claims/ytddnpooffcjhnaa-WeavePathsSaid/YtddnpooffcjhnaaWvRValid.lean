/- Walks of the reference: Valid, asked. -/
import Derived.Test.YtddnpooffcjhnaaWvAwake
import Derived.Stop.BytesEq
namespace Go.Lin
open Go

theorem all_range_int : ∀ (xs ys : List Int), xs.length = ys.length → ((List.range xs.length).all fun i => xs.getD i 0 == ys.getD i 0) = (xs == ys)
  | [], [], _ => rfl
  | x :: xs, y :: ys, h => by
    rw [List.length_cons, List.range_succ_eq_map, List.all_cons, List.all_map]
    simp only [List.getD_cons_zero, Function.comp_def, List.getD_cons_succ, all_range_int xs ys (by simpa using h)]
    simp [List.cons_beq_cons]
  | [], _ :: _, h => by simp at h
  | _ :: _, [], h => by simp at h

/-- Two arrays of ints, compared. -/
theorem run_equalIn_ints {P : Program} (w : World) (d : Nat) (t e : TypeId) (n : Nat) (ht : P.underlying t = some (.array n e)) (he : P.underlying e = some (.int .i64)) (hsz : ∀ w, (sizeOf e).run P w = .ok 1 w)
    (xs ys : List Int) (hx : xs.length = n) (hy : ys.length = n) :
    (Op.equalIn (d + 2) t (.agg (xs.map (Value.int .i64)).toArray) (.agg (ys.map (Value.int .i64)).toArray)).run P w = .ok (xs == ys) w := by
  rw [← all_range_int xs ys (hx.trans hy.symm), hx, List.range_eq_range', Op.equalIn]
  simp only [Sem.run_bind, run_underlying ht, Result.andThen_ok, hsz, Std.Legacy.Range.forIn_eq_forIn_range', Std.Legacy.Range.size, Nat.sub_zero, Nat.add_sub_cancel, Nat.div_one]
  have hl : ∀ i ∈ List.range' 0 n 1, i < n := fun i hi => by simpa using (List.mem_range'_1.1 hi).2
  generalize List.range' 0 n 1 = l at hl ⊢
  induction l with
  | nil => simp
  | cons i l ih =>
    have hi : i < n := hl i (by simp)
    have px : (part e (xs.map (Value.int .i64)).toArray (i * 1)).run P w = .ok (.int .i64 (xs.getD i 0)) w := by
      simp [part, isAgg, run_underlying he, List.getD, List.getElem?_eq_getElem (show i < xs.length by omega)]
    have py : (part e (ys.map (Value.int .i64)).toArray (i * 1)).run P w = .ok (.int .i64 (ys.getD i 0)) w := by
      simp [part, isAgg, run_underlying he, List.getD, List.getElem?_eq_getElem (show i < ys.length by omega)]
    have pe := run_equalIn_int (P := P) w d e .i64 .i64 (xs.getD i 0) (ys.getD i 0) he
    simp only [List.forIn_cons, Sem.run_bind, px, py, pe, Result.andThen_ok, List.all_cons]
    cases hb : (xs.getD i 0 == ys.getD i 0)
    · simp
    · simp only [Bool.not_true, Bool.false_eq_true, if_false, Sem.run_pure, Result.andThen_ok, Bool.true_and]
      exact ih fun j hj => hl j (by simp [hj])

theorem run_equal57 {P : Program} (w : World) (d : Nat) (t e : TypeId) (ht : P.underlying t = some (.array 2 e)) (he : P.underlying e = some (.int .i64)) (hsz : ∀ w, (sizeOf e).run P w = .ok 1 w) (a b c d' : Int) :
    (Op.equalIn (d + 2) t (.agg #[.int .i64 a, .int .i64 b]) (.agg #[.int .i64 c, .int .i64 d'])).run P w = .ok ((a, b) == (c, d')) w := by
  have h := run_equalIn_ints w d t e 2 ht he hsz [a, b] [c, d'] rfl rfl
  have e1 : ([a, b] == [c, d']) = ((a, b) == (c, d')) := by
    rw [Bool.eq_iff_iff]; simp
  rw [e1] at h
  exact h

end Go.Lin
namespace Go.Lin.Wv

theorem not_mem_succ {s : List (Int × Int)} {i : Nat} {y x : Int × Int} (h : s[i]? = some y) : (s.take (i + 1)).contains x = ((s.take i).contains x || (x == y)) := by
  rw [take_add_get h, List.contains_eq_any_beq, List.contains_eq_any_beq, List.any_append]
  simp

end Go.Lin.Wv
namespace Go.Proofs.Ytddnpooffcjhnaa
open Go.RowKit Go.Lin Go.Lin.Wv

theorem eq57 (a b c d : Int) (w : World) : (Op.equalIn 10000 57 (.agg #[.int .i64 a, .int .i64 b]) (.agg #[.int .i64 c, .int .i64 d])).run Try.prog w = .ok ((a, b) == (c, d)) w :=
  run_equal57 w 9998 57 3 Try.underlying57 Try.underlying3 (fun _ => by kernel_rfl) a b c d

set_option maxHeartbeats 8000000 in
set_option maxRecDepth 20000 in
theorem rValid_any (v : Value) (L : Lt) (w : World) (hv : IsLt w v L) : Calls Try.prog 38 #[v] w fun e w' => e = .returned (.bool (valid L)) ∧ Grew w w' := by
  obtain ⟨N, ps⟩ := L
  obtain ⟨s, rfl, va, vc, rfl, hm, hdd⟩ := hv
  simp only at hm hdd ⊢
  obtain ⟨m, hmm⟩ : ∃ m, ps.length = m := ⟨_, rfl⟩
  obtain ⟨W0, hW0, g0, k0, k1, hz⟩ := box2 w (.int .i64 N) (.slice va m vc) 24
  rw [hmm] at hm ⊢
  obtain ⟨R, hR⟩ : ∃ R, valid ⟨N, ps⟩ = R := ⟨_, rfl⟩
  rw [hR]
  have HR := hid (show R = (pairsOk N (ps.take 0) (ps.drop 0) && (decide (1 ≤ N) && decide (N ≤ 6))) from by rw [← hR]; rfl)
  have HM := hid hmm
  have HDD := hid hdd
  have hg := g0
  have heq := eq57
  clear hmm hdd hR
  by_cases h16 : 1 ≤ N ∧ N ≤ 6
  · obtain ⟨h1, h6⟩ := h16
    have hn1 : ¬ N < 1 := by omega
    have hn6 : ¬ 6 < N := by omega
    go_enter Try.func38, Try.ntmps38
    go_wp2
    go_loopg [3, 4, 18] m (fun k _ _ i wr => ∃ j : Nat, j ≤ m ∧ i = .int .i64 j ∧ k = m - j ∧ Hid (R = (pairsOk N (ps.take j) (ps.drop j) && (decide (1 ≤ N) && decide (N ≤ 6)))) ∧ Hid (Grew W0 wr))
    case atStart => exact ⟨0, by omega, rfl, rfl, HR, hid (grew_refl _)⟩
    case round =>
      obtain ⟨j, hj, rfl, hk, HRR, HG⟩ := hrel
      have HK := hid hk; clear hk
      rename World => wr
      have kw0 := (HG.out.cell (p := ⟨w.heap.size, 0, none⟩) hz).trans k0
      have kw1 := (HG.out.cell (p := ⟨w.heap.size, 1, none⟩) hz).trans k1
      have hzw := Nat.lt_of_lt_of_le hz HG.out.size
      by_cases hlt : j < m
      · obtain ⟨x, hx⟩ : ∃ x, ps[j]? = some x := ⟨_, List.getElem?_eq_getElem (by rw [HM.out]; exact hlt)⟩
        obtain ⟨bb, off, rfl, hpa⟩ := HDD.out j x hx
        have hpa2 := ((hpa.grew hpa.lt g0).grew (hpa.grew hpa.lt g0).lt HG.out)
        have c0 := hpa2.c0
        have c1 := hpa2.c1
        have hlt2 := hpa2.lt
        have hsucc := pairsOk_drop (n := N) (s := ps.take j) hx
        rw [← take_add_get hx] at hsucc
        obtain ⟨x1, x2⟩ := x
        simp only at c0 c1
        obtain ⟨W1, hW1, g1, l0, l1, hz1⟩ := box2 wr (.int .i64 x1) (.int .i64 x2) 57
        have HG1 := hid (grew_trans HG.out g1)
        have kx0 := (g1.cell (p := ⟨w.heap.size, 0, none⟩) hzw).trans kw0
        have kx1 := (g1.cell (p := ⟨w.heap.size, 1, none⟩) hzw).trans kw1
        have hzx := Nat.lt_of_lt_of_le hzw g1.size
        cases hpo : pairOk N (x1, x2) with
        | false =>
          have hrn : R = false := by rw [HRR.out, hsucc, hpo]; rfl
          have HRN := hid hrn
          unfold pairOk at hpo
          simp only [Bool.not_eq_false', Bool.or_eq_true, decide_eq_true_eq] at hpo
          have hcase : x1 < 0 ∨ (¬ x1 < 0 ∧ x2 < 0) ∨ (¬ x1 < 0 ∧ ¬ x2 < 0 ∧ x1 ≥ N) ∨ (¬ x1 < 0 ∧ ¬ x2 < 0 ∧ ¬ x1 ≥ N ∧ x2 ≥ N) ∨ (¬ x1 < 0 ∧ ¬ x2 < 0 ∧ ¬ x1 ≥ N ∧ ¬ x2 ≥ N ∧ x1 ≥ x2) := by omega
          clear hrn hsucc hx hpa hpa2 hpo
          rcases hcase with h | ⟨h1', h⟩ | ⟨h1', h2', h⟩ | ⟨h1', h2', h3', h⟩ | ⟨h1', h2', h3', h4', h⟩
          all_goals (
            go_wp2
            go_ret
            exact ⟨by rw [HRN.out]; rfl, grew_trans g0 HG1.out⟩)
        | true =>
          rw [hpo] at hsucc
          have hpo2 := hpo
          unfold pairOk at hpo2
          simp only [Bool.not_eq_true', Bool.or_eq_false_iff, decide_eq_false_iff_not] at hpo2
          obtain ⟨⟨h1', h2'⟩, h3'⟩ := hpo2
          have q2 : ¬ x2 < 0 := by omega
          have q3 : ¬ x1 ≥ N := by omega
          have q4 : ¬ x2 ≥ N := by omega
          have q5 : ¬ x1 ≥ x2 := by omega
          have hjc : j ≤ vc := by omega
          have hij0 : (0 : Int) ≤ (j : Int) := by omega
          have hijc : (j : Int) ≤ (vc : Int) := by omega
          have HSC := hid hsucc
          have HX := hid hx
          clear hsucc hx hpa hpa2 hpo h2' h3' hij0
          go_wp2
          go_loopg [6, 57] j (fun k2 _ i wr2 => ∃ i2 : Nat, i2 ≤ j ∧ i = .int .i64 i2 ∧ Hid (k2 = j - i2) ∧ Hid ((ps.take i2).contains (x1, x2) = false) ∧ Hid (Grew W1 wr2))
          case atStart => exact ⟨0, by omega, rfl, hid rfl, hid (by simp), hid (grew_refl _)⟩
          case round =>
            obtain ⟨i2, hi2, rfl, HK2, HC2, HG2⟩ := hrel
            rename World => wr2
            have jx0 := (HG2.out.cell (p := ⟨w.heap.size, 0, none⟩) hzx).trans kx0
            have jx1 := (HG2.out.cell (p := ⟨w.heap.size, 1, none⟩) hzx).trans kx1
            have jl0 := (HG2.out.cell (p := ⟨wr.heap.size, 0, none⟩) hz1).trans l0
            have jl1 := (HG2.out.cell (p := ⟨wr.heap.size, 1, none⟩) hz1).trans l1
            have hzy := Nat.lt_of_lt_of_le hz1 HG2.out.size
            by_cases hlt2' : i2 < j
            · obtain ⟨y, hy⟩ : ∃ y, ps[i2]? = some y := ⟨_, List.getElem?_eq_getElem (by rw [HM.out]; omega)⟩
              obtain ⟨bb2, off2, hva2, hpb⟩ := HDD.out i2 y hy
              simp only [Option.some.injEq, Addr.mk.injEq] at hva2
              obtain ⟨rfl, rfl, -⟩ := hva2
              have hpb2 := ((hpb.grew hpb.lt g0).grew (hpb.grew hpb.lt g0).lt HG1.out)
              have hpb3 := hpb2.grew hpb2.lt HG2.out
              have b0 := hpb3.c0
              have b1 := hpb3.c1
              have blt := hpb3.lt
              have hns := not_mem_succ (x := (x1, x2)) hy
              rw [HC2.out, Bool.false_or] at hns
              obtain ⟨y1, y2⟩ := y
              simp only at b0 b1
              have hby := fun (yw : World) => heq x1 x2 y1 y2 yw
              obtain ⟨q, hq⟩ : ∃ q, ((x1, x2) == (y1, y2)) = q := ⟨_, rfl⟩
              rw [hq] at hns
              simp only [hq] at hby
              have HNS := hid hns
              have HY := hid hy
              obtain ⟨W2, hW2, g2, m0, m1, hz2⟩ := box2 wr2 (.int .i64 y1) (.int .i64 y2) 57
              have HG3 := hid (grew_trans HG2.out g2)
              have nl0 := (g2.cell (p := ⟨wr.heap.size, 0, none⟩) hzy).trans jl0
              have nl1 := (g2.cell (p := ⟨wr.heap.size, 1, none⟩) hzy).trans jl1
              have hzz := Nat.lt_of_lt_of_le hzy g2.size
              clear hns hy hpb hpb2 hpb3 heq hq
              cases q
              · go_wp2
                go_roundg (j - (i2 + 1))
                case measure => have := HK2.out; omega
                case rel => exact ⟨i2 + 1, by omega, by go_num, hid rfl, hid HNS.out, hid HG3.out⟩
              · have hmem : (ps.take j).contains (x1, x2) = true := by
                  have h1 := HNS.out
                  rw [List.contains_iff_mem] at h1 ⊢
                  have hsub : (ps.take (i2 + 1)).Sublist (ps.take j) := (List.take_prefix_take_left (by omega)).sublist
                  exact hsub.subset h1
                have hrn : R = false := by rw [HRR.out, HSC.out, hmem]; rfl
                have HRN := hid hrn
                clear hmem hrn
                go_wp2
                go_ret
                exact ⟨by rw [HRN.out]; rfl, grew_trans g0 (grew_trans HG1.out HG3.out)⟩
            · obtain rfl : j = i2 := by omega
              go_wp2
              go_roundg (m - (j + 1))
              case measure => have := HK.out; omega
              case rel => exact ⟨j + 1, by omega, by go_num, rfl, hid (by rw [HRR.out, HSC.out, HC2.out]; rfl), hid (grew_trans HG1.out HG2.out)⟩
      · obtain rfl : m = j := by omega
        have hrn : R = true := by
          rw [HRR.out, List.drop_of_length_le (by rw [HM.out]; exact Nat.le_refl _)]; simp [pairsOk, h1, h6]
        have HRN := hid hrn
        clear hrn
        go_wp2
        go_ret
        exact ⟨by rw [HRN.out]; rfl, grew_trans g0 HG.out⟩
  · have hrn : R = false := by
      rw [HR.out]
      have : (decide (1 ≤ N) && decide (N ≤ 6)) = false := by
        rw [Bool.eq_false_iff]; intro h; simp at h; exact h16 h
      rw [this, Bool.and_false]
    have HRN := hid hrn
    clear hrn
    by_cases hn1 : N < 1
    · go_enter Try.func38, Try.ntmps38
      go_wp2
      go_ret
      exact ⟨by rw [HRN.out]; rfl, hg⟩
    · have hn6 : 6 < N := by omega
      go_enter Try.func38, Try.ntmps38
      go_wp2
      go_ret
      exact ⟨by rw [HRN.out]; rfl, hg⟩

end Go.Proofs.Ytddnpooffcjhnaa
