/- Walks of the reference: Valid, asked. Walks of the reference: asked, limited; what exported functions answer. Walks of the program: rest, formed. What exported functions answer: Joined, Begins, Rest, First, of the program and of the reference. -/
import Derived.Test.YtddnpooffcjhnaaWvS
import Derived.Stop.BytesEq
namespace Go.Lin
open Go

theorem all_range_int : ∀ (xs ys : List Int), xs.length = ys.length → ((List.range xs.length).all fun i => xs.getD i 0 == ys.getD i 0) = (xs == ys)
  | [], [], _ => rfl
  | x :: xs, y :: ys, h => by
    rw [List.length_cons, List.range_succ_eq_map, List.all_cons, List.all_map]
    simp only [List.getD_cons_zero, Function.comp_def, List.getD_cons_succ, all_range_int xs ys (by simpa using h)]
    simp [List.cons_beq_cons]
  | [], _ :: _, h => by simp at h
  | _ :: _, [], h => by simp at h

/-- Two arrays of ints, compared. -/
theorem run_equalIn_ints {P : Program} (w : World) (d : Nat) (t e : TypeId) (n : Nat) (ht : P.underlying t = some (.array n e)) (he : P.underlying e = some (.int .i64)) (hsz : ∀ w, (sizeOf e).run P w = .ok 1 w)
    (xs ys : List Int) (hx : xs.length = n) (hy : ys.length = n) :
    (Op.equalIn (d + 2) t (.agg (xs.map (Value.int .i64)).toArray) (.agg (ys.map (Value.int .i64)).toArray)).run P w = .ok (xs == ys) w := by
  rw [← all_range_int xs ys (hx.trans hy.symm), hx, List.range_eq_range', Op.equalIn]
  simp only [Sem.run_bind, run_underlying ht, Result.andThen_ok, hsz, Std.Legacy.Range.forIn_eq_forIn_range', Std.Legacy.Range.size, Nat.sub_zero, Nat.add_sub_cancel, Nat.div_one]
  have hl : ∀ i ∈ List.range' 0 n 1, i < n := fun i hi => by simpa using (List.mem_range'_1.1 hi).2
  generalize List.range' 0 n 1 = l at hl ⊢
  induction l with
  | nil => simp
  | cons i l ih =>
    have hi : i < n := hl i (by simp)
    have px : (part e (xs.map (Value.int .i64)).toArray (i * 1)).run P w = .ok (.int .i64 (xs.getD i 0)) w := by
      simp [part, isAgg, run_underlying he, List.getD, List.getElem?_eq_getElem (show i < xs.length by omega)]
    have py : (part e (ys.map (Value.int .i64)).toArray (i * 1)).run P w = .ok (.int .i64 (ys.getD i 0)) w := by
      simp [part, isAgg, run_underlying he, List.getD, List.getElem?_eq_getElem (show i < ys.length by omega)]
    have pe := run_equalIn_int (P := P) w d e .i64 .i64 (xs.getD i 0) (ys.getD i 0) he
    simp only [List.forIn_cons, Sem.run_bind, px, py, pe, Result.andThen_ok, List.all_cons]
    cases hb : (xs.getD i 0 == ys.getD i 0)
    · simp
    · simp only [Bool.not_true, Bool.false_eq_true, if_false, Sem.run_pure, Result.andThen_ok, Bool.true_and]
      exact ih fun j hj => hl j (by simp [hj])

theorem run_equal57 {P : Program} (w : World) (d : Nat) (t e : TypeId) (ht : P.underlying t = some (.array 2 e)) (he : P.underlying e = some (.int .i64)) (hsz : ∀ w, (sizeOf e).run P w = .ok 1 w) (a b c d' : Int) :
    (Op.equalIn (d + 2) t (.agg #[.int .i64 a, .int .i64 b]) (.agg #[.int .i64 c, .int .i64 d'])).run P w = .ok ((a, b) == (c, d')) w := by
  have h := run_equalIn_ints w d t e 2 ht he hsz [a, b] [c, d'] rfl rfl
  have e1 : ([a, b] == [c, d']) = ((a, b) == (c, d')) := by
    rw [Bool.eq_iff_iff]; simp
  rw [e1] at h
  exact h

end Go.Lin
namespace Go.Lin.Wv

theorem not_mem_succ {s : List (Int × Int)} {i : Nat} {y x : Int × Int} (h : s[i]? = some y) : (s.take (i + 1)).contains x = ((s.take i).contains x || (x == y)) := by
  rw [take_add_get h, List.contains_eq_any_beq, List.contains_eq_any_beq, List.any_append]
  simp

end Go.Lin.Wv
namespace Go.Proofs.Ytddnpooffcjhnaa
open Go.RowKit Go.Lin Go.Lin.Wv

theorem eq57 (a b c d : Int) (w : World) : (Op.equalIn 10000 57 (.agg #[.int .i64 a, .int .i64 b]) (.agg #[.int .i64 c, .int .i64 d])).run Try.prog w = .ok ((a, b) == (c, d)) w :=
  run_equal57 w 9998 57 3 Try.underlying57 Try.underlying3 (fun _ => by kernel_rfl) a b c d

set_option maxHeartbeats 8000000 in
set_option maxRecDepth 20000 in
theorem rValid_any (v : Value) (L : Lt) (w : World) (hv : IsLt w v L) : Calls Try.prog 38 #[v] w fun e w' => e = .returned (.bool (valid L)) ∧ Grew w w' := by
  obtain ⟨N, ps⟩ := L
  obtain ⟨s, rfl, va, vc, rfl, hm, hdd⟩ := hv
  simp only at hm hdd ⊢
  obtain ⟨m, hmm⟩ : ∃ m, ps.length = m := ⟨_, rfl⟩
  obtain ⟨W0, hW0, g0, k0, k1, hz⟩ := box2 w (.int .i64 N) (.slice va m vc) 24
  rw [hmm] at hm ⊢
  obtain ⟨R, hR⟩ : ∃ R, valid ⟨N, ps⟩ = R := ⟨_, rfl⟩
  rw [hR]
  have HR := hid (show R = (pairsOk N (ps.take 0) (ps.drop 0) && (decide (1 ≤ N) && decide (N ≤ 6))) from by rw [← hR]; rfl)
  have HM := hid hmm
  have HDD := hid hdd
  have hg := g0
  have heq := eq57
  clear hmm hdd hR
  by_cases h16 : 1 ≤ N ∧ N ≤ 6
  · obtain ⟨h1, h6⟩ := h16
    have hn1 : ¬ N < 1 := by omega
    have hn6 : ¬ 6 < N := by omega
    go_enter Try.func38, Try.ntmps38
    go_wp2
    go_loopg [3, 4, 18] m (fun k _ _ i wr => ∃ j : Nat, j ≤ m ∧ i = .int .i64 j ∧ k = m - j ∧ Hid (R = (pairsOk N (ps.take j) (ps.drop j) && (decide (1 ≤ N) && decide (N ≤ 6)))) ∧ Hid (Grew W0 wr))
    case atStart => exact ⟨0, by omega, rfl, rfl, HR, hid (grew_refl _)⟩
    case round =>
      obtain ⟨j, hj, rfl, hk, HRR, HG⟩ := hrel
      have HK := hid hk; clear hk
      rename World => wr
      have kw0 := (HG.out.cell (p := ⟨w.heap.size, 0, none⟩) hz).trans k0
      have kw1 := (HG.out.cell (p := ⟨w.heap.size, 1, none⟩) hz).trans k1
      have hzw := Nat.lt_of_lt_of_le hz HG.out.size
      by_cases hlt : j < m
      · obtain ⟨x, hx⟩ : ∃ x, ps[j]? = some x := ⟨_, List.getElem?_eq_getElem (by rw [HM.out]; exact hlt)⟩
        obtain ⟨bb, off, rfl, hpa⟩ := HDD.out j x hx
        have hpa2 := ((hpa.grew hpa.lt g0).grew (hpa.grew hpa.lt g0).lt HG.out)
        have c0 := hpa2.c0
        have c1 := hpa2.c1
        have hlt2 := hpa2.lt
        have hsucc := pairsOk_drop (n := N) (s := ps.take j) hx
        rw [← take_add_get hx] at hsucc
        obtain ⟨x1, x2⟩ := x
        simp only at c0 c1
        obtain ⟨W1, hW1, g1, l0, l1, hz1⟩ := box2 wr (.int .i64 x1) (.int .i64 x2) 57
        have HG1 := hid (grew_trans HG.out g1)
        have kx0 := (g1.cell (p := ⟨w.heap.size, 0, none⟩) hzw).trans kw0
        have kx1 := (g1.cell (p := ⟨w.heap.size, 1, none⟩) hzw).trans kw1
        have hzx := Nat.lt_of_lt_of_le hzw g1.size
        cases hpo : pairOk N (x1, x2) with
        | false =>
          have hrn : R = false := by rw [HRR.out, hsucc, hpo]; rfl
          have HRN := hid hrn
          unfold pairOk at hpo
          simp only [Bool.not_eq_false', Bool.or_eq_true, decide_eq_true_eq] at hpo
          have hcase : x1 < 0 ∨ (¬ x1 < 0 ∧ x2 < 0) ∨ (¬ x1 < 0 ∧ ¬ x2 < 0 ∧ x1 ≥ N) ∨ (¬ x1 < 0 ∧ ¬ x2 < 0 ∧ ¬ x1 ≥ N ∧ x2 ≥ N) ∨ (¬ x1 < 0 ∧ ¬ x2 < 0 ∧ ¬ x1 ≥ N ∧ ¬ x2 ≥ N ∧ x1 ≥ x2) := by omega
          clear hrn hsucc hx hpa hpa2 hpo
          rcases hcase with h | ⟨h1', h⟩ | ⟨h1', h2', h⟩ | ⟨h1', h2', h3', h⟩ | ⟨h1', h2', h3', h4', h⟩
          all_goals (
            go_wp2
            go_ret
            exact ⟨by rw [HRN.out]; rfl, grew_trans g0 HG1.out⟩)
        | true =>
          rw [hpo] at hsucc
          have hpo2 := hpo
          unfold pairOk at hpo2
          simp only [Bool.not_eq_true', Bool.or_eq_false_iff, decide_eq_false_iff_not] at hpo2
          obtain ⟨⟨h1', h2'⟩, h3'⟩ := hpo2
          have q2 : ¬ x2 < 0 := by omega
          have q3 : ¬ x1 ≥ N := by omega
          have q4 : ¬ x2 ≥ N := by omega
          have q5 : ¬ x1 ≥ x2 := by omega
          have hjc : j ≤ vc := by omega
          have hij0 : (0 : Int) ≤ (j : Int) := by omega
          have hijc : (j : Int) ≤ (vc : Int) := by omega
          have HSC := hid hsucc
          have HX := hid hx
          clear hsucc hx hpa hpa2 hpo h2' h3' hij0
          go_wp2
          go_loopg [6, 57] j (fun k2 _ i wr2 => ∃ i2 : Nat, i2 ≤ j ∧ i = .int .i64 i2 ∧ Hid (k2 = j - i2) ∧ Hid ((ps.take i2).contains (x1, x2) = false) ∧ Hid (Grew W1 wr2))
          case atStart => exact ⟨0, by omega, rfl, hid rfl, hid (by simp), hid (grew_refl _)⟩
          case round =>
            obtain ⟨i2, hi2, rfl, HK2, HC2, HG2⟩ := hrel
            rename World => wr2
            have jx0 := (HG2.out.cell (p := ⟨w.heap.size, 0, none⟩) hzx).trans kx0
            have jx1 := (HG2.out.cell (p := ⟨w.heap.size, 1, none⟩) hzx).trans kx1
            have jl0 := (HG2.out.cell (p := ⟨wr.heap.size, 0, none⟩) hz1).trans l0
            have jl1 := (HG2.out.cell (p := ⟨wr.heap.size, 1, none⟩) hz1).trans l1
            have hzy := Nat.lt_of_lt_of_le hz1 HG2.out.size
            by_cases hlt2' : i2 < j
            · obtain ⟨y, hy⟩ : ∃ y, ps[i2]? = some y := ⟨_, List.getElem?_eq_getElem (by rw [HM.out]; omega)⟩
              obtain ⟨bb2, off2, hva2, hpb⟩ := HDD.out i2 y hy
              simp only [Option.some.injEq, Addr.mk.injEq] at hva2
              obtain ⟨rfl, rfl, -⟩ := hva2
              have hpb2 := ((hpb.grew hpb.lt g0).grew (hpb.grew hpb.lt g0).lt HG1.out)
              have hpb3 := hpb2.grew hpb2.lt HG2.out
              have b0 := hpb3.c0
              have b1 := hpb3.c1
              have blt := hpb3.lt
              have hns := not_mem_succ (x := (x1, x2)) hy
              rw [HC2.out, Bool.false_or] at hns
              obtain ⟨y1, y2⟩ := y
              simp only at b0 b1
              have hby := fun (yw : World) => heq x1 x2 y1 y2 yw
              obtain ⟨q, hq⟩ : ∃ q, ((x1, x2) == (y1, y2)) = q := ⟨_, rfl⟩
              rw [hq] at hns
              simp only [hq] at hby
              have HNS := hid hns
              have HY := hid hy
              obtain ⟨W2, hW2, g2, m0, m1, hz2⟩ := box2 wr2 (.int .i64 y1) (.int .i64 y2) 57
              have HG3 := hid (grew_trans HG2.out g2)
              have nl0 := (g2.cell (p := ⟨wr.heap.size, 0, none⟩) hzy).trans jl0
              have nl1 := (g2.cell (p := ⟨wr.heap.size, 1, none⟩) hzy).trans jl1
              have hzz := Nat.lt_of_lt_of_le hzy g2.size
              clear hns hy hpb hpb2 hpb3 heq hq
              cases q
              · go_wp2
                go_roundg (j - (i2 + 1))
                case measure => have := HK2.out; omega
                case rel => exact ⟨i2 + 1, by omega, by go_num, hid rfl, hid HNS.out, hid HG3.out⟩
              · have hmem : (ps.take j).contains (x1, x2) = true := by
                  have h1 := HNS.out
                  rw [List.contains_iff_mem] at h1 ⊢
                  have hsub : (ps.take (i2 + 1)).Sublist (ps.take j) := (List.take_prefix_take_left (by omega)).sublist
                  exact hsub.subset h1
                have hrn : R = false := by rw [HRR.out, HSC.out, hmem]; rfl
                have HRN := hid hrn
                clear hmem hrn
                go_wp2
                go_ret
                exact ⟨by rw [HRN.out]; rfl, grew_trans g0 (grew_trans HG1.out HG3.out)⟩
            · obtain rfl : j = i2 := by omega
              go_wp2
              go_roundg (m - (j + 1))
              case measure => have := HK.out; omega
              case rel => exact ⟨j + 1, by omega, by go_num, rfl, hid (by rw [HRR.out, HSC.out, HC2.out]; rfl), hid (grew_trans HG1.out HG2.out)⟩
      · obtain rfl : m = j := by omega
        have hrn : R = true := by
          rw [HRR.out, List.drop_of_length_le (by rw [HM.out]; exact Nat.le_refl _)]; simp [pairsOk, h1, h6]
        have HRN := hid hrn
        clear hrn
        go_wp2
        go_ret
        exact ⟨by rw [HRN.out]; rfl, grew_trans g0 HG.out⟩
  · have hrn : R = false := by
      rw [HR.out]
      have : (decide (1 ≤ N) && decide (N ≤ 6)) = false := by
        rw [Bool.eq_false_iff]; intro h; simp at h; exact h16 h
      rw [this, Bool.and_false]
    have HRN := hid hrn
    clear hrn
    by_cases hn1 : N < 1
    · go_enter Try.func38, Try.ntmps38
      go_wp2
      go_ret
      exact ⟨by rw [HRN.out]; rfl, hg⟩
    · have hn6 : 6 < N := by omega
      go_enter Try.func38, Try.ntmps38
      go_wp2
      go_ret
      exact ⟨by rw [HRN.out]; rfl, hg⟩

end Go.Proofs.Ytddnpooffcjhnaa
namespace Go.Lin.Wv

theorem wrong_nil (L : Lt) (x : List Int) : wrong L [x, []] = wrong L [x] := by
  unfold wrong
  simp [isW]

theorem wrong_cases (L : Lt) (ws : List (List Int)) : wrong L ws = 0 ∨ wrong L ws = 30 ∨ wrong L ws = 31 := by
  unfold wrong
  split
  · split <;> simp
  · simp

end Go.Lin.Wv
namespace Go.Proofs.Ytddnpooffcjhnaa
open Go.RowKit Go.Lin Go.Lin.Wv

set_option maxHeartbeats 2000000 in
theorem asked_any (v : Value) (L : Lt) (wv uv : Value) (x y : List Int) (w : World) (hv : IsLt w v L) (hx : IsInts Any w wv x) (hy : IsInts Any w uv y) :
    Calls Try.prog 64 #[v, wv, uv] w fun e w' => e = .returned (.int .i64 (wrong L [x, y])) ∧ Grew w w' := by
  have HVA := hid (fun (W : World) (hW : Grew w W) => rValid_any v L W (hv.grew hW))
  have HWX := hid (fun (W : World) (hW : Grew w W) => isW_any v L wv x W (hv.grew hW) (Reads.grew hx hW))
  have HWY := hid (fun (W : World) (hW : Grew w W) => isW_any v L uv y W (hv.grew hW) (Reads.grew hy hW))
  obtain ⟨s, rfl, -⟩ := hv
  obtain ⟨W0, hW0, g0, k0, k1, hz⟩ := box2 w (.int .i64 L.n) s 24
  have HW := hid (show wrong L [x, y] = if valid L then (if isW L x && isW L y then 0 else 31) else 30 from by unfold wrong; simp)
  obtain ⟨r, hr⟩ : ∃ r, wrong L [x, y] = r := ⟨_, rfl⟩
  rw [hr] at HW ⊢
  obtain ⟨p, hp⟩ : ∃ p, valid L = p := ⟨_, rfl⟩
  obtain ⟨q1, hq1⟩ : ∃ p, isW L x = p := ⟨_, rfl⟩
  obtain ⟨q2, hq2⟩ : ∃ p, isW L y = p := ⟨_, rfl⟩
  have hW2 := HW.out
  rw [hp, hq1, hq2] at hW2
  rw [hp] at HVA; rw [hq1] at HWX; rw [hq2] at HWY
  have hg := grew_refl W0
  clear HW hr hx hy hp hq1 hq2
  cases p <;> cases q1 <;> cases q2
  all_goals (
    simp only [Bool.and_true, Bool.and_false, Bool.and_self, if_true, if_false, Bool.false_eq_true] at hW2
    subst hW2
    go_enter Try.func64, Try.ntmps64
    go_wp2_with (first
      | (go_at_call 38; (with_reducible refine (HVA.out _ (grew_trans g0 hg)).mono ?_); rintro e w1 ⟨rfl, hx⟩; replace hg := grew_trans hg hx; have hc := (bcell hg).1; clear hx)
      | (go_at_call 53; (with_reducible refine (HWX.out _ (grew_trans g0 hg)).mono ?_); rintro e w2 ⟨rfl, hx⟩; replace hg := grew_trans hg hx; have hc := (bcell hg).1; clear hx)
      | (go_at_call 53; (with_reducible refine (HWY.out _ (grew_trans g0 hg)).mono ?_); rintro e w2 ⟨rfl, hx⟩; replace hg := grew_trans hg hx; have hc := (bcell hg).1; clear hx))
    go_ret
    exact ⟨rfl, grew_trans g0 hg⟩)

end Go.Proofs.Ytddnpooffcjhnaa
namespace Go.Proofs.Ytddnpooffcjhnaa
open Go.RowKit Go.Lin Go.Lin.Wv

theorem wd_nil (w : World) : IsWd w (.slice none 0 0) [] := ⟨none, 0, rfl, by simp, Reads.nil _ _ _ _ _⟩

set_option maxHeartbeats 8000000 in
set_option maxRecDepth 20000 in
theorem rest_any {D : Int → Int → Bool} (B N : Nat) (uv wv : Value) (p x : List Int) (w : World) (hN : N ≤ 6) (hlen : x.length ≤ 100) (hpw : ∀ z ∈ p, 0 ≤ z ∧ z < (N : Int)) (hxw : ∀ z ∈ x, 0 ≤ z ∧ z < (N : Int)) (hL : Loom w B D N) (hp : IsInts Any w uv p) (hx : IsWd w wv x) :
    Calls Try.prog 76 #[.pointer (some ⟨B, 0, none⟩), uv, wv] w fun e w' => (∃ y, rest D p x = some y ∧ ∃ u, e = .returned (.tuple #[u, .bool true]) ∧ IsWd w' u y ∧ Grew w w') ∨ (rest D p x = none ∧ e = .returned (.tuple #[.slice none 0 0, .bool false]) ∧ Grew w w') := by
  obtain ⟨pa, pc, rfl, hpm, hpcell⟩ := hp
  obtain ⟨m, hmm⟩ : ∃ m, p.length = m := ⟨_, rfl⟩
  rw [hmm] at hpm hpcell ⊢
  have HM := hid hmm
  have HPC := hid hpcell
  have HL := hid hL; have HPW := hid hpw; have HXW := hid hxw; have HX := hid hx
  obtain ⟨R, hR⟩ : ∃ R, rest D p x = R := ⟨_, rfl⟩
  have HR0 := hid (show R = rest D (p.drop 0) x from hR ▸ rfl)
  rw [hR]
  obtain ⟨xa, xc, rfl⟩ := isWd_slice hx
  clear hR hmm hpcell hx hL hpw hxw
  go_enter Try.func76, Try.ntmps76
  go_wp2
  go_loopg [2, 9, 10, 13] m (fun k lv _ _ i wr => ∃ (j : Nat) (y : List Int), j ≤ m ∧ i = .int .i64 j ∧ k = m - j ∧ y.length ≤ 100 ∧ Hid (R = rest D (p.drop j) y) ∧ Hid (IsWd wr lv y) ∧ Hid (∀ z ∈ y, 0 ≤ z ∧ z < (N : Int)) ∧ Hid (Grew w wr))
  case atStart => exact ⟨0, x, by omega, rfl, rfl, hlen, HR0, HX, HXW, hid (grew_refl _)⟩
  case round =>
    obtain ⟨j, y, hj, rfl, hk, hy1, HR, HSG, HYW, HG⟩ := hrel
    have HK := hid hk; clear hk
    rename World => wr
    obtain ⟨la, lc, rfl⟩ := isWd_slice HSG.out
    by_cases hlt : j < m
    · obtain ⟨b, off, o, hva, hob, -, hcc⟩ := HPC.out j hlt
      subst hva
      have hbl := lt_of_obj hob
      have hjp : j < p.length := by rw [HM.out]; exact hlt
      have hpj : p[j]? = some (nth p j) := by rw [nth_lt hjp]; exact List.getElem?_eq_getElem _
      have hzz := HPW.out (nth p j) (by rw [nth_lt hjp]; exact List.getElem_mem _)
      replace hcc : _ = some (Value.int .i64 (nth p j)) := hcc
      have hrd := rest_drop (D := D) (y := y) hpj
      obtain ⟨a, ha⟩ : ∃ a, nth p j = a := ⟨_, rfl⟩
      rw [ha] at hcc hrd hzz
      rw [← HR.out] at hrd
      obtain ⟨a', rfl⟩ : ∃ a' : Nat, a = a' := ⟨a.toNat, by omega⟩
      have hg := HG.out
      have hcw := (hg.cell (p := ⟨b, off + j, none⟩) hbl).trans hcc
      have hbw := Nat.lt_of_lt_of_le hbl hg.size
      have hF := start_any B N a' _ y wr hN (by omega) HYW.out (HL.out.grew hg) HSG.out.ints
      cases hq : free D y a' with
      | none =>
        rw [hq] at hF hrd
        rw [show ix none = -1 from rfl] at hF
        have HF := hid hF
        have HRD := hid hrd
        clear hF hrd hq hob hpj hcc ha
        go_wp2_with (go_at_call 99; (with_reducible refine HF.out.mono ?_); rintro e w2 ⟨rfl, hx2⟩; have HX2 := hid hx2; clear hx2)
        go_ret2
        exact .inr ⟨HRD.out, rfl, grew_trans hg HX2.out⟩
      | some i =>
        obtain ⟨hil, -⟩ := free_lt hq
        rw [hq] at hF hrd
        rw [show ix (some i) = (i : Int) from rfl] at hF
        have HF := hid hF
        have HRD := hid hrd
        have hel : (y.eraseIdx i).length ≤ 100 := by rw [List.length_eraseIdx, if_pos hil]; omega
        have HEL := hid hel
        have HIL := hid hil
        have HY1 := hid hy1
        clear hF hrd hq hob hpj hcc ha hil hel hy1
        go_wp2_with (first
          | (go_at_call 99; (with_reducible refine HF.out.mono ?_); rintro e w2 ⟨rfl, hx2⟩; have HX2 := hid hx2; clear hx2)
          | (go_at_call 100; (with_reducible refine (without_any _ y i _ HIL.out HY1.out (HSG.out.grew HX2.out)).mono ?_); rintro e w3 ⟨v3, rfl, hs3, hx3⟩; have HS3 := hid hs3; have HX3 := hid hx3; clear hs3 hx3))
        go_roundg (m - (j + 1))
        case measure => have := HK.out; omega
        case rel => exact ⟨j + 1, y.eraseIdx i, by omega, by go_num, rfl, HEL.out, HRD, hid (IsWd.of_seg HS3.out), hid (fun z hz => HYW.out z (List.mem_of_mem_eraseIdx hz)), hid (grew_trans HG.out (grew_trans HX2.out HX3.out))⟩
    · obtain rfl : m = j := by omega
      have hre : R = some y := by rw [HR.out, List.drop_of_length_le (by rw [HM.out]; exact Nat.le_refl _)]; rfl
      have HRE := hid hre
      clear hre
      go_wp2
      go_ret2
      exact .inl ⟨y, HRE.out, _, rfl, HSG.out, HG.out⟩

/-- A list and an error. -/
def Gives (e : Ending) (w w' : World) (a : List Int × Int) : Prop := ∃ u, e = .returned (.tuple #[u, .int .i64 a.2]) ∧ IsWd w' u a.1 ∧ Grew w w'

/-- The first form, if there are not too many letters. -/
def formedM (D : Int → Int → Bool) (N : Nat) (x : List Int) : List Int × Int := if x.length ≤ 10 then (first D N x, 0) else ([], 4)

set_option maxHeartbeats 2000000 in
theorem formed_any {D : Int → Int → Bool} (B N : Nat) (wv : Value) (x : List Int) (w : World) (hN : N ≤ 6) (hxw : ∀ z ∈ x, 0 ≤ z ∧ z < (N : Int)) (hL : Loom w B D N) (hx : IsWd w wv x) :
    Calls Try.prog 72 #[.pointer (some ⟨B, 0, none⟩), wv] w fun e w' => Gives e w w' (formedM D N x) := by
  have HF := hid (fun (h : x.length ≤ 10) => first_any D B N x wv w hN hxw (by omega) hL hx)
  have hsm : x.length ≤ 9223372036854775807 := by obtain ⟨_, _, _, _, _, _, _, h, _⟩ := hx; exact h
  obtain ⟨xa, xc, rfl⟩ := isWd_slice hx
  obtain ⟨m, hm⟩ : ∃ m, x.length = m := ⟨_, rfl⟩
  unfold formedM
  rw [hm] at HF hsm ⊢
  clear hx hm
  by_cases h10 : m ≤ 10
  · have h10' : ¬ (10 : Int) < (m : Int) := by omega
    rw [if_pos h10]
    go_enter Try.func72, Try.ntmps72
    go_wp2_with (go_at_call 67; (with_reducible refine (HF.out h10).mono ?_); rintro e w1 ⟨u, rfl, hs, hg⟩; have HS := hid hs; have HG := hid hg; clear hs hg)
    go_ret2
    exact ⟨_, rfl, IsWd.of_seg HS.out, HG.out⟩
  · have h10' : (10 : Int) < (m : Int) := by omega
    rw [if_neg h10]
    go_enter Try.func72, Try.ntmps72
    go_wp2
    go_ret2
    exact ⟨_, rfl, wd_nil _, grew_refl _⟩

set_option maxHeartbeats 2000000 in
/-- limited, of the reference. -/
theorem limited_any (v : Value) (L : Lt) (N : Nat) (wv : Value) (x : List Int) (w : World) (hN : L.n = N) (hN6 : N ≤ 6) (hxw : ∀ z ∈ x, 0 ≤ z ∧ z < (N : Int)) (hv : IsLt w v L) (hx : IsWd w wv x) :
    Calls Try.prog 75 #[v, wv] w fun e w' => Gives e w w' (formedM (dep L) N x) := by
  have hsm : x.length ≤ 9223372036854775807 := by obtain ⟨_, _, _, _, _, _, _, h, _⟩ := hx; exact h
  have HF := hid (fun (h : x.length ≤ 10) (W : World) (hW : Grew w W) => rFirst_any v L wv x N W hN hN6 hxw (by omega) (hv.grew hW) (hx.grew hW))
  obtain ⟨s, rfl, -⟩ := hv
  rw [hN] at HF ⊢
  obtain ⟨W0, hW0, g0, k0, k1, hz⟩ := box2 w (.int .i64 (N : Int)) s 24
  obtain ⟨xa, xc, rfl⟩ := isWd_slice hx
  have hfl : (first (dep L) N x).length = x.length := ((alike_first (dep_comm L) hxw).length (dep_refl L)).symm
  obtain ⟨m, hm⟩ : ∃ m, x.length = m := ⟨_, rfl⟩
  unfold formedM
  rw [hm] at HF hsm hfl ⊢
  have HFL := hid hfl
  have hg := g0
  clear hx hm hfl hN
  by_cases h10 : m ≤ 10
  · have h10' : ¬ (10 : Int) < (m : Int) := by omega
    rw [if_pos h10]
    go_enter Try.func75, Try.ntmps75
    go_wp2_with (go_at_call 69; (with_reducible refine (HF.out h10 _ hg).mono ?_); rintro e w1 ⟨u, rfl, hs, hg⟩; have HS := hid hs; have HG := hid hg; clear hs hg)
    go_ret2
    refine ⟨_, rfl, ?_, grew_trans g0 HG.out⟩
    have h := HS.out
    rw [← HFL.out] at h
    exact IsWd.of_seg h
  · have h10' : (10 : Int) < (m : Int) := by omega
    rw [if_neg h10]
    go_enter Try.func75, Try.ntmps75
    go_wp2
    go_ret2
    exact ⟨_, rfl, wd_nil _, hg⟩

end Go.Proofs.Ytddnpooffcjhnaa
namespace Go.Lin.Wv

def joinedM (L : Lt) (x y : List Int) : List Int × Int := if wrong L [x, y] = 0 then Go.Proofs.Ytddnpooffcjhnaa.formedM (dep L) L.n.toNat (x ++ y) else ([], wrong L [x, y])
def beginsM (L : Lt) (x y : List Int) : Bool × Int := if wrong L [x, y] = 0 then ((rest (dep L) x y).isSome, 0) else (false, wrong L [x, y])
def restO (L : Lt) : Option (List Int) → List Int × Int
  | some l => (first (dep L) L.n.toNat l, 0)
  | none => ([], 5)
def restM (L : Lt) (x y : List Int) : List Int × Int := if wrong L [x, y] = 0 then restO L (rest (dep L) x y) else ([], wrong L [x, y])
def firstM (L : Lt) (x : List Int) : List Int × Int := if wrong L [x] = 0 then (first (dep L) L.n.toNat x, 0) else ([], wrong L [x])

theorem rest_sub {D : Int → Int → Bool} : ∀ {u w v : List Int}, rest D u w = some v → ∀ z ∈ v, z ∈ w
  | [], w, v, h, z, hz => by simp only [rest, Option.some.injEq] at h; subst h; exact hz
  | a :: u, w, v, h, z, hz => by
    unfold rest at h
    split at h
    · cases h
    · exact List.mem_of_mem_eraseIdx (rest_sub h z hz)

theorem rest_length {D : Int → Int → Bool} : ∀ {u w v : List Int}, rest D u w = some v → v.length ≤ w.length
  | [], w, v, h => by simp only [rest, Option.some.injEq] at h; subst h; exact Nat.le_refl _
  | a :: u, w, v, h => by
    unfold rest at h
    split at h
    · cases h
    · have := rest_length h
      rw [List.length_eraseIdx] at this
      split at this <;> omega

end Go.Lin.Wv
namespace Go.Proofs.Ytddnpooffcjhnaa
open Go.RowKit Go.Lin Go.Lin.Wv

theorem lens_two {x y : List Int} (hx : x.length ≤ 100) (hy : y.length ≤ 100) : ∀ i, i < [x, y].length → (nthL [x, y] i).length ≤ 100 := fun j hj => by
  have hj' : j = 0 ∨ j = 1 := by simp at hj; omega
  rcases hj' with rfl | rfl
  · exact hx
  · exact hy

theorem restP_any {D : Int → Int → Bool} (B N : Nat) (uv wv : Value) (p x : List Int) (w : World) (hN : N ≤ 6) (hlen : x.length ≤ 100) (hpw : ∀ z ∈ p, 0 ≤ z ∧ z < (N : Int)) (hxw : ∀ z ∈ x, 0 ≤ z ∧ z < (N : Int)) (hL : Loom w B D N) (hp : IsInts Any w uv p) (hx : IsWd w wv x) :
    Calls Try.prog 76 #[.pointer (some ⟨B, 0, none⟩), uv, wv] w fun e w' => ∃ u, e = .returned (.tuple #[u, .bool (rest D p x).isSome]) ∧ IsWd w' u ((rest D p x).getD []) ∧ Grew w w' :=
  (rest_any B N uv wv p x w hN hlen hpw hxw hL hp hx).mono fun e w' h => by
    rcases h with ⟨y, h1, u, rfl, h2, h3⟩ | ⟨h1, rfl, h3⟩
    · rw [h1]; exact ⟨u, rfl, h2, h3⟩
    · rw [h1]; exact ⟨_, rfl, wd_nil _, h3⟩

theorem restR_any (v : Value) (L : Lt) (uv wv : Value) (p x : List Int) (w : World) (hlen : x.length ≤ 1000) (hv : IsLt w v L) (hp : IsInts Any w uv p) (hx : IsWd w wv x) :
    Calls Try.prog 77 #[v, uv, wv] w fun e w' => ∃ u, e = .returned (.tuple #[u, .bool (rest (dep L) p x).isSome]) ∧ IsWd w' u ((rest (dep L) p x).getD []) ∧ Grew w w' :=
  (rRest_any v L uv wv p x w hlen hv hp hx).mono fun e w' h => by
    rcases h with ⟨y, h1, u, rfl, h2, h3⟩ | ⟨h1, rfl, h3⟩
    · rw [h1]; exact ⟨u, rfl, IsWd.of_seg h2, h3⟩
    · rw [h1]; exact ⟨_, rfl, wd_nil _, h3⟩

theorem wd_first {L : Lt} {N : Nat} {p y l : List Int} {w' : World} {b : Nat} {u : Value} (hy : ∀ z ∈ y, 0 ≤ z ∧ z < (N : Int)) (hq : rest (dep L) p y = some l) (h : Seg w' b 3 1 u l.length ((first (dep L) N l).map (.int .i64))) : IsWd w' u (first (dep L) N l) := by
  have e : l.length = (first (dep L) N l).length := (alike_first (dep_comm L) (fun z hz => hy z (rest_sub hq z hz))).length (dep_refl L)
  rw [e] at h
  exact IsWd.of_seg h

theorem letters_append {N : Nat} {x y : List Int} (hx : ∀ z ∈ x, 0 ≤ z ∧ z < (N : Int)) (hy : ∀ z ∈ y, 0 ≤ z ∧ z < (N : Int)) : ∀ z ∈ x ++ y, 0 ≤ z ∧ z < (N : Int) := fun z hz => (List.mem_append.1 hz).elim (hx z) (hy z)

set_option maxHeartbeats 4000000 in
set_option maxRecDepth 20000 in
theorem first33_any (v : Value) (L : Lt) (uv : Value) (x : List Int) (w : World) (hn : L.n ≤ 9223372036854775807) (hv : IsLt w v L) (hx : IsWd w uv x) :
    Calls Try.prog 33 #[v, uv] w fun e w' => Gives e w w' (firstM L x) := by
  have HV := hid hv
  obtain ⟨s, rfl, -⟩ := hv
  obtain ⟨ua, uc, rfl⟩ := isWd_slice hx
  obtain ⟨W0, hW0, g0, k0, k1, hz⟩ := box2 w (.int .i64 L.n) s 24
  obtain ⟨W1, hW1⟩ : ∃ W1, W0.alloc (.cells #[.slice ua x.length uc] 25) = W1 := ⟨_, rfl⟩
  have g1 : Grew W0 W1 := by rw [← hW1]; exact grew_alloc (grew_refl _) _
  have g01 := grew_trans g0 g1
  obtain ⟨m, hm⟩ : ∃ m, x.length = m := ⟨_, rfl⟩
  have HM := hid hm
  have HXM := hid (show IsWd w (.slice ua m uc) x by rw [← hm]; exact hx)
  
  obtain ⟨r, hr⟩ : ∃ r, wrong L [x] = r := ⟨_, rfl⟩
  have HR := hid hr
  have HX := hid hx
  have HG01 := hid g01
  by_cases hr0 : r = 0
  · subst hr0
    obtain ⟨hv1, hw1⟩ := wrong_one hr
    have hok := newLoom_ok _ L _ [x] W1 hn (HV.out.grew g01) (by rw [← hW1]; exact rows_one (Reads.grew hx.ints g0) 25) hr
    have HOK := hid hok
    have HW1 := hid hw1
    rw [hm] at hW1 ⊢
    clear hr hx hm hok hv1 hw1
    go_enter Try.func33, Try.ntmps33
    go_wp2_with (first
      | (go_at_call 60; (with_reducible refine HOK.out.mono ?_); rintro e w1 ⟨B, N, hN, hN1, hN6, rfl, hB, hL, hg1⟩; have HL := hid hL; have HN := hid hN; have HG1 := hid (grew_trans HG01.out hg1); obtain ⟨hl1, hlw1⟩ := isW_iff hN HW1.out; have HL1 := hid hl1; clear hN hL hg1 hB)
      | (go_at_call 67; (with_reducible refine (first_any (dep L) B N x _ w1 hN6 hlw1 (by omega) HL.out (HXM.out.grew HG1.out)).mono ?_); rintro e w2 ⟨u, rfl, hs2, hg2⟩; have HS2 := hid hs2; have HG2 := hid hg2; clear hs2 hg2))
    go_ret2
    refine ⟨u, ?_, ?_, grew_trans HG1.out HG2.out⟩
    · rw [show (firstM L x).2 = 0 by unfold firstM; rw [HR.out, if_pos rfl]]; rfl
    · rw [show (firstM L x).1 = first (dep L) N x by unfold firstM; rw [HR.out, if_pos rfl, HN.out, Int.toNat_natCast]]; exact IsWd.of_seg HS2.out
  · have hbad := newLoom_bad _ L _ [x] W1 hn (HV.out.grew g01) (by rw [← hW1]; exact rows_one (Reads.grew hx.ints g0) 25) (by rw [hr]; exact hr0)
    rw [hr] at hbad
    have hne : (r != 0) = true := by simpa using hr0
    have HB := hid hbad; have HR0 := hid hr0
    rw [hm] at hW1 ⊢
    clear hr hx hm hbad hr0
    go_enter Try.func33, Try.ntmps33
    go_wp2_with (go_at_call 60; (with_reducible refine HB.out.mono ?_); rintro e w1 ⟨rfl, hg1⟩; have HG1 := hid (grew_trans HG01.out hg1); clear hg1)
    go_ret2
    exact ⟨_, by rw [show (firstM L x).2 = r by unfold firstM; rw [HR.out, if_neg HR0.out]]; rfl, by rw [show (firstM L x).1 = [] by unfold firstM; rw [HR.out, if_neg HR0.out]]; exact wd_nil _, HG1.out⟩

set_option maxHeartbeats 4000000 in
set_option maxRecDepth 20000 in
theorem joined26_any (v : Value) (L : Lt) (uv wv : Value) (x y : List Int) (w : World) (hn : L.n ≤ 9223372036854775807) (hv : IsLt w v L) (hx : IsWd w uv x) (hy : IsWd w wv y) :
    Calls Try.prog 26 #[v, uv, wv] w fun e w' => Gives e w w' (joinedM L x y) := by
  have HV := hid hv
  obtain ⟨s, rfl, -⟩ := hv
  obtain ⟨ua, uc, rfl⟩ := isWd_slice hx
  obtain ⟨xa, xc, rfl⟩ := isWd_slice hy
  obtain ⟨W0, hW0, g0, k0, k1, hz⟩ := box2 w (.int .i64 L.n) s 24
  obtain ⟨W1, hW1⟩ : ∃ W1, W0.alloc (.cells #[.slice ua x.length uc, .slice xa y.length xc] 25) = W1 := ⟨_, rfl⟩
  have g1 : Grew W0 W1 := by rw [← hW1]; exact grew_alloc (grew_refl _) _
  have g01 := grew_trans g0 g1
  obtain ⟨m, hm⟩ : ∃ m, x.length = m := ⟨_, rfl⟩
  have HM := hid hm
  obtain ⟨n, hnn⟩ : ∃ n, y.length = n := ⟨_, rfl⟩
  have HNN := hid hnn
  have HXM := hid (show IsWd w (.slice ua m uc) x by rw [← hm]; exact hx)
  have HYM := hid (show IsWd w (.slice xa n xc) y by rw [← hnn]; exact hy)
  obtain ⟨r, hr⟩ : ∃ r, wrong L [x, y] = r := ⟨_, rfl⟩
  have HR := hid hr
  have HX := hid hx; have HY := hid hy
  have HG01 := hid g01
  by_cases hr0 : r = 0
  · subst hr0
    obtain ⟨hv1, hw1, hw2⟩ := wrong_two hr
    have hok := newLoom_ok _ L _ [x, y] W1 hn (HV.out.grew g01) (by rw [← hW1]; exact rows_two (Reads.grew hx.ints g0) (Reads.grew hy.ints g0) 25) hr
    have HOK := hid hok
    have HW1 := hid hw1; have HW2 := hid hw2
    rw [hm, hnn] at hW1 ⊢
    clear hr hx hy hm hnn hok hv1 hw1 hw2
    go_enter Try.func26, Try.ntmps26
    go_wp2_with (first
      | (go_at_call 60; (with_reducible refine HOK.out.mono ?_); rintro e w1 ⟨B, N, hN, hN1, hN6, rfl, hB, hL, hg1⟩; have HL := hid hL; have HN := hid hN; have HG1 := hid (grew_trans HG01.out hg1); obtain ⟨hl1, hlw1⟩ := isW_iff hN HW1.out; obtain ⟨hl2, hlw2⟩ := isW_iff hN HW2.out; have HL1 := hid hl1; have HL2 := hid hl2; clear hN hL hg1 hB)
      | (go_at_call 73; go_loud (refine (show Calls _ _ _ _ _ from concat_any _ [x, y] _ (rows_two (HXM.out.grew HG1.out).ints (HYM.out.grew HG1.out).ints 25) (by simp) (lens_two (by have := HL1.out; omega) (by have := HL2.out; omega))).mono ?_; rintro e w2 ⟨cv, rfl, hs2, hg2⟩; have hfx : [x, y].flatten = x ++ y := (by simp); rw [hfx] at hs2; have HS2 := hid hs2; have HG2 := hid (grew_trans (grew_alloc (grew_refl w1) _) hg2); have HF2 := hid (formed_any (D := dep L) B N cv (x ++ y) w2 hN6 (letters_append hlw1 hlw2) (HL.out.grew HG2.out) (IsWd.of_seg hs2)); clear hs2 hg2 hfx))
      | (go_at_call 72; (with_reducible refine HF2.out.mono ?_); rintro e w3 ⟨u, rfl, hu, hg3⟩; have HU := hid hu; have HG3 := hid hg3; obtain ⟨_, _, rfl⟩ := isWd_slice hu; clear hu hg3))
    go_ret2
    have hj : joinedM L x y = formedM (dep L) N (x ++ y) := by unfold joinedM; rw [HR.out, if_pos rfl, HN.out, Int.toNat_natCast]
    refine ⟨_, ?_, by rw [hj]; exact HU.out, grew_trans HG1.out (grew_trans HG2.out HG3.out)⟩
    rw [hj]; rfl
  · have hbad := newLoom_bad _ L _ [x, y] W1 hn (HV.out.grew g01) (by rw [← hW1]; exact rows_two (Reads.grew hx.ints g0) (Reads.grew hy.ints g0) 25) (by rw [hr]; exact hr0)
    rw [hr] at hbad
    have hne : (r != 0) = true := by simpa using hr0
    have HB := hid hbad; have HR0 := hid hr0
    rw [hm, hnn] at hW1 ⊢
    clear hr hx hy hm hnn hbad hr0
    go_enter Try.func26, Try.ntmps26
    go_wp2_with (go_at_call 60; (with_reducible refine HB.out.mono ?_); rintro e w1 ⟨rfl, hg1⟩; have HG1 := hid (grew_trans HG01.out hg1); clear hg1)
    go_ret2
    exact ⟨_, by rw [show (joinedM L x y).2 = r by unfold joinedM; rw [HR.out, if_neg HR0.out]]; rfl, by rw [show (joinedM L x y).1 = [] by unfold joinedM; rw [HR.out, if_neg HR0.out]]; exact wd_nil _, HG1.out⟩

set_option maxHeartbeats 4000000 in
set_option maxRecDepth 20000 in
theorem begins28_any (v : Value) (L : Lt) (uv wv : Value) (x y : List Int) (w : World) (hn : L.n ≤ 9223372036854775807) (hv : IsLt w v L) (hx : IsWd w uv x) (hy : IsWd w wv y) :
    Calls Try.prog 28 #[v, uv, wv] w fun e w' => e = .returned (.tuple #[.bool (beginsM L x y).1, .int .i64 (beginsM L x y).2]) ∧ Grew w w' := by
  have HV := hid hv
  obtain ⟨s, rfl, -⟩ := hv
  obtain ⟨ua, uc, rfl⟩ := isWd_slice hx
  obtain ⟨xa, xc, rfl⟩ := isWd_slice hy
  obtain ⟨W0, hW0, g0, k0, k1, hz⟩ := box2 w (.int .i64 L.n) s 24
  obtain ⟨W1, hW1⟩ : ∃ W1, W0.alloc (.cells #[.slice ua x.length uc, .slice xa y.length xc] 25) = W1 := ⟨_, rfl⟩
  have g1 : Grew W0 W1 := by rw [← hW1]; exact grew_alloc (grew_refl _) _
  have g01 := grew_trans g0 g1
  obtain ⟨m, hm⟩ : ∃ m, x.length = m := ⟨_, rfl⟩
  have HM := hid hm
  obtain ⟨n, hnn⟩ : ∃ n, y.length = n := ⟨_, rfl⟩
  have HNN := hid hnn
  have HXM := hid (show IsWd w (.slice ua m uc) x by rw [← hm]; exact hx)
  have HYM := hid (show IsWd w (.slice xa n xc) y by rw [← hnn]; exact hy)
  obtain ⟨r, hr⟩ : ∃ r, wrong L [x, y] = r := ⟨_, rfl⟩
  have HR := hid hr
  have HX := hid hx; have HY := hid hy
  have HG01 := hid g01
  by_cases hr0 : r = 0
  · subst hr0
    obtain ⟨hv1, hw1, hw2⟩ := wrong_two hr
    have hok := newLoom_ok _ L _ [x, y] W1 hn (HV.out.grew g01) (by rw [← hW1]; exact rows_two (Reads.grew hx.ints g0) (Reads.grew hy.ints g0) 25) hr
    have HOK := hid hok
    have HW1 := hid hw1; have HW2 := hid hw2
    rw [hm, hnn] at hW1 ⊢
    clear hr hx hy hm hnn hok hv1 hw1 hw2
    go_enter Try.func28, Try.ntmps28
    go_wp2_with (first
      | (go_at_call 60; (with_reducible refine HOK.out.mono ?_); rintro e w1 ⟨B, N, hN, hN1, hN6, rfl, hB, hL, hg1⟩; have HL := hid hL; have HN := hid hN; have HG1 := hid (grew_trans HG01.out hg1); obtain ⟨hl1, hlw1⟩ := isW_iff hN HW1.out; obtain ⟨hl2, hlw2⟩ := isW_iff hN HW2.out; have HL1 := hid hl1; have HL2 := hid hl2; clear hN hL hg1 hB)
      | (go_at_call 76; (with_reducible refine (restP_any B N _ _ x y w1 hN6 (by omega) hlw1 hlw2 HL.out (HXM.out.grew HG1.out).ints (HYM.out.grew HG1.out)).mono ?_); rintro e w2 ⟨u, rfl, hu, hg2⟩; have HG2 := hid hg2; clear hu hg2))
    go_ret2
    exact ⟨by unfold beginsM; rw [HR.out, if_pos rfl]; rfl, grew_trans HG1.out HG2.out⟩
  · have hbad := newLoom_bad _ L _ [x, y] W1 hn (HV.out.grew g01) (by rw [← hW1]; exact rows_two (Reads.grew hx.ints g0) (Reads.grew hy.ints g0) 25) (by rw [hr]; exact hr0)
    rw [hr] at hbad
    have hne : (r != 0) = true := by simpa using hr0
    have HB := hid hbad; have HR0 := hid hr0
    rw [hm, hnn] at hW1 ⊢
    clear hr hx hy hm hnn hbad hr0
    go_enter Try.func28, Try.ntmps28
    go_wp2_with (go_at_call 60; (with_reducible refine HB.out.mono ?_); rintro e w1 ⟨rfl, hg1⟩; have HG1 := hid (grew_trans HG01.out hg1); clear hg1)
    go_ret2
    exact ⟨by unfold beginsM; rw [HR.out, if_neg HR0.out]; rfl, HG1.out⟩

set_option maxHeartbeats 4000000 in
set_option maxRecDepth 20000 in
theorem rest30_any (v : Value) (L : Lt) (uv wv : Value) (x y : List Int) (w : World) (hn : L.n ≤ 9223372036854775807) (hv : IsLt w v L) (hx : IsWd w uv x) (hy : IsWd w wv y) :
    Calls Try.prog 30 #[v, uv, wv] w fun e w' => Gives e w w' (restM L x y) := by
  have HV := hid hv
  obtain ⟨s, rfl, -⟩ := hv
  obtain ⟨ua, uc, rfl⟩ := isWd_slice hx
  obtain ⟨xa, xc, rfl⟩ := isWd_slice hy
  obtain ⟨W0, hW0, g0, k0, k1, hz⟩ := box2 w (.int .i64 L.n) s 24
  obtain ⟨W1, hW1⟩ : ∃ W1, W0.alloc (.cells #[.slice ua x.length uc, .slice xa y.length xc] 25) = W1 := ⟨_, rfl⟩
  have g1 : Grew W0 W1 := by rw [← hW1]; exact grew_alloc (grew_refl _) _
  have g01 := grew_trans g0 g1
  obtain ⟨m, hm⟩ : ∃ m, x.length = m := ⟨_, rfl⟩
  have HM := hid hm
  obtain ⟨n, hnn⟩ : ∃ n, y.length = n := ⟨_, rfl⟩
  have HNN := hid hnn
  have HXM := hid (show IsWd w (.slice ua m uc) x by rw [← hm]; exact hx)
  have HYM := hid (show IsWd w (.slice xa n xc) y by rw [← hnn]; exact hy)
  obtain ⟨r, hr⟩ : ∃ r, wrong L [x, y] = r := ⟨_, rfl⟩
  have HR := hid hr
  have HX := hid hx; have HY := hid hy
  have HG01 := hid g01
  by_cases hr0 : r = 0
  · subst hr0
    obtain ⟨hv1, hw1, hw2⟩ := wrong_two hr
    have hok := newLoom_ok _ L _ [x, y] W1 hn (HV.out.grew g01) (by rw [← hW1]; exact rows_two (Reads.grew hx.ints g0) (Reads.grew hy.ints g0) 25) hr
    have HOK := hid hok
    have HW1 := hid hw1; have HW2 := hid hw2
    rw [hm, hnn] at hW1 ⊢
    clear hr hx hy hm hnn hok hv1 hw1 hw2
    cases hq : rest (dep L) x y with
    | some l =>
      have HQ := hid hq
      clear hq
      go_enter Try.func30, Try.ntmps30
      go_wp2_with (first
        | (go_at_call 60; (with_reducible refine HOK.out.mono ?_); rintro e w1 ⟨B, N, hN, hN1, hN6, rfl, hB, hL, hg1⟩; have HL := hid hL; have HN := hid hN; have HG1 := hid (grew_trans HG01.out hg1); obtain ⟨hl1, hlw1⟩ := isW_iff hN HW1.out; obtain ⟨hl2, hlw2⟩ := isW_iff hN HW2.out; have HL1 := hid hl1; have HL2 := hid hl2; clear hN hL hg1 hB)
        | (go_at_call 76; go_loud (refine (show Calls _ _ _ _ _ from restP_any B N _ _ x y w1 hN6 (by omega) hlw1 hlw2 HL.out (HXM.out.grew HG1.out).ints (HYM.out.grew HG1.out)).mono ?_; rintro e w2 ⟨u, rfl, hu, hg2⟩; rw [HQ.out] at hu ⊢; have HU := hid hu; have HG2 := hid hg2; clear hu hg2))
        | (go_at_call 67; (with_reducible refine (first_any (dep L) B N _ _ w2 hN6 (fun z hz => hlw2 z (rest_sub HQ.out z hz)) (by have := rest_length HQ.out; have := HL2.out; omega) (HL.out.grew HG2.out) HU.out).mono ?_); rintro e w3 ⟨u3, rfl, hs3, hg3⟩; have HS3 := hid hs3; have HG3 := hid hg3; clear hs3 hg3))
      go_ret2
      refine ⟨u3, ?_, ?_, grew_trans HG1.out (grew_trans HG2.out HG3.out)⟩
      · rw [show (restM L x y).2 = 0 by unfold restM; rw [HR.out, if_pos rfl, HQ.out]; rfl]; rfl
      · rw [show (restM L x y).1 = first (dep L) N l by unfold restM; rw [HR.out, if_pos rfl, HQ.out, restO, HN.out, Int.toNat_natCast]]; exact IsWd.of_seg HS3.out
    | none =>
      have HQ := hid hq
      clear hq
      go_enter Try.func30, Try.ntmps30
      go_wp2_with (first
        | (go_at_call 60; (with_reducible refine HOK.out.mono ?_); rintro e w1 ⟨B, N, hN, hN1, hN6, rfl, hB, hL, hg1⟩; have HL := hid hL; have HN := hid hN; have HG1 := hid (grew_trans HG01.out hg1); obtain ⟨hl1, hlw1⟩ := isW_iff hN HW1.out; obtain ⟨hl2, hlw2⟩ := isW_iff hN HW2.out; have HL1 := hid hl1; have HL2 := hid hl2; clear hN hL hg1 hB)
        | (go_at_call 76; go_loud (refine (show Calls _ _ _ _ _ from restP_any B N _ _ x y w1 hN6 (by omega) hlw1 hlw2 HL.out (HXM.out.grew HG1.out).ints (HYM.out.grew HG1.out)).mono ?_; rintro e w2 ⟨u, rfl, hu, hg2⟩; rw [HQ.out] at hu ⊢; have HU := hid hu; have HG2 := hid hg2; clear hu hg2))
        | (go_at_call 67; (with_reducible refine (first_any (dep L) B N _ _ w2 hN6 (fun z hz => hlw2 z (rest_sub HQ.out z hz)) (by have := rest_length HQ.out; have := HL2.out; omega) (HL.out.grew HG2.out) HU.out).mono ?_); rintro e w3 ⟨u3, rfl, hs3, hg3⟩; have HS3 := hid hs3; have HG3 := hid hg3; clear hs3 hg3))
      go_ret2
      refine ⟨.slice none 0 0, ?_, ?_, grew_trans HG1.out HG2.out⟩
      · rw [show (restM L x y).2 = 5 by unfold restM; rw [HR.out, if_pos rfl, HQ.out]; rfl]; rfl
      · rw [show (restM L x y).1 = [] by unfold restM; rw [HR.out, if_pos rfl, HQ.out]; rfl]; exact wd_nil _
  · have hbad := newLoom_bad _ L _ [x, y] W1 hn (HV.out.grew g01) (by rw [← hW1]; exact rows_two (Reads.grew hx.ints g0) (Reads.grew hy.ints g0) 25) (by rw [hr]; exact hr0)
    rw [hr] at hbad
    have hne : (r != 0) = true := by simpa using hr0
    have HB := hid hbad; have HR0 := hid hr0
    rw [hm, hnn] at hW1 ⊢
    clear hr hx hy hm hnn hbad hr0
    go_enter Try.func30, Try.ntmps30
    go_wp2_with (go_at_call 60; (with_reducible refine HB.out.mono ?_); rintro e w1 ⟨rfl, hg1⟩; have HG1 := hid (grew_trans HG01.out hg1); clear hg1)
    go_ret2
    exact ⟨_, by rw [show (restM L x y).2 = r by unfold restM; rw [HR.out, if_neg HR0.out]]; rfl, by rw [show (restM L x y).1 = [] by unfold restM; rw [HR.out, if_neg HR0.out]]; exact wd_nil _, HG1.out⟩

set_option maxHeartbeats 4000000 in
set_option maxRecDepth 20000 in
theorem rBegins29_any (v : Value) (L : Lt) (uv wv : Value) (x y : List Int) (w : World) (hv : IsLt w v L) (hx : IsWd w uv x) (hy : IsWd w wv y) :
    Calls Try.prog 29 #[v, uv, wv] w fun e w' => e = .returned (.tuple #[.bool (beginsM L x y).1, .int .i64 (beginsM L x y).2]) ∧ Grew w w' := by
  have HV := hid hv
  obtain ⟨s, hveq, -⟩ := id hv
  subst hveq
  obtain ⟨ua, uc, rfl⟩ := isWd_slice hx
  obtain ⟨xa, xc, rfl⟩ := isWd_slice hy
  obtain ⟨W0, hW0, g0, k0, k1, hz⟩ := box2 w (.int .i64 L.n) s 24
  have hask := asked_any _ L _ _ x y W0 (hv.grew g0) (hx.grew g0).ints (hy.grew g0).ints
  obtain ⟨m, hm⟩ : ∃ m, x.length = m := ⟨_, rfl⟩
  have HM := hid hm
  obtain ⟨n, hnn⟩ : ∃ n, y.length = n := ⟨_, rfl⟩
  have HNN := hid hnn
  have HXM := hid (show IsWd w (.slice ua m uc) x by rw [← hm]; exact hx)
  have HYM := hid (show IsWd w (.slice xa n xc) y by rw [← hnn]; exact hy)
  obtain ⟨r, hr⟩ : ∃ r, wrong L [x, y] = r := ⟨_, rfl⟩
  rw [hr] at hask
  have HR := hid hr
  have HX := hid hx; have HY := hid hy
  rw [hm, hnn] at hask
  have HASK := hid hask
  rw [hm, hnn]
  have hg := grew_refl W0
  clear hask hr hx hy hm hnn hv
  by_cases hr0 : r = 0
  · subst hr0
    obtain ⟨hv1, hw1, hw2⟩ := wrong_two HR.out
    obtain ⟨⟨h1, h6⟩, -⟩ := valid_iff hv1
    obtain ⟨N, hN⟩ : ∃ N : Nat, L.n = N := ⟨L.n.toNat, by omega⟩
    have hN6 : N ≤ 6 := by omega
    obtain ⟨hl1, hlw1⟩ := isW_iff hN hw1; obtain ⟨hl2, hlw2⟩ := isW_iff hN hw2
    have HN := hid hN; have HL1 := hid hl1; have HL2 := hid hl2; have HVN := hid (show IsLt w (.agg #[.int .i64 (N : Int), s]) L by rw [← hN]; exact HV.out)
    rw [hN] at hW0 k0 HASK ⊢
    clear hN hv1 hw1 hw2 h1 h6
    go_enter Try.func29, Try.ntmps29
    go_wp2_with (first
      | (go_at_call 64; (with_reducible refine HASK.out.mono ?_); rintro e w1 ⟨rfl, hx⟩; replace hg := grew_trans hg hx; have hc := (bcell hg).1; have HG1 := hid (grew_trans g0 hg); clear hx)
      | (go_at_call 77; (with_reducible refine (restR_any _ L _ _ x y w1 (by have := HL2.out; omega) (HVN.out.grew HG1.out) (HXM.out.grew HG1.out).ints (HYM.out.grew HG1.out)).mono ?_); rintro e w2 ⟨u, rfl, hu, hg2⟩; have HG2 := hid hg2; clear hu hg2))
    go_ret2
    exact ⟨by unfold beginsM; rw [HR.out, if_pos rfl]; rfl, grew_trans HG1.out HG2.out⟩
  · have hne : (r != 0) = true := by simpa using hr0
    have HR0 := hid hr0
    clear hr0
    go_enter Try.func29, Try.ntmps29
    go_wp2_with (go_at_call 64; (with_reducible refine HASK.out.mono ?_); rintro e w1 ⟨rfl, hx⟩; have HG1 := hid (grew_trans g0 hx); clear hx)
    go_ret2
    exact ⟨by unfold beginsM; rw [HR.out, if_neg HR0.out]; rfl, HG1.out⟩

set_option maxHeartbeats 4000000 in
set_option maxRecDepth 20000 in
theorem rRest31_any (v : Value) (L : Lt) (uv wv : Value) (x y : List Int) (w : World) (hv : IsLt w v L) (hx : IsWd w uv x) (hy : IsWd w wv y) :
    Calls Try.prog 31 #[v, uv, wv] w fun e w' => Gives e w w' (restM L x y) := by
  have HV := hid hv
  obtain ⟨s, hveq, -⟩ := id hv
  subst hveq
  obtain ⟨ua, uc, rfl⟩ := isWd_slice hx
  obtain ⟨xa, xc, rfl⟩ := isWd_slice hy
  obtain ⟨W0, hW0, g0, k0, k1, hz⟩ := box2 w (.int .i64 L.n) s 24
  have hask := asked_any _ L _ _ x y W0 (hv.grew g0) (hx.grew g0).ints (hy.grew g0).ints
  obtain ⟨m, hm⟩ : ∃ m, x.length = m := ⟨_, rfl⟩
  have HM := hid hm
  obtain ⟨n, hnn⟩ : ∃ n, y.length = n := ⟨_, rfl⟩
  have HNN := hid hnn
  have HXM := hid (show IsWd w (.slice ua m uc) x by rw [← hm]; exact hx)
  have HYM := hid (show IsWd w (.slice xa n xc) y by rw [← hnn]; exact hy)
  obtain ⟨r, hr⟩ : ∃ r, wrong L [x, y] = r := ⟨_, rfl⟩
  rw [hr] at hask
  have HR := hid hr
  have HX := hid hx; have HY := hid hy
  rw [hm, hnn] at hask
  have HASK := hid hask
  rw [hm, hnn]
  have hg := grew_refl W0
  clear hask hr hx hy hm hnn hv
  by_cases hr0 : r = 0
  · subst hr0
    obtain ⟨hv1, hw1, hw2⟩ := wrong_two HR.out
    obtain ⟨⟨h1, h6⟩, -⟩ := valid_iff hv1
    obtain ⟨N, hN⟩ : ∃ N : Nat, L.n = N := ⟨L.n.toNat, by omega⟩
    have hN6 : N ≤ 6 := by omega
    obtain ⟨hl1, hlw1⟩ := isW_iff hN hw1; obtain ⟨hl2, hlw2⟩ := isW_iff hN hw2
    have HN := hid hN; have HL1 := hid hl1; have HL2 := hid hl2; have HVN := hid (show IsLt w (.agg #[.int .i64 (N : Int), s]) L by rw [← hN]; exact HV.out)
    rw [hN] at hW0 k0 HASK ⊢
    clear hN hv1 hw1 hw2 h1 h6
    cases hq : rest (dep L) x y with
    | some l =>
      have HQ := hid hq
      clear hq
      go_enter Try.func31, Try.ntmps31
      go_wp2_with (first
        | (go_at_call 64; (with_reducible refine HASK.out.mono ?_); rintro e w1 ⟨rfl, hx⟩; replace hg := grew_trans hg hx; have hc := (bcell hg).1; have HG1 := hid (grew_trans g0 hg); clear hx)
        | (go_at_call 77; go_loud (refine (show Calls _ _ _ _ _ from restR_any _ L _ _ x y w1 (by have := HL2.out; omega) (HVN.out.grew HG1.out) (HXM.out.grew HG1.out).ints (HYM.out.grew HG1.out)).mono ?_; rintro e w2 ⟨u, rfl, hu, hg2⟩; rw [HQ.out] at hu ⊢; replace hg := grew_trans hg hg2; replace hc := (bcell hg).1; have HU := hid hu; have HG2 := hid hg2; clear hu hg2))
        | (go_at_call 69; (with_reducible refine (rFirst_any _ L _ _ N w2 HN.out hN6 (fun z hz => hlw2 z (rest_sub HQ.out z hz)) (by have := rest_length HQ.out; have := HL2.out; omega) (HVN.out.grew (grew_trans HG1.out HG2.out)) HU.out).mono ?_); rintro e w3 ⟨u3, rfl, hs3, hg3⟩; have HS3 := hid hs3; have HG3 := hid hg3; clear hs3 hg3))
      go_ret2
      refine ⟨u3, ?_, ?_, grew_trans HG1.out (grew_trans HG2.out HG3.out)⟩
      · rw [show (restM L x y).2 = 0 by unfold restM; rw [HR.out, if_pos rfl, HQ.out]; rfl]; rfl
      · rw [show (restM L x y).1 = first (dep L) N l by unfold restM; rw [HR.out, if_pos rfl, HQ.out, restO, HN.out, Int.toNat_natCast]]; exact wd_first hlw2 HQ.out HS3.out
    | none =>
      have HQ := hid hq
      clear hq
      go_enter Try.func31, Try.ntmps31
      go_wp2_with (first
        | (go_at_call 64; (with_reducible refine HASK.out.mono ?_); rintro e w1 ⟨rfl, hx⟩; replace hg := grew_trans hg hx; have hc := (bcell hg).1; have HG1 := hid (grew_trans g0 hg); clear hx)
        | (go_at_call 77; go_loud (refine (show Calls _ _ _ _ _ from restR_any _ L _ _ x y w1 (by have := HL2.out; omega) (HVN.out.grew HG1.out) (HXM.out.grew HG1.out).ints (HYM.out.grew HG1.out)).mono ?_; rintro e w2 ⟨u, rfl, hu, hg2⟩; rw [HQ.out] at hu ⊢; replace hg := grew_trans hg hg2; replace hc := (bcell hg).1; have HU := hid hu; have HG2 := hid hg2; clear hu hg2))
        | (go_at_call 69; (with_reducible refine (rFirst_any _ L _ _ N w2 HN.out hN6 (fun z hz => hlw2 z (rest_sub HQ.out z hz)) (by have := rest_length HQ.out; have := HL2.out; omega) (HVN.out.grew (grew_trans HG1.out HG2.out)) HU.out).mono ?_); rintro e w3 ⟨u3, rfl, hs3, hg3⟩; have HS3 := hid hs3; have HG3 := hid hg3; clear hs3 hg3))
      go_ret2
      refine ⟨.slice none 0 0, ?_, ?_, grew_trans HG1.out HG2.out⟩
      · rw [show (restM L x y).2 = 5 by unfold restM; rw [HR.out, if_pos rfl, HQ.out]; rfl]; rfl
      · rw [show (restM L x y).1 = [] by unfold restM; rw [HR.out, if_pos rfl, HQ.out]; rfl]; exact wd_nil _
  · have hne : (r != 0) = true := by simpa using hr0
    have HR0 := hid hr0
    clear hr0
    go_enter Try.func31, Try.ntmps31
    go_wp2_with (go_at_call 64; (with_reducible refine HASK.out.mono ?_); rintro e w1 ⟨rfl, hx⟩; have HG1 := hid (grew_trans g0 hx); clear hx)
    go_ret2
    exact ⟨_, by rw [show (restM L x y).2 = r by unfold restM; rw [HR.out, if_neg HR0.out]]; rfl, by rw [show (restM L x y).1 = [] by unfold restM; rw [HR.out, if_neg HR0.out]]; exact wd_nil _, HG1.out⟩

end Go.Proofs.Ytddnpooffcjhnaa
