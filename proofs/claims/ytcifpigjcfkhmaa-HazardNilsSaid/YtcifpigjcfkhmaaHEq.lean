/- Arrays of ints compared; walks: Same$1, EqualFunc. -/
import Derived.Test.YtcifpigjcfkhmaaHSame
import Derived.Stop.BytesEq
namespace Go.Lin
open Go

theorem all_range_int : ∀ (xs ys : List Int), xs.length = ys.length → ((List.range xs.length).all fun i => xs.getD i 0 == ys.getD i 0) = (xs == ys)
  | [], [], _ => rfl
  | x :: xs, y :: ys, h => by
    rw [List.length_cons, List.range_succ_eq_map, List.all_cons, List.all_map]
    simp only [List.getD_cons_zero, Function.comp_def, List.getD_cons_succ, all_range_int xs ys (by simpa using h)]
    simp [List.cons_beq_cons]
  | [], _ :: _, h => by simp at h
  | _ :: _, [], h => by simp at h

/-- Two arrays of ints, compared. -/
theorem run_equalIn_ints {P : Program} (w : World) (d : Nat) (t e : TypeId) (n : Nat) (ht : P.underlying t = some (.array n e)) (he : P.underlying e = some (.int .i64)) (hsz : ∀ w, (sizeOf e).run P w = .ok 1 w)
    (xs ys : List Int) (hx : xs.length = n) (hy : ys.length = n) :
    (Op.equalIn (d + 2) t (.agg (xs.map (Value.int .i64)).toArray) (.agg (ys.map (Value.int .i64)).toArray)).run P w = .ok (xs == ys) w := by
  rw [← all_range_int xs ys (hx.trans hy.symm), hx, List.range_eq_range', Op.equalIn]
  simp only [Sem.run_bind, run_underlying ht, Result.andThen_ok, hsz, Std.Legacy.Range.forIn_eq_forIn_range', Std.Legacy.Range.size, Nat.sub_zero, Nat.add_sub_cancel, Nat.div_one]
  have hl : ∀ i ∈ List.range' 0 n 1, i < n := fun i hi => by simpa using (List.mem_range'_1.1 hi).2
  generalize List.range' 0 n 1 = l at hl ⊢
  induction l with
  | nil => simp
  | cons i l ih =>
    have hi : i < n := hl i (by simp)
    have px : (part e (xs.map (Value.int .i64)).toArray (i * 1)).run P w = .ok (.int .i64 (xs.getD i 0)) w := by
      simp [part, isAgg, run_underlying he, List.getD, List.getElem?_eq_getElem (show i < xs.length by omega)]
    have py : (part e (ys.map (Value.int .i64)).toArray (i * 1)).run P w = .ok (.int .i64 (ys.getD i 0)) w := by
      simp [part, isAgg, run_underlying he, List.getD, List.getElem?_eq_getElem (show i < ys.length by omega)]
    have pe := run_equalIn_int (P := P) w d e .i64 .i64 (xs.getD i 0) (ys.getD i 0) he
    simp only [List.forIn_cons, Sem.run_bind, px, py, pe, Result.andThen_ok, List.all_cons]
    cases hb : (xs.getD i 0 == ys.getD i 0)
    · simp
    · simp only [Bool.not_true, Bool.false_eq_true, if_false, Sem.run_pure, Result.andThen_ok, Bool.true_and]
      exact ih fun j hj => hl j (by simp [hj])

end Go.Lin
namespace Go.Proofs.Ytcifpigjcfkhmaa
open Go.RowKit Go.Lin Go.Lin.Hz

theorem eq75 (a b c d : Int) (w : World) : (Op.equalIn 10000 75 (.agg #[.int .i64 a, .int .i64 b]) (.agg #[.int .i64 c, .int .i64 d])).run Try.prog w = .ok ([a, b] == [c, d]) w :=
  run_equalIn_ints w 9998 75 3 2 Try.underlying75 Try.underlying3 (fun _ => by kernel_rfl) [a, b] [c, d] rfl rfl

set_option maxHeartbeats 1000000 in
theorem same72_any (t u : Th) (v x : Value) (w : World) (hv : IsInts Any w v t.l) (hx : IsInts Any w x u.l) :
    Calls Try.prog 72 #[thVal t v, thVal u x] w fun e w' => e = .returned (.bool (decide (t = u))) ∧ Grew w w' := by
  unfold thVal
  obtain ⟨W1, hW1, g1, a0, a1, a2, hz1⟩ := box3 w (.int .i64 t.a) (.int .i64 t.b) v 81
  obtain ⟨W2, hW2, g2, b0, b1, b2, hz2⟩ := box3 W1 (.int .i64 u.a) (.int .i64 u.b) x 81
  have g02 := grew_trans g1 g2
  have hz1' := Nat.lt_of_lt_of_le hz1 g2.size
  replace a0 := (g2.cell (p := ⟨w.heap.size, 0, none⟩) hz1).trans a0
  replace a1 := (g2.cell (p := ⟨w.heap.size, 1, none⟩) hz1).trans a1
  replace a2 := (g2.cell (p := ⟨w.heap.size, 2, none⟩) hz1).trans a2
  have HE := hid (fun (y : World) (hy : Grew W2 y) => equal73_any v x t.l u.l y (hv.grew (grew_trans g02 hy)) (hx.grew (grew_trans g02 hy)))
  obtain ⟨p, hp⟩ : ∃ p, (t.l == u.l) = p := ⟨_, rfl⟩
  rw [hp] at HE
  have HP := hid hp
  obtain ⟨r, hr⟩ : ∃ r, decide (t = u) = r := ⟨_, rfl⟩
  have hr2 : r = (([t.a, t.b] == [u.a, u.b]) && p) := by
    rw [← hr, ← hp, Bool.eq_iff_iff]
    obtain ⟨ta, tb, tl⟩ := t
    obtain ⟨ua, ub, ul⟩ := u
    simp [and_assoc]
  rw [hr]
  have HEQ := fun w => eq75 t.a t.b u.a u.b w
  obtain ⟨q, hq⟩ : ∃ q, ([t.a, t.b] == [u.a, u.b]) = q := ⟨_, rfl⟩
  rw [hq] at hr2 HEQ
  have HR := hid hr2
  have hg := grew_refl W2
  obtain ⟨ya, yc, rfl, -⟩ := hv
  obtain ⟨za, zc, rfl, -⟩ := hx
  obtain ⟨n1, hn1⟩ : ∃ n, t.l.length = n := ⟨_, rfl⟩
  obtain ⟨n2, hn2⟩ : ∃ n, u.l.length = n := ⟨_, rfl⟩
  rw [hn1] at HE hW1 a2
  rw [hn2] at HE hW2 b2
  rw [hn1, hn2]
  clear hp hq hr hr2 hn1 hn2
  cases q
  · go_enter Try.func72, Try.ntmps72
    go_wp2_with (go_at_call 73; with_reducible refine (HE.out _ hg).mono ?_; rintro e w4 ⟨rfl, hx⟩; replace hg := grew_trans hg hx; have hc := (bcell hg).1)
    go_ret
    exact ⟨ret_bool (by rw [HR.out]; rfl), grew_trans g02 hg⟩
  · go_enter Try.func72, Try.ntmps72
    go_wp2_with (go_at_call 73; with_reducible refine (HE.out _ hg).mono ?_; rintro e w4 ⟨rfl, hx⟩; replace hg := grew_trans hg hx; have hc := (bcell hg).1)
    go_ret
    exact ⟨ret_bool (by rw [HR.out]; simp), grew_trans g02 hg⟩

end Go.Proofs.Ytcifpigjcfkhmaa
