/- Walks: Reached (29), Way (45), Ends (54) of the program, and the functions of Ends (86, 87). -/
import Derived.Test.YtojkohpniokaaaaPgTop
import Derived.Test.YtojkohpniokaaaaPgFunc
namespace Go.Lin.Pg
def reachedA (g : Gr) : List Int × Int := if valid g then (reachedM g.ms g.N, 0) else ([], 70)
/-- The first shortest path to a place. -/
def wayM (ms : List Mv) (b : Int) : Option (List Nat) := ((legsM ms (fun _ => true) 0).find? (fun e => e.1 == b)).map (·.2)
def wayL : Option (List Nat) → List Int × Int
  | some l => (pInts l, 0)
  | none => ([], 5)
def wayA (g : Gr) (b : Int) : List Int × Int := if valid g then (if isPl g.n b then wayL (wayM g.ms b) else ([], 2)) else ([], 70)
/-- From where no move leads. -/
def endsM (ms : List Mv) (N : Nat) : List Int := kept (fun p => ms.any (fun m => fr m == p)) (reachedM ms N)
def endsA (g : Gr) : List Int × Int := if valid g then (endsM g.ms g.N, 0) else ([], 70)

theorem wayM_isWay {ms : List Mv} {N : Nat} (h1 : 1 ≤ N) (h8 : N ≤ 8) (hN : InN N ms) {b : Int} {l : List Nat} (h : wayM ms b = some l) : IsWay ms (fun _ => true) 0 b l := by
  have hi := legs_inv (ms := ms) (may := fun _ => true) (a := 0) h8 (fun v q h => goG_in hN v ⟨by omega, by omega⟩ h)
  unfold wayM at h
  rw [Option.map_eq_some_iff] at h
  obtain ⟨e, he, rfl⟩ := h
  have h2 := List.find?_some he
  have h3 := List.mem_of_find?_eq_some he
  have h4 := hi.isWay h3
  simp only [beq_iff_eq] at h2
  rw [h2] at h4
  exact h4

theorem wayM_some {ms : List Mv} {N : Nat} (h1 : 1 ≤ N) (h8 : N ≤ 8) (hN : InN N ms) {b : Int} {l : List Nat} (h : IsWay ms (fun _ => true) 0 b l) : wayM ms b = some l := by
  have hi := legs_inv (ms := ms) (may := fun _ => true) (a := 0) h8 (fun v q h => goG_in hN v ⟨by omega, by omega⟩ h)
  cases hw : wayM ms b with
  | some l' => rw [(wayM_isWay h1 h8 hN hw).unique h]
  | none =>
    exfalso
    obtain ⟨e, he, h2, _⟩ := hi.all l b h.leads
    unfold wayM at hw
    rw [Option.map_eq_none_iff, List.find?_eq_none] at hw
    exact hw e he (by simp [h2])

theorem wayM_none {ms : List Mv} {N : Nat} (h1 : 1 ≤ N) (h8 : N ≤ 8) (hN : InN N ms) {b : Int} (h : ∀ v, goG ms (fun _ => true) 0 v ≠ some b) : wayM ms b = none := by
  cases hw : wayM ms b with
  | none => rfl
  | some l => exact absurd (wayM_isWay h1 h8 hN hw).leads (h l)
end Go.Lin.Pg
namespace Go.Proofs.Ytojkohpniokaaaa
open Go Go.RowKit Go.Lin Go.Lin.Pg
attribute [local go_sem] run_store_func run_store_nilFunc

set_option maxHeartbeats 1000000 in
theorem reached29_any (v : Value) (g : Gr) (w : World) (hn : -9223372036854775808 ≤ g.n ∧ g.n ≤ 9223372036854775807) (hv : IsGr w v g) :
    Calls Try.prog 29 #[v] w fun e w' => ∃ u, e = .returned (.tuple #[u, .int .i64 (reachedA g).2]) ∧ Grew w w' ∧ IsWd w' u (reachedA g).1 := by
  have HV := hid hv
  obtain ⟨s, rfl, -⟩ := hv
  obtain ⟨W0, hW0, g0, k0, k1, hz⟩ := box2 w (.int .i64 g.n) s 24
  have HG0 := hid g0
  have HVA := hid (valid51_any _ g W0 hn (HV.out.grew g0))
  obtain ⟨b, hb⟩ : ∃ b, valid g = b := ⟨_, rfl⟩
  have hr : reachedA g = if b then (reachedM g.ms g.N, 0) else ([], 70) := by unfold reachedA; rw [hb]
  rw [hr]
  rw [hb] at HVA
  cases b with
  | false =>
    simp only [Bool.false_eq_true, if_false]
    clear hr hb
    go_enter Try.func29, Try.ntmps29
    go_wp2_with (go_at_call 51; (with_reducible refine HVA.out.mono ?_); rintro e w1 ⟨rfl, hx⟩; have HX := hid hx; clear hx)
    go_ret2
    exact ⟨_, rfl, grew_trans HG0.out HX.out, wd_nil _⟩
  | true =>
    simp only [if_true]
    have HI := hid (fun (W' : World) (h : Grew W0 W') => reached64_any g g.N (gOk_valid hb) (.agg #[.int .i64 g.n, s]) W' (HV.out.grew (grew_trans HG0.out h)))
    clear hr hb
    go_enter Try.func29, Try.ntmps29
    go_wp2_with (first
      | (go_at_call 51; (with_reducible refine HVA.out.mono ?_); rintro e w1 ⟨rfl, hx⟩; have HX := hid hx; have k0' := (hx.cell (p := ⟨w.heap.size, 0, none⟩) hz).trans k0; have k1' := (hx.cell (p := ⟨w.heap.size, 1, none⟩) hz).trans k1; clear hx)
      | (go_at_call 64; (with_reducible refine (HI.out _ HX.out).mono ?_); rintro e w2 ⟨u, rfl, hy, hs⟩; have HY := hid hy; have HS := hid hs; clear hy hs))
    go_ret2
    exact ⟨u, rfl, grew_trans HG0.out (grew_trans HX.out HY.out), wd_seg HS.out rfl⟩

set_option maxHeartbeats 2000000 in
theorem way45_any (v : Value) (g : Gr) (b : Int) (w : World) (hn : -9223372036854775808 ≤ g.n ∧ g.n ≤ 9223372036854775807) (hv : IsGr w v g) :
    Calls Try.prog 45 #[v, .int .i64 b] w fun e w' => ∃ u, e = .returned (.tuple #[u, .int .i64 (wayA g b).2]) ∧ Grew w w' ∧ IsWd w' u (wayA g b).1 := by
  have HV := hid hv
  obtain ⟨s, rfl, -⟩ := hv
  obtain ⟨W0, hW0, g0, k0, k1, hz⟩ := box2 w (.int .i64 g.n) s 24
  have HG0 := hid g0
  have HVA := hid (valid51_any _ g W0 hn (HV.out.grew g0))
  obtain ⟨bb, hb⟩ : ∃ b, valid g = b := ⟨_, rfl⟩
  have hr : wayA g b = if bb then (if isPl g.n b then wayL (wayM g.ms b) else ([], 2)) else ([], 70) := by unfold wayA; rw [hb]
  rw [hr]
  rw [hb] at HVA
  clear hr
  cases bb with
  | false =>
    simp only [Bool.false_eq_true, if_false]
    clear hb
    go_enter Try.func45, Try.ntmps45
    go_wp2_with (go_at_call 51; (with_reducible refine HVA.out.mono ?_); rintro e w1 ⟨rfl, hx⟩; have HX := hid hx; clear hx)
    go_ret2
    exact ⟨_, rfl, grew_trans HG0.out HX.out, wd_nil _⟩
  | true =>
    simp only [if_true]
    have hG := gOk_valid hb
    obtain ⟨N, hN⟩ : ∃ N, g.N = N := ⟨_, rfl⟩
    rw [hN] at hG
    have hgn := hG.n
    rw [hgn] at hW0 k0 HVA HV hn ⊢
    have hN8 := hG.h8; have hN1 := hG.h1
    have HG := hid hG
    clear hG hgn hN hb
    have hwr : IntKind.i64.wrap ((N : Int) - 1) = (N : Int) - 1 := IntWalk.i64_in _ (by omega)
    have HB := hid (fun W' => between_any 0 b ((N : Int) - 1) W')
    obtain ⟨pb, hpb⟩ : ∃ pb, isPl (N : Int) b = pb := ⟨_, rfl⟩
    have hpb2 : (decide (0 ≤ b) && decide (b ≤ (N : Int) - 1)) = pb := hpb
    rw [hpb2] at HB
    rw [hpb]
    clear hpb hpb2
    cases pb with
    | false =>
      simp only [Bool.false_eq_true, if_false]
      go_enter Try.func45, Try.ntmps45
      go_wp2_with (first
        | (go_at_call 51; (with_reducible refine HVA.out.mono ?_); rintro e w1 ⟨rfl, hx⟩; have HX := hid hx; have k0' := (hx.cell (p := ⟨w.heap.size, 0, none⟩) hz).trans k0; have k1' := (hx.cell (p := ⟨w.heap.size, 1, none⟩) hz).trans k1; clear hx)
        | (go_at_call 63; (with_reducible refine (HB.out _).mono ?_); rintro e w2 ⟨rfl, hy⟩; have HY := hid hy; clear hy))
      go_ret2
      exact ⟨_, rfl, grew_trans HG0.out (grew_trans HX.out HY.out), wd_nil _⟩
    | true =>
      simp only [if_true]
      have HI := hid (fun (W' : World) (h : Grew W0 W') => way81_any g N HG.out (.agg #[.int .i64 (N : Int), s]) (fun _ => true) (.func (.func 82) #[] #[]) 0 b ⟨by omega, by omega⟩ W' (HV.out.grew (grew_trans HG0.out h)) (any82 W'))
      have HWS := hid (fun (l : List Nat) (h : IsWay g.ms (fun _ => true) 0 b l) => wayM_some HG.out.h1 HG.out.h8 HG.out.inN h)
      have HWN := hid (fun (h : ∀ v, goG g.ms (fun _ => true) 0 v ≠ some b) => wayM_none HG.out.h1 HG.out.h8 HG.out.inN h)
      obtain ⟨r, hr⟩ : ∃ r, wayM g.ms b = r := ⟨_, rfl⟩
      have HRW := hid hr
      rw [hr]
      clear hr
      have HJ := hid (fun (W' : World) (h : Grew W0 W') => (HI.out W' h).mono (R' := fun (e : Ending) (w' : World) => ∃ u, e = .returned (.tuple #[u, .bool r.isSome]) ∧ Grew W' w' ∧ IsWd w' u (wayL r).1) (by
        rintro e w' ⟨u, rb, rfl, hgr, hh⟩
        rcases hh with ⟨rfl, l, h1, h2, h3⟩ | ⟨rfl, rfl, h1⟩
        · have h4 := HWS.out l h1
          rw [HRW.out] at h4
          subst h4
          exact ⟨u, rfl, hgr, h3.wd⟩
        · have h4 := HWN.out h1
          rw [HRW.out] at h4
          subst h4
          exact ⟨_, rfl, hgr, wd_nil _⟩))
      clear HI
      cases r with
      | none =>
        simp only [Option.isSome_none, wayL] at HJ ⊢
        go_enter Try.func45, Try.ntmps45
        go_wp2_with (first
          | (go_at_call 51; (with_reducible refine HVA.out.mono ?_); rintro e w1 ⟨rfl, hx⟩; have HX := hid hx; have k0' := (hx.cell (p := ⟨w.heap.size, 0, none⟩) hz).trans k0; have k1' := (hx.cell (p := ⟨w.heap.size, 1, none⟩) hz).trans k1; have hzx := Nat.lt_of_lt_of_le hz hx.size; clear hx)
          | (go_at_call 63; (with_reducible refine (HB.out _).mono ?_); rintro e w2 ⟨rfl, hy⟩; have HY := hid hy; have k0'' := (hy.cell (p := ⟨w.heap.size, 0, none⟩) hzx).trans k0'; have k1'' := (hy.cell (p := ⟨w.heap.size, 1, none⟩) hzx).trans k1'; clear hy)
          | (go_at_call 81; (with_reducible refine (HJ.out _ (grew_trans HX.out HY.out)).mono ?_); rintro e w3 ⟨u, rfl, hy3, hu3⟩; have HY3 := hid hy3; have HU3 := hid hu3; clear hy3 hu3))
        go_ret2
        exact ⟨_, rfl, grew_trans HG0.out (grew_trans HX.out (grew_trans HY.out HY3.out)), wd_nil _⟩
      | some l =>
        simp only [Option.isSome_some, wayL] at HJ ⊢
        go_enter Try.func45, Try.ntmps45
        go_wp2_with (first
          | (go_at_call 51; (with_reducible refine HVA.out.mono ?_); rintro e w1 ⟨rfl, hx⟩; have HX := hid hx; have k0' := (hx.cell (p := ⟨w.heap.size, 0, none⟩) hz).trans k0; have k1' := (hx.cell (p := ⟨w.heap.size, 1, none⟩) hz).trans k1; have hzx := Nat.lt_of_lt_of_le hz hx.size; clear hx)
          | (go_at_call 63; (with_reducible refine (HB.out _).mono ?_); rintro e w2 ⟨rfl, hy⟩; have HY := hid hy; have k0'' := (hy.cell (p := ⟨w.heap.size, 0, none⟩) hzx).trans k0'; have k1'' := (hy.cell (p := ⟨w.heap.size, 1, none⟩) hzx).trans k1'; clear hy)
          | (go_at_call 81; (with_reducible refine (HJ.out _ (grew_trans HX.out HY.out)).mono ?_); rintro e w3 ⟨u, rfl, hy3, hu3⟩; have HY3 := hid hy3; have HU3 := hid hu3; clear hy3 hu3))
        go_ret2
        exact ⟨u, rfl, grew_trans HG0.out (grew_trans HX.out (grew_trans HY.out HY3.out)), HU3.out⟩

/-! ### Ends -/

theorem from87_any (m : Mv) (Bn : Nat) (x : Int) (w : World) (hB : w.cell? ⟨Bn, 0, none⟩ = some (.int .i64 x)) : Calls Try.prog 87 #[encM m, .pointer (some ⟨Bn, 0, none⟩)] w fun e w' => e = .returned (.bool (fr m == x)) ∧ Grew w w' := by
  have hz := World.block_lt_of_cell? w _ hB
  simp only at hz
  obtain ⟨W1, hW1, g1, hb1⟩ := box4v w m
  have l0 := hb1.c0
  have l1 := hb1.c1
  have l2 := hb1.c2
  have l3 := hb1.c3
  have hlt := hb1.lt
  have hB1 := (g1.cell (p := ⟨Bn, 0, none⟩) hz).trans hB
  have hz1 := Nat.lt_of_lt_of_le hz g1.size
  have HG := hid g1
  obtain ⟨x1, x2, x3, x4⟩ := m
  simp only [Nat.zero_add] at l0 l1 l2 l3 hW1
  unfold encM
  simp only [fr]
  obtain ⟨b, hb⟩ : ∃ b, (x1 == x) = b := ⟨_, rfl⟩
  rw [hb]
  clear hb1 hB
  cases b
  all_goals (
    go_enter Try.func87, Try.ntmps87
    go_wp2
    go_ret
    exact ⟨rfl, HG.out⟩)

theorem ends86_any (g : Gr) (s : Value) (Bg : Nat) (x : Int) (w : World) (hB : w.cell? ⟨Bg, 1, none⟩ = some s) (hms : IsMvs w s g.ms) : Calls Try.prog 86 #[.int .i64 x, .pointer (some ⟨Bg, 0, none⟩)] w fun e w' => e = .returned (.bool (g.ms.any (fun m => fr m == x))) ∧ Grew w w' := by
  have hz := World.block_lt_of_cell? w _ hB
  simp only at hz
  obtain ⟨W1, hW1, g1, l0, hlt⟩ := box1 w (.int .i64 x) 3
  have hB1 := (g1.cell (p := ⟨Bg, 1, none⟩) hz).trans hB
  have hz1 := Nat.lt_of_lt_of_le hz g1.size
  have HG := hid g1
  have HC := hid (contains65_any 87 #[.pointer (some ⟨w.heap.size, 0, none⟩)] (fun m => fr m == x) s g.ms W1 (fun _ _ => by kernel_rfl) (hms.grew g1) (fun W hW m _ => from87_any m w.heap.size x W ((hW.cell (p := ⟨w.heap.size, 0, none⟩) hlt).trans l0)))
  obtain ⟨va, vc, rfl, -, -⟩ := hms
  go_enter Try.func86, Try.ntmps86
  go_wp2_with (go_at_call 65; (with_reducible refine HC.out.mono ?_); rintro e w1 ⟨rfl, hx⟩)
  go_ret
  exact ⟨rfl, grew_trans HG.out hx⟩

set_option maxHeartbeats 1000000 in
theorem ends54_any (v : Value) (g : Gr) (w : World) (hn : -9223372036854775808 ≤ g.n ∧ g.n ≤ 9223372036854775807) (hv : IsGr w v g) :
    Calls Try.prog 54 #[v] w fun e w' => ∃ u, e = .returned (.tuple #[u, .int .i64 (endsA g).2]) ∧ Grew w w' ∧ IsWd w' u (endsA g).1 := by
  have HV := hid hv
  obtain ⟨s, rfl, hms⟩ := hv
  have HMS := hid hms
  clear hms
  obtain ⟨W0, hW0, g0, k0, k1, hz⟩ := box2 w (.int .i64 g.n) s 24
  have HG0 := hid g0
  have HVA := hid (valid51_any _ g W0 hn (HV.out.grew g0))
  obtain ⟨b, hb⟩ : ∃ b, valid g = b := ⟨_, rfl⟩
  have hr : endsA g = if b then (endsM g.ms g.N, 0) else ([], 70) := by unfold endsA; rw [hb]
  rw [hr]
  rw [hb] at HVA
  cases b with
  | false =>
    simp only [Bool.false_eq_true, if_false]
    clear hr hb
    go_enter Try.func54, Try.ntmps54
    go_wp2_with (go_at_call 51; (with_reducible refine HVA.out.mono ?_); rintro e w1 ⟨rfl, hx⟩; have HX := hid hx; clear hx)
    go_ret2
    exact ⟨_, rfl, grew_trans HG0.out HX.out, wd_nil _⟩
  | true =>
    simp only [if_true]
    have HI := hid (fun (W' : World) (h : Grew W0 W') => reached64_any g g.N (gOk_valid hb) (.agg #[.int .i64 g.n, s]) W' (HV.out.grew (grew_trans HG0.out h)))
    have HN8 := hid (gOk_valid hb).h8
    clear hr hb
    go_enter Try.func54, Try.ntmps54
    go_wp2_with (first
      | (go_at_call 51; (with_reducible refine HVA.out.mono ?_); rintro e w1 ⟨rfl, hx⟩; have HX := hid hx; have k0' := (hx.cell (p := ⟨w.heap.size, 0, none⟩) hz).trans k0; have k1' := (hx.cell (p := ⟨w.heap.size, 1, none⟩) hz).trans k1; have hzx := Nat.lt_of_lt_of_le hz hx.size; clear hx)
      | (go_at_call 64; (with_reducible refine (HI.out _ HX.out).mono ?_); rintro e w2 ⟨u, rfl, hy, hs⟩; have HY := hid hy; have k1'' := (hy.cell (p := ⟨w.heap.size, 1, none⟩) hzx).trans k1';
         have hd := delete85_seg (fun x => g.ms.any (fun m => fr m == x)) 86 #[.pointer (some ⟨w.heap.size, 0, none⟩)] w1.heap.size u _ (reachedM g.ms g.N) w2 (fun _ _ => by kernel_rfl) (fun x _ W hW => ends86_any g s w.heap.size x W ((hW.cell (p := ⟨w.heap.size, 1, none⟩) hzx).trans k1'') (HMS.out.grew (((grew_trans HG0.out (grew_trans HX.out HY.out))).trans (hW.mono (Nat.le_trans HG0.out.size HX.out.size))))) hy.size hs rfl (by have := reachedM_len g.ms g.N; have := HN8.out; omega);
         have HD := hid hd; clear hd hy hs)
      | (go_at_call 85; (with_reducible refine HD.out.mono ?_); rintro e w3 ⟨u3, rfl, hu3, hx3⟩; have HX3 := hid hx3; have HU3 := hid hu3; clear hx3 hu3))
    go_ret2
    exact ⟨u3, rfl, (grew_trans HG0.out (grew_trans HX.out HY.out)).trans (HX3.out.mono (Nat.le_trans HG0.out.size HX.out.size)), HU3.out⟩
end Go.Proofs.Ytojkohpniokaaaa
