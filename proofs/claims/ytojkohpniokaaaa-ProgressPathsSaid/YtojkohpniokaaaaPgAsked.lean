/- Walks: newClaim (88), asked (58). Printed by gen_asked.py. -/
import Derived.Test.YtojkohpniokaaaaPgClaim
import Derived.Test.YtojkohpniokaaaaPgP
namespace Go.Proofs.Ytojkohpniokaaaa
open Go Go.RowKit Go.Lin Go.Lin.Pg

theorem run_store_func {P : Program} {w : World} {ad : Addr} {m : Mode} (f : Fn) (x y : Array Value) : (store ad (.func f x y) m).run P w = stored P w ad (.func f x y) m := run_store P w ad _ m rfl
theorem run_store_nilFunc {P : Program} {w : World} {ad : Addr} {m : Mode} : (store ad .nilFunc m).run P w = stored P w ad .nilFunc m := run_store P w ad _ m rfl
attribute [local go_sem] run_store_func run_store_nilFunc

theorem setCell_obj' (W : World) (b o : Nat) (v : Value) (k : Nat) (hne : k ≠ b) : (W.setCell ⟨b, o, none⟩ v).heap[k]? = W.heap[k]? := by
  simp [World.setCell, Array.getElem?_modify, Ne.symm hne]

/-- A claim, stored into its cells. -/
theorem claim_stores {W : World} {p : Nat} {x y : Value} {t : TypeId} (ho : W.heap[p]? = some (.cells #[x, y] t (0, 0))) (u v : Value) :
    Keeps (fun k _ => k = p) W ((W.setCell ⟨p, 0, none⟩ u).setCell ⟨p, 1, none⟩ v) ∧
      ((W.setCell ⟨p, 0, none⟩ u).setCell ⟨p, 1, none⟩ v).cell? ⟨p, 0, none⟩ = some u ∧ ((W.setCell ⟨p, 0, none⟩ u).setCell ⟨p, 1, none⟩ v).cell? ⟨p, 1, none⟩ = some v := by
  have cp : W.cell? ⟨p, 0, none⟩ = some x := cell_of_row _ _ _ _ _ _ ho
  have cq : W.cell? ⟨p, 1, none⟩ = some y := cell_of_row _ _ _ _ _ _ ho
  have hab : (⟨p, 0, none⟩ : Addr) ≠ ⟨p, 1, none⟩ := fun h => by simp at h
  refine ⟨(keeps_setB W p 0 u).trans (keeps_setB _ p 1 v), ?_, ?_⟩
  · rw [World.cell?_setCell_other _ _ _ _ (Ne.symm hab)]
    exact World.cell?_setCell_same' _ _ _ (by rw [cp]; rfl)
  · refine World.cell?_setCell_same' _ _ _ ?_
    rw [World.cell?_setCell_other _ _ _ _ hab, cq]; rfl

theorem results_claim {t1 t2 : Tmp} {fn : Func} {tmps : Array Value} {p : Nat} {W : World} {v0 v1 u : Value} (h : fn.results = #[.cell t1 72, .tmp t2]) (h1 : tmps[t1]?.getD undef = .pointer (some ⟨p, 0, none⟩)) (h2 : tmps[t2]?.getD undef = u)
    (c0 : W.cell? ⟨p, 0, none⟩ = some v0) (c1 : W.cell? ⟨p, 1, none⟩ = some v1) : (results fn tmps).run Try.prog W = .ok (.tuple #[.agg #[v0, v1], u]) W := by
  simp [results, h, h1, h2, go_sem, c0, c1, Try.isAgg72]

/-- A function of moves that says p and looks at no block in front of B. -/
def IsFnB (B : Nat) (w : World) (v : Value) (p : Mv → Bool) : Prop := ∃ f caps, v = .func (.func f) #[] caps ∧ (∀ args w, (callFunc f args).run Try.prog w = .ok (.enter f args) w) ∧
  ∀ W, Keeps (fun k _ => k < B) w W → ∀ m, Calls Try.prog f (#[encM m] ++ caps) W fun e w' => e = .returned (.bool (p m)) ∧ Grew W w'

theorem IsFnB.fn {B : Nat} {w : World} {v : Value} {p : Mv → Bool} (h : IsFnB B w v p) : IsFn w v p :=
  let ⟨f, caps, h1, h2, h3⟩ := h; ⟨f, caps, h1, h2, fun W hW => h3 W hW.keeps⟩

theorem IsFnB.keeps {B : Nat} {w w' : World} {v : Value} {p : Mv → Bool} (h : IsFnB B w v p) (hk : Keeps (fun k _ => k < B) w w') : IsFnB B w' v p :=
  let ⟨f, caps, h1, h2, h3⟩ := h; ⟨f, caps, h1, h2, fun W hW => h3 W (hk.trans hW)⟩

theorem IsFnB.congr {B : Nat} {w : World} {v : Value} {p q : Mv → Bool} (h : IsFnB B w v p) (e : ∀ m, p m = q m) : IsFnB B w v q := by
  have : p = q := funext e
  rwa [← this]

theorem any82B (B : Nat) (w : World) : IsFnB B w (.func (.func 82) #[] #[]) (fun _ => true) := by
  obtain ⟨f, caps, h1, h2, h3⟩ := any82 w
  cases h1
  refine ⟨82, #[], rfl, h2, fun W hW m => ?_⟩
  obtain ⟨f, caps, h4, h5, h6⟩ := any82 W
  cases h4
  exact h6 W (grew_refl W) m
theorem isFnB_open (B : Nat) (w : World) : IsFnB B w (.func (.func 95) #[] #[]) (fun m => !dn m) := ⟨95, #[], rfl, fun _ _ => by kernel_rfl, fun W _ m => open95_any m W⟩
theorem TwoFn.keeps {B : Nat} {w w' : World} {Bo Bp Bt : Nat} {t : Int} (h : TwoFn w Bo Bp Bt t) (hk : Keeps (fun k _ => k < B) w w') (h1 : B ≤ Bo) (h2 : B ≤ Bp) (h3 : B ≤ Bt) : TwoFn w' Bo Bp Bt t :=
  ⟨cell_keeps hk (fun _ _ => by omega) h.own, cell_keeps hk (fun _ _ => by omega) h.opn, cell_keeps hk (fun _ _ => by omega) h.thr⟩
theorem isFnB_own {B : Nat} {w : World} {Bo Bp Bt : Nat} {t : Int} (h : TwoFn w Bo Bp Bt t) (h1 : B ≤ Bo) (h2 : B ≤ Bp) (h3 : B ≤ Bt) : IsFnB B w (.func (.func 96) #[] #[.pointer (some ⟨Bt, 0, none⟩)]) (fun m => th m == t) :=
  ⟨96, _, rfl, fun _ _ => by kernel_rfl, fun W hW m => own96_any m Bt t W (h.keeps hW h1 h2 h3).thr⟩
theorem isFnB_both {B : Nat} {w : World} {Bo Bp Bt : Nat} {t : Int} (h : TwoFn w Bo Bp Bt t) (h1 : B ≤ Bo) (h2 : B ≤ Bp) (h3 : B ≤ Bt) : IsFnB B w (.func (.func 97) #[] #[.pointer (some ⟨Bo, 0, none⟩), .pointer (some ⟨Bp, 0, none⟩)]) (fun m => (th m == t) && !dn m) :=
  ⟨97, _, rfl, fun _ _ => by kernel_rfl, fun W hW m => both97_any m Bo Bp Bt t W (h.keeps hW h1 h2 h3)⟩
theorem isFnB_waits {B : Nat} {w : World} {Bo Bp Bt : Nat} {t : Int} (h : TwoFn w Bo Bp Bt t) (h1 : B ≤ Bo) (h2 : B ≤ Bp) (h3 : B ≤ Bt) : IsFnB B w (.func (.func 98) #[] #[.pointer (some ⟨Bo, 0, none⟩), .pointer (some ⟨Bp, 0, none⟩)]) (fun m => !(th m == t) || !dn m) :=
  ⟨98, _, rfl, fun _ _ => by kernel_rfl, fun W hW m => waits98_any m Bo Bp Bt t W (h.keeps hW h1 h2 h3)⟩

/-- What newClaim answers. -/
def NewC (c t : Int) (w : World) (e : Ending) (w' : World) : Prop := Grew w w' ∧
  ((clOk c t = true ∧ ∃ f1 c1 f2 c2, e = .returned (.tuple #[.agg #[.func (.func f1) #[] c1, .func (.func f2) #[] c2], .bool true]) ∧ IsFnB w.heap.size w' (.func (.func f1) #[] c1) (wi c t) ∧ IsFnB w.heap.size w' (.func (.func f2) #[] c2) (mu c t)) ∨
    (clOk c t = false ∧ e = .returned (.tuple #[.agg #[.nilFunc, .nilFunc], .bool false])))

set_option maxHeartbeats 4000000 in
set_option maxRecDepth 20000 in
theorem newClaim88_any (c t : Int) (w : World) : Calls Try.prog 88 #[.int .i64 c, .int .i64 t] w fun e w' => NewC c t w e w' := by
  obtain ⟨W0, hW0, g0, k0, hz⟩ := box1 w (.int .i64 t) 3
  obtain ⟨W1, hW1⟩ : ∃ W1, W0.alloc (.cells #[Value.nilFunc, Value.nilFunc] 72) = W1 := ⟨_, rfl⟩
  have g1 : Grew W0 W1 := by rw [← hW1]; exact grew_alloc (grew_refl _) _
  have o1 : W1.heap[W0.heap.size]? = some (.cells #[Value.nilFunc, Value.nilFunc] 72 (0, 0)) := by rw [← hW1]; exact heap_alloc_new W0 _
  obtain ⟨W2, hW2, g2, m0, hz2⟩ := box1 W1 (.func (.func 95) #[] #[]) 70
  obtain ⟨W3, hW3, g3, n0, hz3⟩ := box1 W2 (.func (.func 96) #[] #[.pointer (some ⟨w.heap.size, 0, none⟩)]) 70
  have g23 := grew_trans g2 g3
  have g13 := grew_trans g1 g23
  have hz1 := lt_of_obj o1
  have o3 := (g23.block _ hz1).trans o1
  have hT : TwoFn W3 W2.heap.size W1.heap.size w.heap.size t := ⟨n0, (g3.cell (p := ⟨W1.heap.size, 0, none⟩) hz2).trans m0, (g13.cell (p := ⟨w.heap.size, 0, none⟩) hz).trans k0⟩
  have g03 := grew_trans g0 g13
  have hne : W0.heap.size ≠ W2.heap.size := by have := g2.size; omega
  have hne1 : W0.heap.size ≠ W1.heap.size := by have := g2.size; omega
  have hne0 : W0.heap.size ≠ w.heap.size := by have := g2.size; omega
  have HLE := hid (show w.heap.size ≤ W2.heap.size ∧ w.heap.size ≤ W1.heap.size by have := g0.size; have := g1.size; have := g2.size; omega)
  have HNE := hid (And.intro hne (And.intro hne1 hne0))
  have hsz : w.heap.size ≤ W0.heap.size := g0.size
  -- what stays behind the stores
  have fin : ∀ (W : World), Grew W3 W → ∀ u v : Value, Grew w ((W.setCell ⟨W0.heap.size, 0, none⟩ u).setCell ⟨W0.heap.size, 1, none⟩ v) ∧ TwoFn ((W.setCell ⟨W0.heap.size, 0, none⟩ u).setCell ⟨W0.heap.size, 1, none⟩ v) W2.heap.size W1.heap.size w.heap.size t ∧
      ((W.setCell ⟨W0.heap.size, 0, none⟩ u).setCell ⟨W0.heap.size, 1, none⟩ v).cell? ⟨W0.heap.size, 0, none⟩ = some u ∧ ((W.setCell ⟨W0.heap.size, 0, none⟩ u).setCell ⟨W0.heap.size, 1, none⟩ v).cell? ⟨W0.heap.size, 1, none⟩ = some v := by
    intro W hW u v
    obtain ⟨hk, c0, c1⟩ := claim_stores ((hW.block _ (lt_of_obj o3)).trans o3) u v
    have hTW := hT.grew hW
    refine ⟨(grew_trans g03 hW).trans (hk.below (by have := g03.size; have := hW.size; omega) (fun k _ h => by rw [h]; exact hsz)), ⟨cell_keeps hk (fun _ _ => Ne.symm hne) hTW.own, cell_keeps hk (fun _ _ => Ne.symm hne1) hTW.opn, cell_keeps hk (fun _ _ => Ne.symm hne0) hTW.thr⟩, c0, c1⟩
  have q0 := hT.own
  have q1 := hT.opn
  have q2 := hT.thr
  have e0 : W3.cell? ⟨W0.heap.size, 0, none⟩ = some Value.nilFunc := cell_of_row _ _ _ _ _ _ o3
  have e1 : W3.cell? ⟨W0.heap.size, 1, none⟩ = some Value.nilFunc := cell_of_row _ _ _ _ _ _ o3
  have f0 := frozen_obj o3 0
  have f1 := frozen_obj o3 1
  have FIN := hid fin; have HT := hid hT; have HO3 := hid o3
  have HB := hid (fun W => between_any 0 t 2 W)
  have hth : (decide ((0 : Int) ≤ t) && decide (t ≤ 2)) = isTh t := rfl
  rw [hth] at HB
  have G3 := hid (grew_refl W3)
  clear fin hT o3 o1 g23 g13 m0 n0 k0 hne hne1 hne0 hth
  by_cases hc0 : c = 0
  · subst hc0
    by_cases ht0 : t = 0
    · subst ht0
      go_enter Try.func88, Try.ntmps88
      go_wp2
      obtain ⟨r1, r2, r3, r4⟩ := FIN.out W3 G3.out (.func (.func 95) #[] #[]) (.func (.func 82) #[] #[])
      refine bodyPost_ret (results_claim rfl rfl rfl r3 r4) rfl ?_
      exact ⟨r1, .inl ⟨rfl, _, _, _, _, rfl, (isFnB_open _ _).congr (fun m => by simp [wi]), (any82B _ _).congr (fun m => by simp [mu])⟩⟩
    · have HT0 := hid ht0
      have ht1 : (t == 0) = false := by simpa using ht0
      clear ht0
      go_enter Try.func88, Try.ntmps88
      go_wp2
      obtain ⟨r1, r2, r3, r4⟩ := FIN.out W3 G3.out .nilFunc .nilFunc
      refine bodyPost_ret (results_claim rfl rfl rfl r3 r4) rfl ?_
      exact ⟨r1, .inr ⟨by unfold clOk; rw [ht1]; rfl, rfl⟩⟩
  · have HC0 := hid hc0
    have hc0b : (c == 0) = false := by simpa using hc0
    have HC0B := hid hc0b
    by_cases hc1 : c = 1
    · subst hc1
      obtain ⟨b, hb⟩ : ∃ b, isTh t = b := ⟨_, rfl⟩
      have HBB := hid hb
      have hne1 : W0.heap.size ≠ W1.heap.size := HNE.out.2.1
      have hne2 : W0.heap.size ≠ W2.heap.size := HNE.out.1
      have hne0 : W0.heap.size ≠ w.heap.size := HNE.out.2.2
      have l0 := World.block_lt_of_cell? _ _ q0
      have l1 := World.block_lt_of_cell? _ _ q1
      have l2 := World.block_lt_of_cell? _ _ q2
      simp only at l0 l1 l2
      rw [hb] at HB
      clear hb
      cases b
      · go_enter Try.func88, Try.ntmps88
        go_wp2_with (go_at_call 63; (with_reducible refine (HB.out _).mono ?_); rintro e w1 ⟨rfl, hx⟩; have d0 := (hx.cell (p := ⟨W2.heap.size, 0, none⟩) l0).trans q0; have d1 := (hx.cell (p := ⟨W1.heap.size, 0, none⟩) l1).trans q1; have d2 := (hx.cell (p := ⟨w.heap.size, 0, none⟩) l2).trans q2; have o4 := (hx.block _ (lt_of_obj HO3.out)).trans HO3.out; have b0 : w1.cell? ⟨W0.heap.size, 0, none⟩ = some Value.nilFunc := cell_of_row _ _ _ _ _ _ o4; have b1 : w1.cell? ⟨W0.heap.size, 1, none⟩ = some Value.nilFunc := cell_of_row _ _ _ _ _ _ o4; have a0 := frozen_obj o4 0; have a1 := frozen_obj o4 1; have HX := hid hx; clear hx o4)
        obtain ⟨r1, r2, r3, r4⟩ := FIN.out w1 HX.out .nilFunc .nilFunc
        refine bodyPost_ret (results_claim rfl rfl rfl r3 r4) rfl ?_
        exact ⟨r1, .inr ⟨by unfold clOk; rw [HBB.out]; rfl, rfl⟩⟩
      · go_enter Try.func88, Try.ntmps88
        go_wp2_with (go_at_call 63; (with_reducible refine (HB.out _).mono ?_); rintro e w1 ⟨rfl, hx⟩; have d0 := (hx.cell (p := ⟨W2.heap.size, 0, none⟩) l0).trans q0; have d1 := (hx.cell (p := ⟨W1.heap.size, 0, none⟩) l1).trans q1; have d2 := (hx.cell (p := ⟨w.heap.size, 0, none⟩) l2).trans q2; have o4 := (hx.block _ (lt_of_obj HO3.out)).trans HO3.out; have b0 : w1.cell? ⟨W0.heap.size, 0, none⟩ = some Value.nilFunc := cell_of_row _ _ _ _ _ _ o4; have b1 : w1.cell? ⟨W0.heap.size, 1, none⟩ = some Value.nilFunc := cell_of_row _ _ _ _ _ _ o4; have a0 := frozen_obj o4 0; have a1 := frozen_obj o4 1; have HX := hid hx; clear hx o4)
        obtain ⟨r1, r2, r3, r4⟩ := FIN.out w1 HX.out (.func (.func 98) #[] #[.pointer (some ⟨W2.heap.size, 0, none⟩), .pointer (some ⟨W1.heap.size, 0, none⟩)]) (.func (.func 96) #[] #[.pointer (some ⟨w.heap.size, 0, none⟩)])
        refine bodyPost_ret (results_claim rfl rfl rfl r3 r4) rfl ?_
        exact ⟨r1, .inl ⟨by unfold clOk; rw [HBB.out]; rfl, _, _, _, _, rfl, (isFnB_waits r2 HLE.out.1 HLE.out.2 (Nat.le_refl _)).congr (fun m => by simp [wi]), (isFnB_own r2 HLE.out.1 HLE.out.2 (Nat.le_refl _)).congr (fun m => by simp [mu])⟩⟩
    · have HC1 := hid hc1
      have hc1b : (c == 1) = false := by simpa using hc1
      have HC1B := hid hc1b
      by_cases hc2 : c = 2
      · subst hc2
        obtain ⟨b, hb⟩ : ∃ b, isTh t = b := ⟨_, rfl⟩
        have HBB := hid hb
        have hne1 : W0.heap.size ≠ W1.heap.size := HNE.out.2.1
        have hne2 : W0.heap.size ≠ W2.heap.size := HNE.out.1
        have hne0 : W0.heap.size ≠ w.heap.size := HNE.out.2.2
        have l0 := World.block_lt_of_cell? _ _ q0
        have l1 := World.block_lt_of_cell? _ _ q1
        have l2 := World.block_lt_of_cell? _ _ q2
        simp only at l0 l1 l2
        rw [hb] at HB
        clear hb
        cases b
        · go_enter Try.func88, Try.ntmps88
          go_wp2_with (go_at_call 63; (with_reducible refine (HB.out _).mono ?_); rintro e w1 ⟨rfl, hx⟩; have d0 := (hx.cell (p := ⟨W2.heap.size, 0, none⟩) l0).trans q0; have d1 := (hx.cell (p := ⟨W1.heap.size, 0, none⟩) l1).trans q1; have d2 := (hx.cell (p := ⟨w.heap.size, 0, none⟩) l2).trans q2; have o4 := (hx.block _ (lt_of_obj HO3.out)).trans HO3.out; have b0 : w1.cell? ⟨W0.heap.size, 0, none⟩ = some Value.nilFunc := cell_of_row _ _ _ _ _ _ o4; have b1 : w1.cell? ⟨W0.heap.size, 1, none⟩ = some Value.nilFunc := cell_of_row _ _ _ _ _ _ o4; have a0 := frozen_obj o4 0; have a1 := frozen_obj o4 1; have HX := hid hx; clear hx o4)
          obtain ⟨r1, r2, r3, r4⟩ := FIN.out w1 HX.out .nilFunc .nilFunc
          refine bodyPost_ret (results_claim rfl rfl rfl r3 r4) rfl ?_
          exact ⟨r1, .inr ⟨by unfold clOk; rw [HBB.out]; rfl, rfl⟩⟩
        · go_enter Try.func88, Try.ntmps88
          go_wp2_with (go_at_call 63; (with_reducible refine (HB.out _).mono ?_); rintro e w1 ⟨rfl, hx⟩; have d0 := (hx.cell (p := ⟨W2.heap.size, 0, none⟩) l0).trans q0; have d1 := (hx.cell (p := ⟨W1.heap.size, 0, none⟩) l1).trans q1; have d2 := (hx.cell (p := ⟨w.heap.size, 0, none⟩) l2).trans q2; have o4 := (hx.block _ (lt_of_obj HO3.out)).trans HO3.out; have b0 : w1.cell? ⟨W0.heap.size, 0, none⟩ = some Value.nilFunc := cell_of_row _ _ _ _ _ _ o4; have b1 : w1.cell? ⟨W0.heap.size, 1, none⟩ = some Value.nilFunc := cell_of_row _ _ _ _ _ _ o4; have a0 := frozen_obj o4 0; have a1 := frozen_obj o4 1; have HX := hid hx; clear hx o4)
          obtain ⟨r1, r2, r3, r4⟩ := FIN.out w1 HX.out (.func (.func 97) #[] #[.pointer (some ⟨W2.heap.size, 0, none⟩), .pointer (some ⟨W1.heap.size, 0, none⟩)]) (.func (.func 82) #[] #[])
          refine bodyPost_ret (results_claim rfl rfl rfl r3 r4) rfl ?_
          exact ⟨r1, .inl ⟨by unfold clOk; rw [HBB.out]; rfl, _, _, _, _, rfl, (isFnB_both r2 HLE.out.1 HLE.out.2 (Nat.le_refl _)).congr (fun m => by simp [wi]), (any82B _ _).congr (fun m => by simp [mu])⟩⟩
      · have hc2b : (c == 2) = false := by simpa using hc2
        have HC2B := hid hc2b
        clear hc0 hc1 hc2
        go_enter Try.func88, Try.ntmps88
        go_wp2
        obtain ⟨r1, r2, r3, r4⟩ := FIN.out W3 G3.out .nilFunc .nilFunc
        refine bodyPost_ret (results_claim rfl rfl rfl r3 r4) rfl ?_
        exact ⟨r1, .inr ⟨by unfold clOk; rw [HC0B.out, HC1B.out, HC2B.out]; rfl, rfl⟩⟩

/-- The answers of asked. -/
def AskA (g : Gr) (c t : Int) (w : World) (e : Ending) (w' : World) : Prop := Grew w w' ∧
  ((askM g c t = 0 ∧ ∃ f1 c1 f2 c2, e = .returned (.tuple #[.agg #[.func (.func f1) #[] c1, .func (.func f2) #[] c2], .int .i64 0]) ∧ IsFn w' (.func (.func f1) #[] c1) (wi c t) ∧ IsFn w' (.func (.func f2) #[] c2) (mu c t)) ∨
    (askM g c t ≠ 0 ∧ e = .returned (.tuple #[.agg #[.nilFunc, .nilFunc], .int .i64 (askM g c t)])))

set_option maxHeartbeats 4000000 in
set_option maxRecDepth 20000 in
theorem asked58_any (v : Value) (g : Gr) (c t : Int) (w : World) (hn : -9223372036854775808 ≤ g.n ∧ g.n ≤ 9223372036854775807) (hv : IsGr w v g) :
    Calls Try.prog 58 #[v, .int .i64 c, .int .i64 t] w fun e w' => AskA g c t w e w' := by
  have HV := hid hv
  obtain ⟨s, rfl, -⟩ := hv
  obtain ⟨W0, hW0, g0, k0, k1, hz⟩ := box2 w (.int .i64 g.n) s 24
  obtain ⟨W1, hW1⟩ : ∃ W1, W0.alloc (.cells #[Value.nilFunc, Value.nilFunc] 72) = W1 := ⟨_, rfl⟩
  have g1 : Grew W0 W1 := by rw [← hW1]; exact grew_alloc (grew_refl _) _
  have o1 : W1.heap[W0.heap.size]? = some (.cells #[Value.nilFunc, Value.nilFunc] 72 (0, 0)) := by rw [← hW1]; exact heap_alloc_new W0 _
  have hz1 := lt_of_obj o1
  have g01 := grew_trans g0 g1
  have q0 := (g1.cell (p := ⟨w.heap.size, 0, none⟩) hz).trans k0
  have q1 := (g1.cell (p := ⟨w.heap.size, 1, none⟩) hz).trans k1
  have hsz : w.heap.size ≤ W0.heap.size := g0.size
  have HVAL := hid (valid51_any _ g W1 hn (HV.out.grew g01))
  have HO1 := hid o1
  have fin : ∀ (W : World), Grew W1 W → ∀ u v : Value, Grew w ((W.setCell ⟨W0.heap.size, 0, none⟩ u).setCell ⟨W0.heap.size, 1, none⟩ v) ∧ Keeps (fun k _ => k = W0.heap.size) W ((W.setCell ⟨W0.heap.size, 0, none⟩ u).setCell ⟨W0.heap.size, 1, none⟩ v) ∧
      ((W.setCell ⟨W0.heap.size, 0, none⟩ u).setCell ⟨W0.heap.size, 1, none⟩ v).cell? ⟨W0.heap.size, 0, none⟩ = some u ∧ ((W.setCell ⟨W0.heap.size, 0, none⟩ u).setCell ⟨W0.heap.size, 1, none⟩ v).cell? ⟨W0.heap.size, 1, none⟩ = some v := by
    intro W hW u v
    obtain ⟨hk, c0, c1⟩ := claim_stores ((hW.block _ (lt_of_obj HO1.out)).trans HO1.out) u v
    exact ⟨(grew_trans g01 hW).trans (hk.below (by have := g01.size; have := hW.size; omega) (fun k _ h => by rw [h]; exact hsz)), hk, c0, c1⟩
  have FIN := hid fin
  have HG01 := hid g01
  obtain ⟨b, hb⟩ : ∃ b, valid g = b := ⟨_, rfl⟩
  have HB := hid hb
  rw [hb] at HVAL
  clear fin hb o1 g01 g1 g0
  cases b
  · go_enter Try.func58, Try.ntmps58
    go_wp2_with (go_at_call 51; (with_reducible refine HVAL.out.mono ?_); rintro e w1 ⟨rfl, hx⟩; have o4 := (hx.block _ (lt_of_obj HO1.out)).trans HO1.out; have b0 : w1.cell? ⟨W0.heap.size, 0, none⟩ = some Value.nilFunc := cell_of_row _ _ _ _ _ _ o4; have b1 : w1.cell? ⟨W0.heap.size, 1, none⟩ = some Value.nilFunc := cell_of_row _ _ _ _ _ _ o4; have a0 := frozen_obj o4 0; have a1 := frozen_obj o4 1; have HX := hid hx; clear hx o4)
    obtain ⟨r1, r2, r3, r4⟩ := FIN.out w1 HX.out .nilFunc .nilFunc
    have he : askM g c t = 70 := by unfold askM; rw [HB.out]; rfl
    refine bodyPost_ret (results_claim rfl rfl rfl r3 r4) rfl ?_
    exact ⟨r1, .inr ⟨by rw [he]; decide, by rw [he]; rfl⟩⟩
  · have HNC := hid (fun W => newClaim88_any c t W)
    obtain ⟨d, hd⟩ : ∃ d, clOk c t = d := ⟨_, rfl⟩
    have HD := hid hd
    have he : askM g c t = if d then 0 else 2 := by unfold askM; rw [HB.out, HD.out]; rfl
    have HE := hid he
    clear he hd
    cases d
    · have HNC2 := hid (fun W => (HNC.out W).mono (R' := fun (e : Ending) (w' : World) => Grew W w' ∧ e = .returned (.tuple #[.agg #[.nilFunc, .nilFunc], .bool false])) (by
        rintro e w' ⟨h1, ⟨h2, _⟩ | ⟨_, h2⟩⟩
        · rw [HD.out] at h2; cases h2
        · exact ⟨h1, h2⟩))
      go_enter Try.func58, Try.ntmps58
      go_wp2_with (first
        | (go_at_call 51; (with_reducible refine HVAL.out.mono ?_); rintro e w1 ⟨rfl, hx⟩; have HX := hid hx; clear hx)
        | (go_at_call 88; (with_reducible refine (HNC2.out _).mono ?_); rintro e w2 ⟨hy, rfl⟩; have HY := hid (grew_alloc (grew_trans HX.out hy) (.cells #[Value.nilFunc, Value.nilFunc] 72)); have o4 := (HY.out.block _ (lt_of_obj HO1.out)).trans HO1.out; have b0 : (w2.alloc (.cells #[Value.nilFunc, Value.nilFunc] 72)).cell? ⟨W0.heap.size, 0, none⟩ = some Value.nilFunc := cell_of_row _ _ _ _ _ _ o4; have b1 : (w2.alloc (.cells #[Value.nilFunc, Value.nilFunc] 72)).cell? ⟨W0.heap.size, 1, none⟩ = some Value.nilFunc := cell_of_row _ _ _ _ _ _ o4; have a0 := frozen_obj o4 0; have a1 := frozen_obj o4 1; clear hy o4))
      obtain ⟨r1, r2, r3, r4⟩ := FIN.out _ HY.out .nilFunc .nilFunc
      refine bodyPost_ret (results_claim rfl rfl rfl r3 r4) rfl ?_
      have he : askM g c t = 2 := HE.out
      exact ⟨r1, .inr ⟨by rw [he]; decide, by rw [he]; rfl⟩⟩
    · have HNC2 := hid (fun W => (HNC.out W).mono (R' := fun (e : Ending) (w' : World) => Grew W w' ∧ ∃ f1 c1 f2 c2, e = .returned (.tuple #[.agg #[.func (.func f1) #[] c1, .func (.func f2) #[] c2], .bool true]) ∧ IsFnB W.heap.size w' (.func (.func f1) #[] c1) (wi c t) ∧ IsFnB W.heap.size w' (.func (.func f2) #[] c2) (mu c t)) (by
        rintro e w' ⟨h1, ⟨_, h2⟩ | ⟨h2, _⟩⟩
        · exact ⟨h1, h2⟩
        · rw [HD.out] at h2; cases h2))
      go_enter Try.func58, Try.ntmps58
      go_wp2_with (first
        | (go_at_call 51; (with_reducible refine HVAL.out.mono ?_); rintro e w1 ⟨rfl, hx⟩; have HX := hid hx; clear hx)
        | (go_at_call 88; (with_reducible refine (HNC2.out _).mono ?_); rintro e w2 ⟨hy, f1, c1, f2, c2, rfl, hi1, hi2⟩; obtain ⟨W2, hW2, g2, e0, e1, hz2⟩ := box2 w2 (.func (.func f1) #[] c1) (.func (.func f2) #[] c2) 72; have HI := hid (And.intro (hi1.keeps g2.keeps) (hi2.keeps g2.keeps)); have HY := hid (grew_trans (grew_trans HX.out hy) g2); have o4 := (HY.out.block _ (lt_of_obj HO1.out)).trans HO1.out; have b0 : W2.cell? ⟨W0.heap.size, 0, none⟩ = some Value.nilFunc := cell_of_row _ _ _ _ _ _ o4; have b1 : W2.cell? ⟨W0.heap.size, 1, none⟩ = some Value.nilFunc := cell_of_row _ _ _ _ _ _ o4; have a0 := frozen_obj o4 0; have a1 := frozen_obj o4 1; clear hy o4))
      obtain ⟨r1, r2, r3, r4⟩ := FIN.out W2 HY.out (.func (.func f1) #[] c1) (.func (.func f2) #[] c2)
      refine bodyPost_ret (results_claim rfl rfl rfl r3 r4) rfl ?_
      have hlt : W0.heap.size < w1.heap.size := Nat.lt_of_lt_of_le (lt_of_obj HO1.out) HX.out.size
      have he : askM g c t = 0 := HE.out
      exact ⟨r1, .inl ⟨he, _, _, _, _, rfl, (HI.out.1.keeps (r2.mono (fun k _ h => by rw [h]; exact hlt))).fn, (HI.out.2.keeps (r2.mono (fun k _ h => by rw [h]; exact hlt))).fn⟩⟩
end Go.Proofs.Ytojkohpniokaaaa
