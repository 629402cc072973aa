/- Walks: step (68), ranks (59). -/
import Derived.Test.YtojkohpniokaaaaPgLasso
import Derived.Test.YtojkohpniokaaaaPgFunc
import Derived.BigQuiet
import Derived.StillTailTactics
namespace Go.Lin.Pg
theorem contains_reached {ms : List Mv} {N : Nat} (h1 : 1 ≤ N) (h8 : N ≤ 8) (hN : InN N ms) (p : Int) : (reachedM ms N).contains p = reachB ms p := by
  rw [Bool.eq_iff_iff, List.contains_iff_mem, mem_reachedM h1 h8 hN, reachB_iff h1 h8 hN]

/-- The first moves of a round. -/
def partM (ms : List Mv) (c t : Int) (r : List Int) (j : Nat) : List Int × Bool := (ms.take j).foldl (relax (acM ms c t) (wt c t)) (r, false)

theorem partM_succ {ms : List Mv} {c t : Int} {r : List Int} {j : Nat} {m : Mv} (h : ms[j]? = some m) : partM ms c t r (j + 1) = relax (acM ms c t) (wt c t) (partM ms c t r j) m := by
  unfold partM
  rw [take_add_getM h, List.foldl_append]; rfl
theorem partM_all {ms : List Mv} {c t : Int} {r : List Int} : partM ms c t r ms.length = raise (acM ms c t) (wt c t) ms r := by
  unfold partM raise; rw [List.take_length]
theorem partM_length (ms : List Mv) (c t : Int) (r : List Int) (j : Nat) : (partM ms c t r j).1.length = r.length := by
  unfold partM; rw [fold_length]

theorem wt_le (c t : Int) (m : Mv) : wt c t m ≤ 1 := by unfold wt; split <;> omega

theorem relax_bound {ac : Mv → Bool} {w : Mv → Nat} (hw : ∀ m, w m ≤ 1) {st : List Int × Bool} {B : Nat} (h : ∀ p, 0 ≤ nth st.1 p ∧ nth st.1 p ≤ (B : Int)) (m : Mv) : ∀ p, 0 ≤ nth (relax ac w st m).1 p ∧ nth (relax ac w st m).1 p ≤ ((B + 1 : Nat) : Int) := by
  intro p
  have hp := h p
  unfold relax
  split
  · have h2 := h (tg m).toNat
    have h3 := hw m
    by_cases e : p = (fr m).toNat
    · subst e
      by_cases hl : (fr m).toNat < st.1.length
      · simp only; rw [nth_set_same hl]; omega
      · simp only; rw [List.set_eq_of_length_le (by omega)]; omega
    · simp only; rw [nth_set_other e]; omega
  · omega

theorem fold_bound {ac : Mv → Bool} {w : Mv → Nat} (hw : ∀ m, w m ≤ 1) : ∀ (l : List Mv) {st : List Int × Bool} {B : Nat}, (∀ p, 0 ≤ nth st.1 p ∧ nth st.1 p ≤ (B : Int)) → ∀ p, 0 ≤ nth (l.foldl (relax ac w) st).1 p ∧ nth (l.foldl (relax ac w) st).1 p ≤ ((B + l.length : Nat) : Int)
  | [], _, _, h, p => by simpa using h p
  | m :: l, st, B, h, p => by
    have := fold_bound (ac := ac) hw l (relax_bound (ac := ac) hw h m) p
    rw [List.foldl_cons, List.length_cons]
    rw [show B + (l.length + 1) = B + 1 + l.length by omega]
    exact this

theorem rounds_bound {ac : Mv → Bool} {w : Mv → Nat} {ms : List Mv} {N : Nat} (hw : ∀ m, w m ≤ 1) : ∀ k p, 0 ≤ nth (rounds ac w ms N k) p ∧ nth (rounds ac w ms N k) p ≤ ((k * ms.length : Nat) : Int)
  | 0, p => by simp only [rounds]; rw [nth_replicate]; simp
  | k + 1, p => by
    have := fold_bound (ac := ac) hw ms (st := (rounds ac w ms N k, false)) (rounds_bound hw k) p
    simp only [rounds, raise]
    rw [Nat.succ_mul]
    exact this

theorem partM_bound (ms : List Mv) (c t : Int) {r : List Int} {B : Nat} (h : ∀ p, 0 ≤ nth r p ∧ nth r p ≤ (B : Int)) (j : Nat) (p : Nat) : 0 ≤ nth (partM ms c t r j).1 p ∧ nth (partM ms c t r j).1 p ≤ ((B + j : Nat) : Int) := by
  have := fold_bound (ac := acM ms c t) (wt_le c t) (ms.take j) (st := (r, false)) h p
  unfold partM
  have h2 : (ms.take j).length ≤ j := by rw [List.length_take]; omega
  omega
end Go.Lin.Pg
namespace Go.Proofs.Ytojkohpniokaaaa
open Go Go.RowKit Go.Lin Go.Lin.Pg
attribute [local go_sem] run_store_func run_store_nilFunc

theorem step68_any (f1v f2v : Value) (p q : Mv → Bool) (m : Mv) (w : World) (hf1 : IsFn w f1v p) (hf2 : IsFn w f2v q) :
    Calls Try.prog 68 #[.agg #[f1v, f2v], encM m] w fun e w' => e = .returned (.int .i64 (if q m then 1 else 0)) ∧ Grew w w' := by
  obtain ⟨f1, k1, rfl, hen1, -⟩ := hf1
  obtain ⟨f2, k2, rfl, hen2, hf2⟩ := hf2
  obtain ⟨W0, hW0, g0, a0, a1, hz⟩ := box2 w (.func (.func f1) #[] k1) (.func (.func f2) #[] k2) 72
  obtain ⟨W1, hW1, g1, hb1⟩ := box4v W0 m
  have A1 := (g1.cell (p := ⟨w.heap.size, 1, none⟩) hz).trans a1
  have h0 := hb1.c0
  have h1 := hb1.c1
  have h2 := hb1.c2
  have h3 := hb1.c3
  have HG := hid (grew_trans g0 g1)
  have HF := hid (hf2 W1 HG.out m)
  have hz1 := Nat.lt_of_lt_of_le hz g1.size
  have hlt := hb1.lt
  obtain ⟨b, hb⟩ : ∃ b, q m = b := ⟨_, rfl⟩
  rw [hb] at HF ⊢
  obtain ⟨x, y, z, d⟩ := m
  simp only [Nat.zero_add, encM] at h0 h1 h2 h3 hW1 HF
  unfold encM
  clear hb1 a0 a1 hf2 hb
  cases b
  · go_enter Try.func68, Try.ntmps68
    go_wp2_with (refine (show Calls _ _ _ _ _ from HF.out).mono ?_; rintro e w1 ⟨rfl, hx⟩)
    go_ret
    exact ⟨rfl, grew_trans HG.out hx⟩
  · go_enter Try.func68, Try.ntmps68
    go_wp2_with (refine (show Calls _ _ _ _ _ from HF.out).mono ?_; rintro e w1 ⟨rfl, hx⟩)
    go_ret
    exact ⟨rfl, grew_trans HG.out hx⟩

theorem seg_zeros {w : World} {base n : Nat} {v : Value} (h : w.ownsRow base 3 1 v n (madeCells (Value.int .i64 0).cells (n * 1)).toList) : Seg w base 3 1 v n ((List.replicate n (0 : Int)).map (.int .i64)) := by
  have e : (madeCells (Value.int .i64 0).cells (n * 1)).toList = (List.replicate n (0 : Int)).map (.int .i64) := by
    rw [List.map_replicate]
    unfold madeCells
    rw [Nat.mul_one]
    apply List.ext_getElem
    · simp
    · intro i h1 h2
      simp [Value.cells, Nat.mod_one]
  rw [e] at h
  exact Seg.of_ownsRow h

theorem lrun_of_seg {w : World} {base g cap n : Nat} {ys : List Int} (h : Seg w base 3 1 (.slice (some ⟨g, 0, none⟩) n cap) n (ys.map (.int .i64))) (hn : ys.length = n) : ∃ sz, LRun w g 0 sz n ys := by
  obtain ⟨hlen, h⟩ := h
  rcases h with ⟨h, _⟩ | ⟨g', off, cap', cur, hv, hbg, hgc, h1, h2, h3, h4⟩
  · cases h
  · simp only [Value.slice.injEq, Option.some.injEq, Addr.mk.injEq, and_true, true_and] at hv
    obtain ⟨⟨rfl, rfl⟩, rfl⟩ := hv
    refine ⟨cur.size, hn, cur, hgc, rfl, by omega, fun t ht => ?_⟩
    have h5 := congrArg (fun l => l[t]?) h4
    rw [List.getElem?_take_of_lt (by omega), List.getElem?_drop, Array.getElem?_toList, List.getElem?_map, List.getElem?_eq_getElem (by omega), Option.map_some, ← nth_lt (by omega)] at h5
    exact h5

theorem LRun.wd {w : World} {g off sz n cap : Nat} {ys : List Int} (h : LRun w g off sz n ys) (hm : n ≤ 9223372036854775807) (hc : n ≤ cap) : IsWd w (.slice (some ⟨g, off, none⟩) n cap) ys := by
  obtain ⟨h0, cur, h1, h2, h3, h4⟩ := h
  exact ⟨_, cap, by rw [h0], by omega, ⟨_, _, by rw [h0], by omega, fun i hi => ⟨g, off, _, rfl, h1, trivial, by rw [cell_of_row w g _ _ _ _ h1]; exact h4 i (by omega)⟩⟩⟩

set_option maxHeartbeats 8000000 in
set_option maxRecDepth 100000 in
theorem ranks59_any (g : Gr) (N : Nat) (hG : GOk g N) (c t : Int) (gv f1v f2v : Value) (w : World) (hg : IsGr w gv g) (hf1 : IsFn w f1v (wi c t)) (hf2 : IsFn w f2v (mu c t)) :
    Calls Try.prog 59 #[.agg #[f1v, f2v], gv] w fun e w' => ∃ u, e = .returned (.tuple #[u, .bool (holdsB g.ms N c t)]) ∧ Grew w w' ∧ IsWd w' u (if holdsB g.ms N c t then ranksM g.ms N c t else []) := by
  have HIG := hid hg
  obtain ⟨mv, rfl, hmv⟩ := hg
  obtain ⟨n, hn⟩ : ∃ n, g.ms.length = n := ⟨_, rfl⟩
  obtain ⟨va, vc, hmve, _, hmvs⟩ := id hmv
  rw [hn] at hmve
  subst hmve
  have HMVS := hid hmvs
  have HF1 := hid hf1; have HF2 := hid hf2
  obtain ⟨f1, k1, rfl, hen1, hf1⟩ := hf1
  obtain ⟨f2, k2, rfl, hen2, -⟩ := hf2
  have HC1 := hid hf1; have HG := hid hG
  have hN := hG.n
  rw [hN] at HIG ⊢
  have hN8 := hG.h8; have hN1 := hG.h1
  have HN := hid hn
  have hn20 : n ≤ 20 := by rw [← hn]; exact hG.h20
  clear hf1 hmv hG hmvs hn hN
  obtain ⟨h, hh⟩ : ∃ h, holdsB g.ms N c t = h := ⟨_, rfl⟩
  have HH := hid hh
  rw [hh]
  obtain ⟨W0, hW0, g0, a0, a1, hz⟩ := box2 w (.func (.func f1) #[] k1) (.func (.func f2) #[] k2) 72
  obtain ⟨W1, hW1, g1, b0, b1, hz1⟩ := box2 W0 (.int .i64 (N : Int)) (.slice va n vc) 24
  have A0 := (g1.cell (p := ⟨w.heap.size, 0, none⟩) hz).trans a0
  have A1 := (g1.cell (p := ⟨w.heap.size, 1, none⟩) hz).trans a1
  have HG1 := hid (grew_trans g0 g1)
  have hz' := Nat.lt_of_lt_of_le hz g1.size
  have hla := (lasso60_any g N HG.out _ _ _ (wi c t) (mu c t) W1 (HIG.out.grew HG1.out) (HF1.out.grew HG1.out) (HF2.out.grew HG1.out)).mono (R' := fun (e : Ending) (w' : World) => ∃ u v, e = .returned (.tuple #[u, v, .bool (!h)]) ∧ Grew W1 w') (by
    rintro e w' ⟨u, v, r, rfl, hgr, hr⟩
    refine ⟨u, v, ?_, hgr⟩
    rcases hr with ⟨rfl, path, circ, hl, _⟩ | ⟨rfl, _, _, hl⟩
    · have : h = false := by
        rw [← HH.out]
        refine Bool.eq_false_iff.2 (fun hb => ?_)
        exact (holds_lasso HG.out.h1 HG.out.h8 HG.out.inN).1 hb path circ hl
      rw [this]; rfl
    · have : h = true := by
        rw [← HH.out]
        exact (holds_lasso HG.out.h1 HG.out.h8 HG.out.inN).2 hl
      rw [this]; rfl)
  have HLA := hid hla
  clear a0 a1 hla hh
  obtain ⟨i0, hi0, hi1, hi2, hi3⟩ := info_parts Try.info3
  have HBY := hid hi3
  have HSZ := hid (And.intro (show w.heap.size ≤ W0.heap.size from g0.size) (show W0.heap.size ≤ W1.heap.size from g1.size))
  cases h
  · go_enter Try.func59, Try.ntmps59
    go_wp2_with (go_at_call 60; (with_reducible refine HLA.out.mono ?_); rintro e w1 ⟨u, v, rfl, hx⟩)
    go_ret2
    exact ⟨_, rfl, grew_trans HG1.out hx, wd_nil _⟩
  · go_enter Try.func59, Try.ntmps59
    go_wp2_with (first
      | (go_at_call 60; (with_reducible refine HLA.out.mono ?_); rintro e w1 ⟨u, v, rfl, hx⟩; have HX := hid hx; have B0 := (hx.cell (p := ⟨W0.heap.size, 0, none⟩) hz1).trans b0; have hz1x := Nat.lt_of_lt_of_le hz1 hx.size; clear hx)
      | (refine wpList_make_full _ rfl _ _ 25 rfl w1.heap.size 3 i0 (.int .i64 0) 1 Try.underlying25 hi0 hi1 hi2 .i64 .i64 (N : Int) (N : Int) N rfl rfl rfl rfl (by rw [HBY.out]; omega) (by unfold maxLen; omega) (Nat.le_refl _) ?_; intro w2 hown2 hgr2; have HS2 := hid (seg_zeros hown2); have HG2 := hid (show Grew w1 w2 from (grew_refl w1).grown hgr2 (Nat.le_refl _) (fun k e => by cases e)); have C0 := (HG2.out.cell (p := ⟨W0.heap.size, 0, none⟩) hz1x).trans B0; have C1 := ((grew_trans HX.out HG2.out).cell (p := ⟨W0.heap.size, 1, none⟩) hz1).trans b1; have hz1y := Nat.lt_of_lt_of_le hz1x HG2.out.size; have hrch := reached64_any g N HG.out (.agg #[.int .i64 (N : Int), .slice va n vc]) w2 (HIG.out.grew (grew_trans HG1.out (grew_trans HX.out HG2.out))); have HRCH := hid hrch; clear hown2 hgr2 hrch)
      | (go_at_call 64; (with_reducible refine HRCH.out.mono ?_); rintro e w3 ⟨u3, rfl, hx3, hs3⟩; have HX3 := hid hx3; have HS3 := hid hs3; clear hx3 hs3))
    obtain ⟨G, hGw⟩ : ∃ G, w1.heap.size = G := ⟨_, rfl⟩
    obtain ⟨sz, hrun0⟩ := lrun_of_seg HS2.out (by simp)
    rw [hGw] at hrun0 ⊢
    have hG2 : G < w2.heap.size := by obtain ⟨_, cur, h1, _⟩ := hrun0; exact lt_of_obj h1
    have hrun3 : LRun w3 G 0 sz N (List.replicate N 0) := hrun0.keeps (may := fun k _ => w2.heap.size ≤ k) HX3.out.keeps (fun _ => by omega)
    have hther := WdOff.of_seg HS3.out
    have hG1 : W0.heap.size < G := by rw [← hGw]; exact hz1x
    have hG0 : w.heap.size < G := by have := HSZ.out.1; omega
    have g13 := grew_trans HX.out (grew_trans HG2.out HX3.out)
    have A03 := (g13.cell (p := ⟨w.heap.size, 0, none⟩) hz').trans A0
    have A13 := (g13.cell (p := ⟨w.heap.size, 1, none⟩) hz').trans A1
    have B13 := (g13.cell (p := ⟨W0.heap.size, 1, none⟩) hz1).trans b1
    have HA0 := hid A03; have HA1 := hid A13; have HB1 := hid B13
    have HGW := hid (grew_trans HG1.out g13)
    have HR0 := hid hrun3
    have hz3 : G < w3.heap.size := Nat.lt_of_lt_of_le hG2 HX3.out.size
    obtain ⟨ta, tc, hu3⟩ := isWd_slice hther.wd
    subst hu3
    obtain ⟨nr, hnr⟩ : ∃ nr, (reachedM g.ms N).length = nr := ⟨_, rfl⟩
    have HTH := hid (show WdOff (fun k _ => w2.heap.size ≤ k) w3 (.slice ta nr tc) (reachedM g.ms N) by rw [← hnr]; exact hther)
    rw [hnr]
    have HLT := hid (And.intro hG0 (And.intro hG1 hG2))
    have hno := (holdsB_iff HG.out.h1 HG.out.inN).1 HH.out
    obtain ⟨K, hK1, hK2, hK3⟩ := stays_least HG.out.inN hno HG.out.h1
    have HK := hid (And.intro hK1 (And.intro hK2 hK3))
    clear hK2 hK3 hno hther hrun0 hrun3 A0 A1 b0 b1 A03 A13 B13 B0 C0 C1 hz hz' hz1 hz1x hz1y HLA HS2 HG2 HX HX3 HS3 HRCH g13 hnr hW0 hW1 g0 g1 hGw
    go_loopg [11] (K + 2) (fun gk ch wr => ∃ (k : Nat) (b : Bool), ch = .bool b ∧ Hid (gk = if b then K + 2 - k else 0) ∧ Hid (if b then k ≤ K else rounds (acM g.ms c t) (wt c t) g.ms N k = ranksM g.ms N c t) ∧ k ≤ K + 1 ∧ Hid (LRun wr G 0 sz N (rounds (acM g.ms c t) (wt c t) g.ms N k)) ∧ Hid (Keeps (fun i _ => i = G) w3 wr))
    case atStart => exact ⟨0, true, rfl, hid (by simp), hid (Nat.zero_le _), by omega, HR0, hid (Keeps.refl _ _)⟩
    case round =>
      clear HR0
      obtain ⟨k, b, rfl, HGK, HKB, hkK, HRUN, HKP⟩ := hrel
      rename World => wr
      cases b with
      | false =>
        go_wp2
        go_ret2
        refine ⟨_, rfl, HGW.out.trans (HKP.out.below (by have := HGW.out.size; omega) (fun i _ e => by rw [e]; exact Nat.le_of_lt HLT.out.1)), ?_⟩
        show IsWd wr (.slice (some ⟨G, 0, none⟩) N N) (ranksM g.ms N c t)
        rw [← show rounds (acM g.ms c t) (wt c t) g.ms N k = ranksM g.ms N c t from HKB.out]
        exact HRUN.out.wd (by omega) (Nat.le_refl _)
      | true =>
        have b1 := cell_keeps HKP.out (fun _ _ => by have := HLT.out.2.1; omega) HB1.out
        go_wp2
        clear b1
        go_loopg [11, 13, 14, 32] n (fun gk ch _ _ i wq => ∃ (j : Nat), j ≤ n ∧ i = .int .i64 (j : Int) ∧ Hid (gk = n - j) ∧ ch = .bool (partM g.ms c t (rounds (acM g.ms c t) (wt c t) g.ms N k) j).2 ∧ Hid (LRun wq G 0 sz N (partM g.ms c t (rounds (acM g.ms c t) (wt c t) g.ms N k) j).1) ∧ Hid (Keeps (fun i _ => i = G) w3 wq))
        case atStart => exact ⟨0, by omega, rfl, hid rfl, by simp [partM], hid (by simpa [partM] using HRUN.out), HKP⟩
        case round =>
          clear HRUN HKP
          obtain ⟨j, hj, rfl, HGJ, rfl, HRUN, HKP⟩ := hrel
          rename World => wq
          obtain ⟨st, hst⟩ : ∃ st, partM g.ms c t (rounds (acM g.ms c t) (wt c t) g.ms N k) j = st := ⟨_, rfl⟩
          have HST := hid hst
          rw [hst] at HRUN ⊢
          have hgw : Grew w wq := HGW.out.trans (HKP.out.below (by have := HGW.out.size; omega) (fun i _ e => by rw [e]; exact Nat.le_of_lt HLT.out.1))
          have HGI := hid hgw
          clear hst hgw
          by_cases hlt : j < n
          · obtain ⟨x, hx⟩ : ∃ x, g.ms[j]? = some x := ⟨_, List.getElem?_eq_getElem (by rw [HN.out]; exact hlt)⟩
            obtain ⟨bb, boff, rfl, hpa⟩ := HMVS.out j x hx
            have hpa2 := hpa.grew hpa.lt HGI.out
            have p0 := hpa2.c0
            have p1 := hpa2.c1
            have p2 := hpa2.c2
            have p3 := hpa2.c3
            have hplt := hpa2.lt
            have hxN := HG.out.inN x (List.mem_of_getElem? hx)
            obtain ⟨Y1, hY1, e1, hb1⟩ := box4v wq x
            have l0 := hb1.c0
            have l1 := hb1.c1
            have l2 := hb1.c2
            have l3 := hb1.c3
            have hzl := hb1.lt
            have HE1 := hid e1
            have HGY := hid (grew_trans HGI.out e1)
            have HFX := hid (HC1.out Y1 HGY.out x)
            have hKY : Keeps (fun i _ => i = G) w3 Y1 := HKP.out.trans e1.keeps
            have s0 := cell_keeps hKY (fun _ _ => by have := HLT.out.1; omega) HA0.out
            have s1 := cell_keeps hKY (fun _ _ => by have := HLT.out.1; omega) HA1.out
            have hzs : w.heap.size < Y1.heap.size := by have := hKY.size; have := HLT.out.1; omega
            have hGY : G < Y1.heap.size := by have := hKY.size; omega
            have HKY := hid hKY
            have hjn : (j : Int) < (n : Int) := by omega
            have HSTEP := hid (fun (W' : World) (h : Grew Y1 W') => step68_any _ _ (wi c t) (mu c t) x W' (HF1.out.grew (grew_trans HGY.out h)) (HF2.out.grew (grew_trans HGY.out h)))
            have HX := hid hx
            obtain ⟨bp, hbp⟩ : ∃ b, wi c t x = b := ⟨_, rfl⟩
            have HBP := hid hbp
            rw [hbp] at HFX
            obtain ⟨x1, x2, x3, x4⟩ := x
            obtain ⟨xa, rfl⟩ : ∃ xa : Nat, x1 = (xa : Int) := ⟨x1.toNat, by simp only [fr] at hxN; omega⟩
            obtain ⟨xb, rfl⟩ : ∃ xb : Nat, x3 = (xb : Int) := ⟨x3.toNat, by simp only [tg] at hxN; omega⟩
            have hxa : xa < N := by simp only [fr] at hxN; omega
            have hxb : xb < N := by simp only [tg] at hxN; omega
            simp only [Nat.zero_add, encM] at p0 p1 p2 p3 l0 l1 l2 l3 hY1 HFX HSTEP
            clear hx hpa hpa2 hb1 hxN hbp hKY
            cases bp with
            | false =>
              go_wp2_with (refine (show Calls _ _ _ _ _ from HFX.out).mono ?_; rintro e w5 ⟨rfl, hx5⟩)
              have hac : acM g.ms c t ((xa : Int), x2, (xb : Int), x4) = false := by unfold acM; rw [HBP.out]; rfl
              go_roundg (n - (j + 1))
              case measure => have := HGJ.out; omega
              case rel =>
                have hpm : partM g.ms c t (rounds (acM g.ms c t) (wt c t) g.ms N k) (j + 1) = st := by
                  rw [partM_succ HX.out, HST.out]
                  unfold relax
                  rw [if_neg (by rw [hac]; rintro ⟨h, _⟩; cases h)]
                exact ⟨j + 1, by omega, by go_num, hid rfl, by rw [hpm], hid (by rw [hpm]; exact HRUN.out.keeps (may := fun _ _ => False) (grew_trans HE1.out hx5).keeps (fun _ h => h)), hid (HKY.out.trans hx5.keeps)⟩
            | true =>
              have hcon := contains_reached HG.out.h1 HG.out.h8 HG.out.inN (xa : Int)
              obtain ⟨br, hbr⟩ : ∃ b, reachB g.ms (xa : Int) = b := ⟨_, rfl⟩
              have HBR := hid hbr
              rw [hbr] at hcon
              have HCON := hid (fun (W' : World) (h : Grew Y1 W') => contains67_any (.slice ta nr tc) (reachedM g.ms N) (xa : Int) W' ((HTH.out.keeps HKY.out (fun k _ h e => by have := HLT.out.2.2; omega)).wd.grew h).ints)
              rw [hcon] at HCON
              clear hcon hbr
              cases br with
              | false =>
                go_wp2_with (first
                  | (refine (show Calls _ _ _ _ _ from HFX.out).mono ?_; rintro e w5 ⟨rfl, hx5⟩; have m0 := (hx5.cell (p := ⟨wq.heap.size, 0, none⟩) hzl).trans l0; have hzm := Nat.lt_of_lt_of_le hzl hx5.size)
                  | (go_at_call 67; (with_reducible refine (HCON.out _ hx5).mono ?_); rintro e w6 ⟨rfl, hx6⟩; replace hx5 := grew_trans hx5 hx6))
                have hac : acM g.ms c t ((xa : Int), x2, (xb : Int), x4) = false := by unfold acM; rw [HBP.out]; exact HBR.out
                go_roundg (n - (j + 1))
                case measure => have := HGJ.out; omega
                case rel =>
                  have hpm : partM g.ms c t (rounds (acM g.ms c t) (wt c t) g.ms N k) (j + 1) = st := by
                    rw [partM_succ HX.out, HST.out]
                    unfold relax
                    rw [if_neg (by rw [hac]; rintro ⟨h, _⟩; cases h)]
                  exact ⟨j + 1, by omega, by go_num, hid rfl, by rw [hpm], hid (by rw [hpm]; exact HRUN.out.keeps (may := fun _ _ => False) (grew_trans HE1.out hx5).keeps (fun _ h => h)), hid (HKY.out.trans hx5.keeps)⟩
              | true =>
                obtain ⟨dq, hdq⟩ : ∃ d : Int, (if mu c t ((xa : Int), x2, (xb : Int), x4) then (1 : Int) else 0) = d := ⟨_, rfl⟩
                have HDQ := hid hdq
                rw [hdq] at HSTEP
                have hdb : 0 ≤ dq ∧ dq ≤ 1 := by rw [← hdq]; split <;> omega
                have hbd := partM_bound g.ms c t (rounds_bound (ac := acM g.ms c t) (ms := g.ms) (N := N) (fun m => wt_le c t m) k) j
                rw [HST.out] at hbd
                have hk20 : k * g.ms.length + j ≤ 1000 := by
                  rw [HN.out]
                  have : k * n ≤ 9 * 20 := Nat.mul_le_mul (by omega) hn20
                  omega
                obtain ⟨ra, hra⟩ : ∃ r, nth st.1 xa = r := ⟨_, rfl⟩
                obtain ⟨rb, hrb⟩ : ∃ r, nth st.1 xb = r := ⟨_, rfl⟩
                have hrab := hbd xa
                have hrbb := hbd xb
                rw [hra] at hrab
                rw [hrb] at hrbb
                replace hrab : 0 ≤ ra ∧ ra ≤ 1000 := by omega
                replace hrbb : 0 ≤ rb ∧ rb ≤ 1000 := by omega
                have HRA := hid hra; have HRB := hid hrb
                have hxbN : (xb : Int) < (N : Int) := by omega
                have hxaN : (xa : Int) < (N : Int) := by omega
                clear hdq hbd hk20 hra hrb
                go_wp2_with (first
                  | (refine (show Calls _ _ _ _ _ from HFX.out).mono ?_; rintro e w5 ⟨rfl, hx5⟩; have m0 := (hx5.cell (p := ⟨wq.heap.size, 0, none⟩) hzl).trans l0; have hzm := Nat.lt_of_lt_of_le hzl hx5.size)
                  | (go_at_call 67; (with_reducible refine (HCON.out _ hx5).mono ?_); rintro e w6 ⟨rfl, hx6⟩; have HX6 := hid (grew_trans hx5 hx6); have n0 := (HX6.out.cell (p := ⟨wq.heap.size, 0, none⟩) hzl).trans l0; have n1 := (HX6.out.cell (p := ⟨wq.heap.size, 1, none⟩) hzl).trans l1; have n2 := (HX6.out.cell (p := ⟨wq.heap.size, 2, none⟩) hzl).trans l2; have n3 := (HX6.out.cell (p := ⟨wq.heap.size, 3, none⟩) hzl).trans l3; have u0 := (HX6.out.cell (p := ⟨w.heap.size, 0, none⟩) hzs).trans s0; have u1 := (HX6.out.cell (p := ⟨w.heap.size, 1, none⟩) hzs).trans s1; have hr6 := HRUN.out.keeps (may := fun _ _ => False) (grew_trans HE1.out HX6.out).keeps (fun _ h => h); have oc := (hr6.cell hxb).1; rw [Nat.zero_add, HRB.out] at oc; have HR6 := hid hr6; have hz6 := Nat.lt_of_lt_of_le hzl HX6.out.size; have hzs6 := Nat.lt_of_lt_of_le hzs HX6.out.size; have hGY6 := Nat.lt_of_lt_of_le hGY HX6.out.size; clear hr6 hx5 hx6 m0 hzm))
                clear l0 l1 l2 l3 s0 s1 p0 p1 p2 p3
                refine wp_region_later (by kernel_rfl) (by kernel_rfl) (fun hL => ?_)
                repeat (go_big_quiet_step ((go_at_call 68; exact calls_later (HSTEP.out _ (grew_trans HX6.out (Subtype.property _))))))
                refine wpQuiet_nil ?_
                rintro wy ⟨y, hy⟩
                have hwy : Grew w6 wy := by rw [hy]; exact y.2
                clear hL hy y
                have q0 := (hwy.cell (p := ⟨wq.heap.size, 0, none⟩) hz6).trans n0
                have q2 := (hwy.cell (p := ⟨wq.heap.size, 2, none⟩) hz6).trans n2
                have hr7 := HR6.out.keeps (may := fun _ _ => False) hwy.keeps (fun _ h => h)
                obtain ⟨oa, of⟩ := hr7.cell hxa
                rw [Nat.zero_add] at oa of
                rw [HRA.out] at oa
                have HR7 := hid hr7
                have HWY := hid hwy
                have hz7 := Nat.lt_of_lt_of_le hz6 hwy.size
                have hKW := hid (HKY.out.trans (grew_trans HX6.out hwy).keeps)
                have hwt : (wt c t ((xa : Int), x2, (xb : Int), x4) : Int) = dq := by rw [← HDQ.out]; unfold wt; split <;> rfl
                have hac : acM g.ms c t ((xa : Int), x2, (xb : Int), x4) = true := by unfold acM; rw [HBP.out]; exact HBR.out
                have HWT := hid hwt; have HAC := hid hac
                clear n0 n1 n2 n3 u0 u1 oc hr7 hwy hwt hac
                by_cases hgt : ra < rb + dq
                · go_wp2
                  go_roundg (n - (j + 1))
                  case measure => have := HGJ.out; omega
                  case rel =>
                    have hpm : partM g.ms c t (rounds (acM g.ms c t) (wt c t) g.ms N k) (j + 1) = (st.1.set xa (rb + dq), true) := by
                      rw [partM_succ HX.out, HST.out]
                      unfold relax
                      simp only [fr, tg, Int.toNat_natCast, HRA.out, HRB.out, HWT.out, HAC.out]
                      rw [if_pos ⟨trivial, hgt⟩]
                    have hset := HR7.out.set (i := xa) hxa (rb + dq)
                    rw [Nat.zero_add] at hset
                    exact ⟨j + 1, by omega, by go_num, hid rfl, by rw [hpm], hid (by rw [hpm]; exact hset), hid (hKW.out.trans (keeps_setB _ _ _ _))⟩
                · go_wp2
                  go_roundg (n - (j + 1))
                  case measure => have := HGJ.out; omega
                  case rel =>
                    have hpm : partM g.ms c t (rounds (acM g.ms c t) (wt c t) g.ms N k) (j + 1) = st := by
                      rw [partM_succ HX.out, HST.out]
                      unfold relax
                      simp only [fr, tg, Int.toNat_natCast, HRA.out, HRB.out, HWT.out, HAC.out]
                      rw [if_neg (fun h => by have := h.2; omega)]
                    exact ⟨j + 1, by omega, by go_num, hid rfl, by rw [hpm], hid (by rw [hpm]; exact HR7.out), hid hKW.out⟩
          · obtain rfl : j = n := by omega
            have hall := HST.out
            rw [← HN.out, partM_all] at hall
            have hst2 : rounds (acM g.ms c t) (wt c t) g.ms N (k + 1) = st.1 := by simp only [rounds]; rw [hall]
            obtain ⟨b', hb'⟩ : ∃ b, st.2 = b := ⟨_, rfl⟩
            rw [hb']
            have hkK2 : k ≤ K := HKB.out
            have HALL := hid hall; have HST2 := hid hst2; have HB' := hid hb'
            clear hall hst2 hb'
            go_wp2
            go_roundg (if b' then K + 2 - (k + 1) else 0)
            case measure =>
              have h1 := HGK.out
              simp at h1
              split <;> omega
            case rel =>
              refine ⟨k + 1, b', rfl, hid rfl, hid ?_, by omega, hid (by rw [HST2.out]; exact HRUN.out), HKP⟩
              cases b' with
              | true =>
                show k + 1 ≤ K
                rcases Nat.lt_or_eq_of_le hkK2 with h | h
                · omega
                · exfalso
                  have h2 := HK.out.2.1
                  rw [← h, HALL.out, HB'.out] at h2
                  cases h2
              | false =>
                show rounds (acM g.ms c t) (wt c t) g.ms N (k + 1) = ranksM g.ms N c t
                have h2 : (raise (acM g.ms c t) (wt c t) g.ms (rounds (acM g.ms c t) (wt c t) g.ms N k)).2 = false := by rw [HALL.out]; exact HB'.out
                have h3 : k ≤ N - 1 := by have := HK.out.1; omega
                unfold ranksM
                rw [rounds_stay h2 (k + 1) (by omega), rounds_stay h2 (N - 1) h3]
end Go.Proofs.Ytojkohpniokaaaa
