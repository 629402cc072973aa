/- Walks of the reference: asked (70), falls (72), reached (71). -/
import Derived.Test.YtojkohpniokaaaaPgTop
import Derived.Test.YtojkohpniokaaaaPgRVal
import Derived.BigQuiet
import Derived.StillTailTactics
namespace Go.Lin.Pg
open Go Go.RowKit Go.Lin

/-- A run of bools. -/
def BRun (w : World) (g n : Nat) (ys : List Bool) : Prop := ys.length = n ∧ ∃ cur, w.heap[g]? = some (.cells cur 4 (0, 0)) ∧ n ≤ cur.size ∧ ∀ t, t < n → cur[t]? = some (.bool (ys.getD t false))

theorem BRun.keeps {may : Nat → Obj → Prop} {w w' : World} {g n : Nat} {ys : List Bool} (h : BRun w g n ys) (hk : Keeps may w w') (hm : ∀ o, ¬ may g o) : BRun w' g n ys :=
  let ⟨h0, cur, h1, h2⟩ := h; ⟨h0, cur, hk.obj _ _ h1 (hm _), h2⟩

theorem BRun.grew {w w' : World} {g n : Nat} {ys : List Bool} (h : BRun w g n ys) (hk : Grew w w') : BRun w' g n ys := h.keeps (may := fun _ _ => False) hk.keeps (fun _ h => h)

theorem BRun.cell {w : World} {g n : Nat} {ys : List Bool} (h : BRun w g n ys) {t : Nat} (ht : t < n) : w.cell? ⟨g, t, none⟩ = some (.bool (ys.getD t false)) ∧ w.frozen? ⟨g, t, none⟩ = false := by
  obtain ⟨_, cur, h1, h2, h3⟩ := h
  refine ⟨?_, frozen? h1 t⟩
  rw [cell_of_row w g t _ _ _ h1]
  exact h3 t ht
where frozen? {w : World} {k : Nat} {c : Array Value} {t : TypeId} (h : w.heap[k]? = some (.cells c t (0, 0))) (j : Nat) : w.frozen? ⟨k, j, none⟩ = false := Go.Proofs.Ytojkohpniokaaaa.frozen_obj h j

theorem BRun.set {w : World} {g n : Nat} {ys : List Bool} (h : BRun w g n ys) {i : Nat} (hi : i < n) (v : Bool) : BRun (w.setCell ⟨g, i, none⟩ (.bool v)) g n (ys.set i v) := by
  obtain ⟨h0, cur, h1, h2, h3⟩ := h
  refine ⟨by simp [h0], cur.setIfInBounds i (.bool v), ?_, by simp [h2], fun t ht => ?_⟩
  · simp [World.setCell, Array.getElem?_modify, h1]
  · rw [Array.getElem?_setIfInBounds]
    by_cases e : i = t
    · subst e
      rw [if_pos rfl, if_pos (by omega)]
      simp [List.getD, h0, hi]
    · rw [if_neg e, h3 t ht]
      simp [List.getD, e]

theorem BRun.lt {w : World} {g n : Nat} {ys : List Bool} (h : BRun w g n ys) : g < w.heap.size := let ⟨_, _, h1, _⟩ := h; lt_of_obj h1

theorem hopsM_take {ms : List Mv} {st : List Bool} {j : Nat} {m : Mv} (h : ms[j]? = some m) : hopsM (ms.take (j + 1)) st = hopM (hopsM (ms.take j) st) m := by
  unfold hopsM
  rw [take_add_getM h, List.foldl_append]; rfl
theorem hopsM_all {ms : List Mv} {st : List Bool} : hopsM (ms.take ms.length) st = hopsM ms st := by rw [List.take_length]
end Go.Lin.Pg
namespace Go.Proofs.Ytojkohpniokaaaa
open Go Go.RowKit Go.Lin Go.Lin.Pg

set_option maxHeartbeats 2000000 in
theorem asked70_any (v : Value) (g : Gr) (c t : Int) (w : World) (hv : IsGr w v g) :
    Calls Try.prog 70 #[v, .int .i64 c, .int .i64 t] w fun e w' => e = .returned (.int .i64 (askM g c t)) ∧ Grew w w' := by
  have HV := hid hv
  obtain ⟨s, rfl, -⟩ := hv
  obtain ⟨W0, hW0, g0, k0, k1, hz⟩ := box2 w (.int .i64 g.n) s 24
  have HG0 := hid g0
  have HVA := hid (rValid16_any _ g W0 (HV.out.grew g0))
  obtain ⟨b, hb⟩ : ∃ b, valid g = b := ⟨_, rfl⟩
  have hr : askM g c t = if b then (if clOk c t then 0 else 2) else 70 := by unfold askM; rw [hb]
  rw [hr]
  rw [hb] at HVA
  clear hr hb
  have HT := hid (fun W => isTh_any t W)
  cases b with
  | false =>
    simp only [Bool.false_eq_true, if_false]
    go_enter Try.func70, Try.ntmps70
    go_wp2_with (go_at_call 16; (with_reducible refine HVA.out.mono ?_); rintro e w1 ⟨rfl, hx⟩; have HX := hid hx; clear hx)
    go_ret
    exact ⟨rfl, grew_trans HG0.out HX.out⟩
  | true =>
    simp only [if_true]
    obtain ⟨q, hq⟩ : ∃ q, clOk c t = q := ⟨_, rfl⟩
    rw [hq]
    by_cases c1 : c < 0
    · have : q = false := by rw [← hq]; unfold clOk; simp [show ¬ c = 0 by omega, show ¬ c = 1 by omega, show ¬ c = 2 by omega]
      subst this
      clear hq
      simp only [Bool.false_eq_true, if_false]
      go_enter Try.func70, Try.ntmps70
      go_wp2_with (first
        | (go_at_call 16; (with_reducible refine HVA.out.mono ?_); rintro e w1 ⟨rfl, hx⟩; have HX := hid hx; clear hx))
      go_ret
      exact ⟨rfl, grew_trans HG0.out HX.out⟩
    · have d1 : decide (c < 0) = false := decide_eq_false c1
      by_cases c2 : c > 2
      · have : q = false := by rw [← hq]; unfold clOk; simp [show ¬ c = 0 by omega, show ¬ c = 1 by omega, show ¬ c = 2 by omega]
        subst this
        clear hq
        simp only [Bool.false_eq_true, if_false]
        go_enter Try.func70, Try.ntmps70
        go_wp2_with (first
          | (go_at_call 16; (with_reducible refine HVA.out.mono ?_); rintro e w1 ⟨rfl, hx⟩; have HX := hid hx; clear hx))
        go_ret
        exact ⟨rfl, grew_trans HG0.out HX.out⟩
      · have d2 : decide (c > 2) = false := decide_eq_false c2
        obtain ⟨p, hp⟩ : ∃ p, isTh t = p := ⟨_, rfl⟩
        rw [hp] at HT
        cases p with
        | false =>
          have : q = false := by
            rw [← hq]; unfold clOk; rw [hp]
            have ht0 : t ≠ 0 := fun e => by subst e; simp [isTh] at hp
            simp [ht0]
          subst this
          clear hq hp
          simp only [Bool.false_eq_true, if_false]
          go_enter Try.func70, Try.ntmps70
          go_wp2_with (first
            | (go_at_call 16; (with_reducible refine HVA.out.mono ?_); rintro e w1 ⟨rfl, hx⟩; have HX := hid hx; clear hx)
            | (go_at_call 57; (with_reducible refine (HT.out _).mono ?_); rintro e w2 ⟨rfl, hx⟩; have HY := hid hx; clear hx))
          go_ret
          exact ⟨rfl, grew_trans HG0.out (grew_trans HX.out HY.out)⟩
        | true =>
          by_cases hc0 : c = 0
          · subst hc0
            by_cases ht0 : t = 0
            · subst ht0
              have : q = true := by rw [← hq]; rfl
              subst this
              clear hq hp
              simp only [if_true]
              go_enter Try.func70, Try.ntmps70
              go_wp2_with (first
                | (go_at_call 16; (with_reducible refine HVA.out.mono ?_); rintro e w1 ⟨rfl, hx⟩; have HX := hid hx; clear hx)
                | (go_at_call 57; (with_reducible refine (HT.out _).mono ?_); rintro e w2 ⟨rfl, hx⟩; have HY := hid hx; clear hx))
              go_ret
              exact ⟨rfl, grew_trans HG0.out (grew_trans HX.out HY.out)⟩
            · have : q = false := by rw [← hq]; unfold clOk; simp [ht0]
              subst this
              have e1 : (t == 0) = false := by simpa using ht0
              have e2 : (t != 0) = true := by simpa using ht0
              clear hq hp
              simp only [Bool.false_eq_true, if_false]
              go_enter Try.func70, Try.ntmps70
              go_wp2_with (first
                | (go_at_call 16; (with_reducible refine HVA.out.mono ?_); rintro e w1 ⟨rfl, hx⟩; have HX := hid hx; clear hx)
                | (go_at_call 57; (with_reducible refine (HT.out _).mono ?_); rintro e w2 ⟨rfl, hx⟩; have HY := hid hx; clear hx))
              go_ret
              exact ⟨rfl, grew_trans HG0.out (grew_trans HX.out HY.out)⟩
          · have : q = true := by
              rw [← hq]; unfold clOk; rw [hp]
              rcases (show c = 1 ∨ c = 2 by omega) with rfl | rfl <;> simp
            subst this
            have e1 : (c == 0) = false := by simpa using hc0
            clear hq hp
            simp only [if_true]
            go_enter Try.func70, Try.ntmps70
            go_wp2_with (first
              | (go_at_call 16; (with_reducible refine HVA.out.mono ?_); rintro e w1 ⟨rfl, hx⟩; have HX := hid hx; clear hx)
              | (go_at_call 57; (with_reducible refine (HT.out _).mono ?_); rintro e w2 ⟨rfl, hx⟩; have HY := hid hx; clear hx))
            go_ret
            exact ⟨rfl, grew_trans HG0.out (grew_trans HX.out HY.out)⟩

theorem falls72_any (m : Mv) (c t : Int) (w : World) (hc : c = 0 ∨ c = 1 ∨ c = 2) :
    Calls Try.prog 72 #[encM m, .int .i64 c, .int .i64 t] w fun e w' => e = .returned (.tuple #[.int .i64 (wt c t m : Int), .bool (wi c t m)]) ∧ Grew w w' := by
  obtain ⟨W1, hW1, g1, hb1⟩ := box4v w m
  have l0 := hb1.c0
  have l1 := hb1.c1
  have l2 := hb1.c2
  have l3 := hb1.c3
  have hlt := hb1.lt
  have HG := hid g1
  obtain ⟨x1, x2, x3, x4⟩ := m
  simp only [Nat.zero_add] at l0 l1 l2 l3 hW1
  unfold encM
  simp only
  obtain ⟨o, ho⟩ : ∃ o, (x2 == t) = o := ⟨_, rfl⟩
  have hwi : wi c t (x1, x2, x3, x4) = if c = 0 then !x4 else if c = 1 then (!o || !x4) else (o && !x4) := by unfold wi; simp only [th, dn]; rw [ho]
  have hwt : (wt c t (x1, x2, x3, x4) : Int) = if c = 1 then (if o then 1 else 0) else 1 := by
    unfold wt mu; simp only [th]; rw [ho]
    split <;> cases o <;> simp
  rw [hwi, hwt]
  clear hwi hwt hb1
  rcases hc with rfl | rfl | rfl
  · simp only [if_true, show ¬ ((0 : Int) = 1) by omega, if_false]
    cases o
    all_goals (
      go_enter Try.func72, Try.ntmps72
      go_wp2
      refine wp_region_later (by kernel_rfl) (by kernel_rfl) (fun hL => ?_)
      repeat (go_big_quiet_step (fail))
      refine wpQuiet_nil ?_
      rintro wy ⟨y, hy⟩
      have hwy : Grew W1 wy := by rw [hy]; exact y.2
      clear hL hy y
      go_wp2
      go_ret2
      exact ⟨rfl, grew_trans HG.out hwy⟩)
  · simp only [if_true, show ¬ ((1 : Int) = 0) by omega, if_false]
    cases o
    · go_enter Try.func72, Try.ntmps72
      go_wp2
      go_ret2
      exact ⟨rfl, HG.out⟩
    · go_enter Try.func72, Try.ntmps72
      go_wp2
      refine wp_region_later (by kernel_rfl) (by kernel_rfl) (fun hL => ?_)
      repeat (go_big_quiet_step (fail))
      refine wpQuiet_nil ?_
      rintro wy ⟨y, hy⟩
      have hwy : Grew W1 wy := by rw [hy]; exact y.2
      clear hL hy y
      go_wp2
      go_ret2
      exact ⟨by simp, grew_trans HG.out hwy⟩
  · simp only [show ¬ ((2 : Int) = 0) by omega, show ¬ ((2 : Int) = 1) by omega, if_false]
    cases o
    all_goals (
      go_enter Try.func72, Try.ntmps72
      go_wp2
      refine wp_region_later (by kernel_rfl) (by kernel_rfl) (fun hL => ?_)
      repeat (go_big_quiet_step (fail))
      refine wpQuiet_nil ?_
      rintro wy ⟨y, hy⟩
      have hwy : Grew W1 wy := by rw [hy]; exact y.2
      clear hL hy y
      go_wp2
      go_ret2
      exact ⟨by simp, grew_trans HG.out hwy⟩)

theorem Try.info4 : (Try.prog.info? 4).map (fun i => (i.zero, i.size, i.bytes)) = some (some (.bool false), 1, 1) := by kernel_rfl

theorem brun_zeros {w : World} {base n cap g : Nat} (h : w.ownsRow base 4 1 (.slice (some ⟨g, 0, none⟩) n cap) n (madeCells (Value.bool false).cells (n * 1)).toList) : BRun w g n (List.replicate n false) := by
  obtain ⟨hlen, h⟩ := Seg.of_ownsRow h
  rcases h with ⟨h, _⟩ | ⟨g', off, cap', cur, hv, hbg, hgc, h1, h2, h3, h4⟩
  · cases h
  · simp only [Value.slice.injEq, Option.some.injEq, Addr.mk.injEq, and_true, true_and] at hv
    obtain ⟨⟨rfl, rfl⟩, rfl⟩ := hv
    refine ⟨by simp, cur, hgc, by omega, fun t ht => ?_⟩
    have h5 := congrArg (fun l => l[t]?) h4
    rw [List.getElem?_take_of_lt (by omega), List.getElem?_drop, Array.getElem?_toList, Nat.zero_add] at h5
    rw [h5]
    unfold madeCells
    rw [Nat.mul_one]
    simp [Value.cells, ht, Nat.mod_one]

set_option maxHeartbeats 4000000 in
set_option maxRecDepth 20000 in
theorem reached71_any (g : Gr) (N : Nat) (hG : GOk g N) (gv : Value) (w : World) (hg : IsGr w gv g) :
    Calls Try.prog 71 #[gv] w fun e w' => ∃ G, e = .returned (.slice (some ⟨G, 0, none⟩) N N) ∧ Grew w w' ∧ w.heap.size ≤ G ∧ BRun w' G N (reachR g.ms N N) := by
  obtain ⟨mv, rfl, hmv⟩ := hg
  obtain ⟨n, hn⟩ : ∃ n, g.ms.length = n := ⟨_, rfl⟩
  obtain ⟨va, vc, hmve, ⟨hm1, hm2⟩, hmvs⟩ := hmv
  rw [hn] at hmve hm1 hm2
  subst hmve
  have HMVS := hid hmvs; have HN := hid hn; have HG := hid hG
  have hN8 := hG.h8; have hN1 := hG.h1
  rw [hG.n]
  clear hmvs hn hG
  obtain ⟨W0, hW0, g0, k0, k1, hz⟩ := box2 w (.int .i64 (N : Int)) (.slice va n vc) 24
  have HG0 := hid g0
  obtain ⟨i0, hi0, hi1, hi2, hi3⟩ := info_parts Try.info4
  have HBY := hid hi3
  have hN0 : (0 : Int) < (N : Int) := by omega
  go_enter Try.func71, Try.ntmps71
  go_wp2_with (first
    | (refine wpList_make_full _ rfl _ _ 87 rfl W0.heap.size 4 i0 (.bool false) 1 Try.underlying87 hi0 hi1 hi2 .i64 .i64 (N : Int) (N : Int) N rfl rfl rfl rfl (by rw [HBY.out]; omega) (by unfold maxLen; omega) (Nat.le_refl _) ?_; intro w2 hown2 hgr2; have hb2 := brun_zeros hown2; have HB2 := hid hb2; have HG2 := hid (show Grew W0 w2 from (grew_refl W0).grown hgr2 (Nat.le_refl _) (fun k e => by cases e)); have C0 := (HG2.out.cell (p := ⟨w.heap.size, 0, none⟩) hz).trans k0; have C1 := (HG2.out.cell (p := ⟨w.heap.size, 1, none⟩) hz).trans k1; have hzg := hb2.lt; obtain ⟨x0, x1⟩ := hb2.cell (t := 0) (by omega); clear hown2 hgr2 hb2))
  obtain ⟨G, hGw⟩ : ∃ G, W0.heap.size = G := ⟨_, rfl⟩
  rw [hGw] at HB2 hzg x0 x1 ⊢
  have hWG : w.heap.size < G := by rw [← hGw]; exact hz
  have hwG : w.heap.size ≤ W0.heap.size := g0.size
  have HRUN0 : Hid (BRun (w2.setCell ⟨G, 0, none⟩ (.bool true)) G N (reachR g.ms N 0)) := hid (by unfold reachR; exact HB2.out.set (by omega) true)
  have HK0 := hid (keeps_setB w2 G 0 (.bool true))
  have HC1 := hid C1
  have HGW := hid (grew_trans HG0.out HG2.out)
  have hz2 : w.heap.size < w2.heap.size := Nat.lt_of_lt_of_le hz HG2.out.size
  clear C0 C1 k0 k1 x0 x1 HB2 hW0 g0 HG2 HG0 hGw hz hwG
  go_loopg [13] N (fun gk i wr => ∃ (k : Nat), k ≤ N ∧ i = .int .i64 (k : Int) ∧ Hid (gk = N - k) ∧ Hid (BRun wr G N (reachR g.ms N k)) ∧ Hid (Keeps (fun i _ => i = G) w2 wr))
  case atStart => exact ⟨0, by omega, rfl, hid rfl, HRUN0, HK0⟩
  case round =>
    clear HRUN0 HK0
    obtain ⟨k, hk, rfl, HGK, HRUN, HKP⟩ := hrel
    rename World => wr
    by_cases hkN : k < N
    · have hkI : (k : Int) < (N : Int) := by omega
      have c1 := cell_keeps HKP.out (fun _ _ => by omega) HC1.out
      have hzr : w.heap.size < wr.heap.size := Nat.lt_of_lt_of_le hz2 HKP.out.size
      go_wp2
      clear c1 hzr
      go_loopg [5, 18] n (fun gk _ i wq => ∃ (j : Nat), j ≤ n ∧ i = .int .i64 (j : Int) ∧ Hid (gk = n - j) ∧ Hid (BRun wq G N (hopsM (g.ms.take j) (reachR g.ms N k))) ∧ Hid (Keeps (fun i _ => i = G) w2 wq))
      case atStart => exact ⟨0, by omega, rfl, hid rfl, hid HRUN.out, HKP⟩
      case round =>
        clear HRUN HKP
        obtain ⟨j, hj, rfl, HGJ, HRUN, HKP⟩ := hrel
        rename World => wq
        have HGI := hid (HGW.out.trans (HKP.out.below (Nat.le_of_lt hz2) (fun i _ e => by rw [e]; exact Nat.le_of_lt hWG)))
        by_cases hlt : j < n
        · obtain ⟨x, hx⟩ : ∃ x, g.ms[j]? = some x := ⟨_, List.getElem?_eq_getElem (by rw [HN.out]; exact hlt)⟩
          obtain ⟨bb, boff, rfl, hpa⟩ := HMVS.out j x hx
          have hpa2 := hpa.grew hpa.lt HGI.out
          have p0 := hpa2.c0
          have p1 := hpa2.c1
          have p2 := hpa2.c2
          have p3 := hpa2.c3
          have hplt := hpa2.lt
          have hxN := HG.out.inN x (List.mem_of_getElem? hx)
          obtain ⟨Y1, hY1, e1, hb1⟩ := box4v wq x
          have l0 := hb1.c0
          have l1 := hb1.c1
          have l2 := hb1.c2
          have l3 := hb1.c3
          have hzl := hb1.lt
          have HTK := hid (hopsM_take (st := reachR g.ms N k) hx)
          obtain ⟨st, hst⟩ : ∃ st, hopsM (g.ms.take j) (reachR g.ms N k) = st := ⟨_, rfl⟩
          have HST := hid hst
          rw [hst] at HRUN HTK
          have hry := HRUN.out.grew e1
          have HRY := hid hry
          obtain ⟨x1, x2, x3, x4⟩ := x
          obtain ⟨xa, rfl⟩ : ∃ xa : Nat, x1 = (xa : Int) := ⟨x1.toNat, by simp only [fr] at hxN; omega⟩
          obtain ⟨xb, rfl⟩ : ∃ xb : Nat, x3 = (xb : Int) := ⟨x3.toNat, by simp only [tg] at hxN; omega⟩
          have hxa : xa < N := by simp only [fr] at hxN; omega
          have hxb : xb < N := by simp only [tg] at hxN; omega
          have hxaI : (xa : Int) < (N : Int) := by omega
          have hxbI : (xb : Int) < (N : Int) := by omega
          have hjn : (j : Int) < (n : Int) := by omega
          obtain ⟨ca, fa⟩ := hry.cell hxa
          obtain ⟨cb, fb⟩ := hry.cell hxb
          have hGY := hry.lt
          obtain ⟨q, hq⟩ : ∃ q, st.getD xa false = q := ⟨_, rfl⟩
          obtain ⟨r, hr⟩ : ∃ r, st.getD xb false = r := ⟨_, rfl⟩
          rw [hq] at ca
          rw [hr] at cb
          have hhop : hopM st ((xa : Int), x2, (xb : Int), x4) = st.set xb (r || q) := by unfold hopM; simp only [fr, tg, Int.toNat_natCast]; rw [hq, hr]
          rw [hhop] at HTK
          have HKY := hid (HKP.out.trans e1.keeps)
          simp only [Nat.zero_add] at p0 p1 p2 p3 l0 l1 l2 l3 hY1
          clear hx hpa hpa2 hb1 hxN hst hq hr hhop e1 hry
          cases r
          all_goals (
            go_wp2
            go_still_tail 16, (by kernel_rfl)
            change wpList _ _ _ _ _ Y1.drew
            have hky : Keeps (fun i _ => i = G) w2 Y1.drew := HKY.out.drew
            have hrd : BRun Y1.drew G N st := HRY.out
            have fd : Y1.drew.frozen? ⟨G, xb, none⟩ = false := (hrd.cell hxb).2
            have cd := (hrd.cell hxb).1
            have HKD := hid hky; have HRD := hid hrd
            clear hky hrd
            generalize Y1.drew = Y2 at HKD HRD fd cd ⊢
            go_wp2
            go_roundg (n - (j + 1))
            case measure => have := HGJ.out; omega
            case rel => exact ⟨j + 1, by omega, by go_num, hid rfl, hid (by rw [HTK.out]; exact HRD.out.set hxb _), hid (HKD.out.trans (keeps_setB _ _ _ _))⟩)
        · obtain rfl : j = n := by omega
          have hrr := HRUN.out
          rw [← HN.out, hopsM_all] at hrr
          have HRR := hid (show BRun wq G N (reachR g.ms N (k + 1)) from hrr)
          clear hrr
          go_wp2
          go_roundg (N - (k + 1))
          case measure => have := HGK.out; omega
          case rel => exact ⟨k + 1, by omega, by go_num, hid rfl, HRR, HKP⟩
    · obtain rfl : k = N := by omega
      go_wp2
      go_ret
      exact ⟨G, rfl, HGW.out.trans (HKP.out.below (Nat.le_of_lt hz2) (fun i _ e => by rw [e]; exact Nat.le_of_lt hWG)), Nat.le_of_lt hWG, HRUN.out⟩
end Go.Proofs.Ytojkohpniokaaaa
