/- Walks: the states that are reached, and the word to one, of the reference's text. -/
import Derived.Test.YtnebpcpihldllaaRWays
import Derived.Test.YtnebpcpihldllaaWReached
import Derived.Test.YtnebpcpihldllaaWMeddles
import Derived.Test.YtnebpcpihldllaaWRefBegun
import Derived.Test.YtnebpcpihldllaaWWords
namespace Go.Lin

/-- The first k states that are there. -/
noncomputable def seenL (xs : List WX) (k : Nat) : List Nat := (List.range k).filter (seenW xs)

theorem seenL_succ (xs : List WX) (k : Nat) : seenL xs (k + 1) = if seenW xs k then seenL xs k ++ [k] else seenL xs k := by
  unfold seenL
  rw [List.range_succ, List.filter_append]
  cases h : seenW xs k <;> simp [h]

theorem seenL_len (xs : List WX) (k : Nat) : (seenL xs k).length ≤ k := by
  unfold seenL
  exact Nat.le_trans (List.length_filter_le _ _) (by simp)

theorem AllWays.seen {M : Mach} {xs : List WX} (h : AllWays M xs) (x : Nat) : seenW xs x = true ↔ Reaches M x := by
  rw [seenW_iff]
  constructor
  · intro hx
    obtain ⟨y, hy, rfl⟩ := List.mem_map.1 hx
    have := (h.ways y hy).1
    exact ⟨_, this.ok, this.leads⟩
  · rintro ⟨v, hv, rfl⟩
    exact h.all v hv

theorem seenL_all {M : Mach} (hM : M.WF) {xs : List WX} (h : AllWays M xs) : seenL xs M.n = reachL M := by
  refine sorted_unique ?_ (reachL_sorted M) (fun x => ?_)
  · unfold seenL
    exact List.Pairwise.filter _ List.pairwise_lt_range
  · unfold seenL
    rw [List.mem_filter, mem_reachL hM, List.mem_range, h.seen]
    refine ⟨fun h => h.2, fun h => ⟨?_, h⟩⟩
    obtain ⟨v, hv, rfl⟩ := h
    exact stM_lt hM hM.n1 hv
end Go.Lin
namespace Go.Proofs.Ytnebpcpihldllaa
open Go.RowKit Go.Lin

set_option maxHeartbeats 2000000 in
theorem refReached99_any (M : Mach) (hM : M.WF) (mv : Value) (w : World) (hm : IsMach w mv M) :
    Calls Try.prog 99 #[mv] w fun e w' => ∃ u, e = .returned u ∧ IsNats Any w' u (reachL M) ∧ Grew w w' := by
  have HF := hid (fun (y : World) (hy : Grew w y) => refWays_any M hM mv y (hm.grew hy))
  have n8 := hM.n8
  obtain ⟨b1, off1, c1, b2, off2, c2, rfl, _, _⟩ := hm
  obtain ⟨W0, hW0, g0, k0, k1, k2, k3, hz⟩ := box4 w (.int .i64 (M.n : Int)) (.int .i64 (M.k : Int)) (.slice (some ⟨b1, off1, none⟩) M.n c1) (.slice (some ⟨b2, off2, none⟩) M.n c2) 24
  go_enter Try.func99, Try.ntmps99
  go_wp2_with (go_at_call 100; ((with_reducible refine (HF.out _ g0).mono ?_); rintro e w1 ⟨bW, bT, xs, rfl, hx, hall, hT, hW, hws⟩; have HALL := hid hall; have HT := hid hT; clear hall hT hW hws))
  clear hW0 k0 k1 k2 k3
  go_loopg [3, 15] M.n (fun g u i wr => ∃ k : Nat, k ≤ M.n ∧ i = .int .i64 (k : Int) ∧ Hid (g = M.n - k) ∧ Grew w1 wr ∧ Hid (Seg wr w1.heap.size 3 1 u (seenL xs k).length ((seenL xs k).map fun (x : Nat) => .int .i64 (x : Int))))
  case atStart => exact ⟨0, Nat.zero_le _, rfl, hid rfl, grew_refl _, hid (Seg.nil _ _ _ _)⟩
  case round =>
    obtain ⟨k, hk, rfl, HG, hgr, HSEG⟩ := hrel
    obtain ⟨ua, uc, rfl, _⟩ := HSEG.out.shape
    by_cases hlt : k < M.n
    · have hTr := HT.out.of_block (hgr.block _ HT.out.lt)
      have ct := hTr.cell hlt
      have hsl := seenL_len xs k
      have hss := seenL_succ xs k
      have zT := hTr.lt
      clear hTr
      cases hb : seenW xs k with
      | true =>
        rw [hb] at ct hss
        have HSS := hid hss; clear hss hb
        go_wp2_with (at_builtin; refine wpList_append_one rfl _ _ 34 rfl w1.heap.size 3 Try.underlying34 Try.info3 rfl (by decide) _ (seenL xs k).length _ rfl (HSEG.out.alloc _) _ _ _ rfl (one_new _ _ _) rfl (by omega) ?_ ?_
                     (have := hgr.size; simp only [World.size_alloc]; omega)
                     intro v7 w7 hown7 hgrow7 hblk7
                     have hg7 : Grew w1 w7 := (hgr.alloc hgr.size _).grown hgrow7 (hgr.alloc hgr.size _).size (fun k e => (HSEG.out.own k e).1)
                     have HOWN7 := hid hown7; clear hown7 hgrow7 hblk7)
        go_roundg (M.n - (k + 1))
        case measure => have := HG.out; omega
        case rel => exact ⟨k + 1, by omega, by go_num, hid rfl, hg7, hid (by rw [HSS.out]; simpa using HOWN7.out)⟩
      | false =>
        rw [hb] at ct hss
        have HSS := hid hss; clear hss hb
        go_wp2
        go_roundg (M.n - (k + 1))
        case measure => have := HG.out; omega
        case rel => exact ⟨k + 1, by omega, by go_num, hid rfl, hgr, hid (by rw [HSS.out]; simpa using HSEG.out)⟩
    · obtain rfl : k = M.n := by omega
      go_wp2
      go_ret
      have h := HSEG.out
      rw [seenL_all hM HALL.out] at h
      rw [seenL_all hM HALL.out]
      exact ⟨_, rfl, reach_nats h, grew_trans g0 (grew_trans hx hgr)⟩

set_option maxHeartbeats 1000000 in
theorem refReached_any (s : RSpec) (sv : Value) (w : World) (hs : IsSpec w sv s) :
    Calls Try.prog 52 #[sv] w fun e w' => ∃ u, e = .returned (.tuple #[u, .int .i64 (if validM s then 0 else 10)]) ∧ IsNats Any w' u (if validM s then reachL (machOf s) else []) ∧ Grew w w' := by
  have HRV := hid (fun (y : World) (hy : Grew w y) => refValid_any s _ y (hs.grew hy))
  cases hv : validM s with
  | true =>
    rw [hv] at HRV
    have HR := hid (fun (y : World) (hy : Grew w y) => refReached99_any (machOf s) (wf_machOf hv) _ y ((hs.isMach hv).grew hy))
    obtain ⟨nv, yv, rfl, _, _⟩ := hs
    obtain ⟨W0, hW0, g0, k0, k1, k2, k3, hz⟩ := box4 w (.int .i64 s.st) (.int .i64 s.ops) nv yv 24
    have hg := grew_refl W0
    clear hv
    go_enter Try.func52, Try.ntmps52
    go_wp2_with (first
      | (go_at_call 33; with_reducible refine (HRV.out _ (grew_trans g0 hg)).mono ?_; rintro e w2 ⟨rfl, hx⟩; replace hg := grew_trans hg hx; have hc := (bcell hg).1; clear hx)
      | (go_at_call 99; (with_reducible refine (HR.out _ (grew_trans g0 hg)).mono ?_); rintro e w3 ⟨u, rfl, hn, hx⟩; replace hg := grew_trans hg hx; have HN := hid hn; clear hn))
    go_ret2
    exact ⟨_, rfl, HN.out, grew_trans g0 hg⟩
  | false =>
    rw [hv] at HRV
    obtain ⟨nv, yv, rfl, _, _⟩ := hs
    obtain ⟨W0, hW0, g0, k0, k1, k2, k3, hz⟩ := box4 w (.int .i64 s.st) (.int .i64 s.ops) nv yv 24
    clear hv
    go_enter Try.func52, Try.ntmps52
    go_wp2_with (go_at_call 33; with_reducible refine (HRV.out _ g0).mono ?_; rintro e w2 ⟨rfl, hx⟩)
    go_ret2
    exact ⟨_, rfl, Reads.nil _ _ _ _ _, grew_trans g0 hx⟩

set_option maxHeartbeats 1000000 in
theorem refWay_any (s : RSpec) (a : Int) (sv : Value) (w : World) (hs : IsSpec w sv s) :
    Calls Try.prog 53 #[sv, .int .i64 a] w fun e w' => ∃ u r, e = .returned (.tuple #[u, .int .i64 r]) ∧ Grew w w' ∧
      ((askedM s a a ≠ 0 ∧ r = askedM s a a ∧ u = .slice none 0 0) ∨ (askedM s a a = 0 ∧ ((r = 0 ∧ ∃ ws, IsWay (machOf s) a.toNat ws ∧ IsNats (IntObj 3) w' u ws) ∨ (r = 5 ∧ u = .slice none 0 0 ∧ ∀ v, OkW (machOf s).k v → stM (machOf s) 0 v ≠ a.toNat)))) := by
  have HAS := hid (fun (y : World) (hy : Grew w y) => asked_any s _ a a y (hs.grew hy))
  by_cases h0 : askedM s a a = 0
  · rw [h0] at HAS
    obtain ⟨hv, x, y0, rfl, hxy, hxn, -⟩ := asked_parts h0
    clear hxy
    have HAC := hid h0
    have HF := hid (fun (y : World) (hy : Grew w y) => refWays_any (machOf s) (wf_machOf hv) _ y ((hs.isMach hv).grew hy))
    obtain ⟨nv, yv, rfl, _, _⟩ := hs
    obtain ⟨W0, hW0, g0, k0, k1, k2, k3, hz⟩ := box4 w (.int .i64 s.st) (.int .i64 s.ops) nv yv 24
    have hg := grew_refl W0
    have hM := wf_machOf hv
    obtain ⟨M, hMe⟩ : ∃ M, machOf s = M := ⟨_, rfl⟩
    rw [hMe] at HF hxn hM ⊢
    have n8 := hM.n8
    clear hMe hv h0
    go_enter Try.func53, Try.ntmps53
    go_wp2_with (first
      | (go_at_call 61; with_reducible refine (HAS.out _ (grew_trans g0 hg)).mono ?_; rintro e w2 ⟨rfl, hx⟩; replace hg := grew_trans hg hx; have hc := (bcell hg).1; clear hx)
      | (go_at_call 100; ((with_reducible refine (HF.out _ (grew_trans g0 hg)).mono ?_); rintro e w1 ⟨bW, bT, xs, rfl, hx, hall, hT, hW, hws⟩; have ct := hT.cell hxn; have cw := hW.cell hxn; have zT := hT.lt; have zW := hW.lt; have HALL := hid hall; have HWS := hid hws; clear hall hws hT hW; replace hg := grew_trans hg hx; (cases hb : seenW xs x) <;> (rw [hb] at ct; have HB := hid hb; clear hb))))
    · go_ret2
      refine ⟨_, _, rfl, grew_trans g0 hg, .inr ⟨HAC.out, .inr ⟨rfl, rfl, fun v hv he => ?_⟩⟩⟩
      have := (HALL.out.seen x).2 ⟨v, hv, he⟩
      rw [HB.out] at this; cases this
    · go_ret2
      obtain ⟨y, hy, hye⟩ := List.mem_map.1 (seenW_iff.1 HB.out)
      have hwv := wvOf_mem HALL.out.new hy
      refine ⟨_, _, rfl, grew_trans g0 hg, .inr ⟨HAC.out, .inl ⟨rfl, y.1.2.2, ?_, ?_⟩⟩⟩
      · have := (HALL.out.ways y hy).1
        rw [show y.1.1 = x from hye] at this
        exact this
      · rw [← show y.1.1 = x from hye, hwv]
        exact HWS.out y hy
  · obtain ⟨r, hr⟩ : ∃ r, askedM s a a = r := ⟨_, rfl⟩
    rw [hr] at HAS h0 ⊢
    obtain ⟨nv, yv, rfl, _, _⟩ := hs
    obtain ⟨W0, hW0, g0, k0, k1, k2, k3, hz⟩ := box4 w (.int .i64 s.st) (.int .i64 s.ops) nv yv 24
    have hb : (r == 0) = false := beq_false_of_ne h0
    have H0 := hid h0
    clear h0 hr
    go_enter Try.func53, Try.ntmps53
    go_wp2_with (go_at_call 61; with_reducible refine (HAS.out _ g0).mono ?_; rintro e w2 ⟨rfl, hx⟩)
    go_ret2
    exact ⟨_, _, rfl, grew_trans g0 hx, .inl ⟨H0.out, rfl, rfl⟩⟩
end Go.Proofs.Ytnebpcpihldllaa
