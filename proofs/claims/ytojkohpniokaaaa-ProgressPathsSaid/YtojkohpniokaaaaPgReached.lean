/- Walk: reached (64): the places that are reached, in order. -/
import Derived.Test.YtojkohpniokaaaaPgWay
import Derived.Test.YtojkohpniokaaaaPgSort
import Derived.Test.YtojkohpniokaaaaPgP
namespace Go.Lin.Pg
open Go

/-- The places that are reached, in order. -/
def reachedM (ms : List Mv) (N : Nat) : List Int := ((List.range N).map Int.ofNat).filter (reachB ms)

theorem reachedM_lt (ms : List Mv) (N : Nat) : (reachedM ms N).Pairwise (· < ·) := by
  unfold reachedM
  refine List.Pairwise.filter _ ?_
  rw [List.pairwise_map]
  exact List.pairwise_lt_range.imp (fun h => by simpa using h)

theorem mem_reachedM {ms : List Mv} {N : Nat} (h1 : 1 ≤ N) (h8 : N ≤ 8) (hN : InN N ms) {p : Int} : p ∈ reachedM ms N ↔ ∃ u, goG ms (fun _ => true) 0 u = some p := by
  unfold reachedM
  rw [List.mem_filter, reachB_iff h1 h8 hN]
  refine ⟨fun h => h.2, fun h => ⟨?_, h⟩⟩
  obtain ⟨u, hu⟩ := h
  have := goG_in hN u ⟨by omega, by omega⟩ hu
  exact List.mem_map.2 ⟨p.toNat, by rw [List.mem_range]; omega, by show ((p.toNat : Nat) : Int) = p; omega⟩

/-- What the search finds is, put in order, the list of all places that are reached. -/
theorem sorted_reached {ms : List Mv} {N : Nat} (h1 : 1 ≤ N) (h8 : N ≤ 8) (hN : InN N ms) {xs : List LX} (h : AllL ms (fun _ => true) 0 xs) : sortI (lPl xs) = reachedM ms N := by
  have hp : (lPl xs).Perm (reachedM ms N) := (List.perm_ext_iff_of_nodup h.new ((reachedM_lt ms N).imp (fun h => by omega))).2 (fun p => by
    rw [mem_reachedM h1 h8 hN]
    constructor
    · intro hp
      obtain ⟨x, hx, rfl⟩ := List.mem_map.1 hp
      exact ⟨_, (h.ways x hx).leads⟩
    · rintro ⟨u, hu⟩
      exact h.all u p hu)
  have hs : (sortI (lPl xs)).Perm (reachedM ms N) := (List.mergeSort_perm _ _).trans hp
  refine List.Perm.eq_of_pairwise (le := fun a b : Int => a ≤ b) (fun a b _ _ h1 h2 => by omega) ?_ ((reachedM_lt ms N).imp (fun h => by omega)) hs
  have h2 : (sortI (lPl xs)).Pairwise (fun a b => decide (a ≤ b) = true) := List.pairwise_mergeSort (le := fun x y : Int => decide (x ≤ y)) (fun a b c h1 h2 => by simp at *; omega) (fun a b => by simp; omega) (lPl xs)
  exact h2.imp (fun h => by simpa using h)

theorem reachedM_len (ms : List Mv) (N : Nat) : (reachedM ms N).length ≤ N := by
  unfold reachedM
  refine Nat.le_trans (List.length_filter_le _ _) (by simp)
end Go.Lin.Pg
namespace Go.Proofs.Ytojkohpniokaaaa
open Go Go.RowKit Go.Lin Go.Lin.Pg Go.Maps Go.Shelf
attribute [local go_sem] Oper.semAt_some

theorem keeps_re {may may' : Nat → Obj → Prop} {w w' : World} (h : Keeps may w w') (hm : ∀ k o, w.heap[k]? = some o → may k o → may' k o) : Keeps may' w w' :=
  ⟨h.os, h.tape, h.output, h.size, fun k o ho hn => h.obj k o ho (fun hh => hn (hm k o ho hh))⟩

theorem setCell_row {w : World} {B : Nat} {x : Value} {t : TypeId} (h : w.heap[B]? = some (.cells #[x] t (0, 0))) (u : Value) : (w.setCell ⟨B, 0, none⟩ u).heap[B]? = some (.cells #[u] t (0, 0)) := by
  simp [World.setCell, Array.getElem?_modify, h]

/-- What the loop of reached holds: its list, in the box B. -/
structure Col (B : Nat) (w1 : World) (pre : List LX) (T : Nat → Prop) (W : World) : Prop where
  keep : Keeps (fun k _ => k = B ∨ w1.heap.size ≤ k) w1 W
  own : ∀ k, T k → w1.heap.size ≤ k
  list : ∃ v, W.heap[B]? = some (.cells #[v] 25 (0, 0)) ∧ Seg W w1.heap.size 3 1 v pre.length ((lPl pre).map (.int .i64)) ∧ ∀ k, v.ownBlock = some k → ¬ T k

theorem Col.keeps {B : Nat} {w1 W W' : World} {pre : List LX} {T T' : Nat → Prop} (h : Col B w1 pre T W) (hB : B < w1.heap.size) {may : Nat → Obj → Prop} (hk : Keeps may W W') (hm : ∀ k o, may k o → w1.heap.size ≤ k ∧ (T k ∨ o.isCells = false)) (hT : ∀ k, T' k → T k ∨ W.heap.size ≤ k) : Col B w1 pre T' W' := by
  obtain ⟨v, h1, h2, h3⟩ := h.list
  refine ⟨h.keep.trans (hk.mono (fun k o hh => .inr (hm k o hh).1)), fun k hk' => ?_, v, hk.obj _ _ h1 (fun hh => by have := (hm _ _ hh).1; omega), h2.keeps hk (fun k o hv ⟨cur, ho⟩ hh => ?_), fun k hv ht => ?_⟩
  · rcases hT k hk' with ht | ht
    · exact h.own k ht
    · have := h.keep.size; omega
  · rcases (hm k o hh).2 with ht | ht
    · exact h3 k hv ht
    · rw [ho] at ht; cases ht
  · rcases hT k ht with ht | ht
    · exact h3 k hv ht
    · have := (h2.own k hv).2.1; omega

set_option maxHeartbeats 4000000 in
set_option maxRecDepth 100000 in
theorem reached64_any (g : Gr) (N : Nat) (hG : GOk g N) (gv : Value) (w : World) (hg : IsGr w gv g) :
    Calls Try.prog 64 #[gv] w fun e w' => ∃ u, e = .returned u ∧ Grew w w' ∧ Seg w' w.heap.size 3 1 u (reachedM g.ms N).length ((reachedM g.ms N).map (.int .i64)) := by
  obtain ⟨mv, rfl, hmv⟩ := hg
  have HMV := hid hmv; have HG := hid hG
  clear hmv hG
  obtain ⟨gn, hgn⟩ : ∃ gn, g.n = gn := ⟨_, rfl⟩
  rw [hgn]
  obtain ⟨W0, hW0, g0, k0, k1, hz⟩ := box2 w (.int .i64 gn) mv 24
  obtain ⟨W1, hW1, g1, l0, hz1⟩ := box1 W0 (.slice none 0 0) 25
  have g01 := grew_trans g0 g1
  have r0 := (g1.cell (p := ⟨w.heap.size, 0, none⟩) hz).trans k0
  have r1 := (g1.cell (p := ⟨w.heap.size, 1, none⟩) hz).trans k1
  have o3 : W1.heap[W0.heap.size]? = some (.cells #[.slice none 0 0] 25 (0, 0)) := by rw [← hW1]; exact heap_alloc_new W0 _
  have HLG := hid (legs89_any gn mv 0 82 #[] W1)
  clear k0 k1 l0
  refine (callsIn_wide (n := 6)).1 ?_
  refine callsIn_of_wp_marks Try.func64 rfl trivial ?_ rfl
  simp only [Try.ntmps64, List.size_toArray, List.length_cons, List.length_nil, Nat.reduceAdd, Nat.reduceSub, Array.replicate_succ, Array.replicate_zero, List.push_toArray, List.append_toArray, List.nil_append, List.cons_append]
  gi_wp2_with (refine ⟨trivial, ?_⟩; gi_at_call 89; refine (callsIn_wide.2 HLG.out).mono ?_; rintro e w1 ⟨c1, c2, c3, rfl, hx, x1, x2, x3, y1, y2, y3⟩)
  have hs1 := g1.size; have hs0 := g0.size; have hsx := hx.size
  have g0x := grew_trans g01 hx
  have O3 := hid ((hx.block _ hz1).trans o3)
  have hz1c := World.block_lt_of_cell? _ _ x1
  have hz2c := World.block_lt_of_cell? _ _ x2
  have hz3c := World.block_lt_of_cell? _ _ x3
  simp only at hz1c hz2c hz3c
  have hBx : W0.heap.size < w1.heap.size := by omega
  have HSEQ := hid (legs_stops g.ms (fun _ => true) 0 N HG.out.h8 HG.out.inN ⟨by omega, by have := HG.out.h1; omega⟩ HG.out.h20 c1 c2 c3 82 #[] mv w1 5 (by decide) (fun k _ => k = W0.heap.size ∨ w1.heap.size ≤ k) x1 x2 x3 (fun _ _ => by omega) (fun _ _ => by omega) (fun _ _ => by omega)
    ((HMV.out.off g0x).mono (fun k o h => by have := g0x.size; omega)) (fun _ _ => by kernel_rfl) (fun W hW m _ => by
      obtain ⟨f, caps, h4, h5, h6⟩ := any82 W
      cases h4
      exact h6 W (grew_refl W) m))
  clear o3 HLG r0 r1 hW0 hW1 x1 x2 x3
  have hcol0 : Col W0.heap.size w1 [] (fun _ => False) w1 := ⟨Keeps.refl _ _, fun _ h => h.elim, _, O3.out, Seg.nil _ _ _ _, fun _ h => by simp [Value.ownBlock] at h⟩
  have HC0 := hid hcol0
  clear hcol0
  have HBX := hid hBx
  refine wpIn_rangeFunc_sepH (P := Try.prog) rfl (by decide) (gf := 99) (fa := #[]) (lb := #[.pointer (some ⟨c1, 0, none⟩), .pointer (some ⟨c2, 0, none⟩), .pointer (some ⟨c3, 0, none⟩)]) rfl trivial (enters_of Try.func99 (by kernel_rfl) rfl) HSEQ.out (grew_refl w1) (fun _ _ h => .inr h) (fun _ => rfl)
    (fun pre T W => Col W0.heap.size w1 pre T W) (fun _ _ _ => False) ?hI ?hIx
    (fun pre T x a' W => Col W0.heap.size w1 pre T W ∧ pre.length < 8 ∧ ∃ Bx, w1.heap.size + 2 ≤ Bx ∧ ¬ T Bx ∧ W.heap[Bx]? = some (.cells #[.int .i64 x.1.1, x.2] 104 (0, 0)) ∧
      a' = { tmps := #[.agg #[.int .i64 gn, mv], .pointer (some ⟨w.heap.size, 0, none⟩), .slice none 0 0, .pointer (some ⟨W0.heap.size, 0, none⟩), .pointer (some ⟨Bx, 0, none⟩), .agg #[.int .i64 gn, mv], .func (.func 99) #[] #[.pointer (some ⟨c1, 0, none⟩), .pointer (some ⟨c2, 0, none⟩), .pointer (some ⟨c3, 0, none⟩)], .agg #[.int .i64 x.1.1, x.2], undef, undef, undef, undef, undef, undef, undef, undef], defers := [] })
    ?hAx HC0.out ?assign ?body ?done ?stop
  case hI =>
    rintro pre T W W' h hk T' hT'
    refine Col.keeps (h) HBX.out hk (fun k o hh => ?_) hT'
    rcases hh with hh | ⟨hh, hc⟩
    · exact ⟨h.own k hh, .inl hh⟩
    · exact ⟨hh, .inr hc⟩
  case hIx => exact fun _ _ _ _ h _ => h.elim
  case hAx =>
    rintro pre T x a' W W' ⟨h, hp, Bx, hB, hTB, hob, rfl⟩ hk
    exact ⟨Col.keeps h HBX.out hk (fun k o hh => ⟨hh.1, .inr hh.2.2⟩) (fun k hh => .inl hh), hp, Bx, hB, hTB, hk.obj _ _ hob (fun hh => by omega), rfl⟩
  case assign =>
    rintro l pre T ⟨⟨xs, xw⟩, xv⟩ W K hi hh hT hlt hK
    obtain ⟨⟨va, vc, hv, _⟩, _⟩ := id hh.path
    simp only [pInts, List.length_map] at hv
    subst hv
    obtain ⟨W5, hW5, g5, q0, q1, hz5⟩ := box2 W (.int .i64 xs) (.slice va xw.length vc) 104
    dsimp only [encL]
    have hfew := hh.few
    gi_wp2
    refine hK _ W5 g5.keeps ⟨Col.keeps hi HBX.out (may := fun _ _ => False) g5.keeps (fun _ _ h => h.elim) (fun k hh => .inl hh), hfew, W.heap.size, by omega, fun ht => by have := hT _ ht; omega, by rw [← hW5]; exact heap_alloc_new W _, rfl⟩
  case body =>
    rintro l pre T ⟨⟨xs, xw⟩, xv⟩ a' W ⟨hc, hp, Bx, hB, hTB, hob, rfl⟩ hT hlt
    simp only [] at hob
    have q0 : W.cell? ⟨Bx, 0, none⟩ = some (.int .i64 xs) := cell_of_row _ _ _ _ _ _ hob
    obtain ⟨v, hv1, hv2, hv3⟩ := hc.list
    obtain ⟨va, vc, rfl, _⟩ := hv2.shape
    have b0 : W.cell? ⟨W0.heap.size, 0, none⟩ = some (.slice va pre.length vc) := cell_of_row _ _ _ _ _ _ hv1
    have HC := hid hc; have HV1 := hid hv1; have HV2 := hid hv2; have HV3 := hid hv3
    have HKW := hid hc.keep.size
    obtain ⟨W2, hW2, g2, e2, hz2⟩ := box1 W (.int .i64 xs) 3
    have HG2 := hid g2
    have hpl : pre.length < 1000000000 := by omega
    clear hc hv1 hv2 hv3 hob
    gi_wp2_with (gi_at_builtin; refine wpListIn_append_one rfl _ _ 25 rfl w1.heap.size 3 Try.underlying25 Try.info3 rfl (by decide) _ pre.length _ rfl (HV2.out.grew HG2.out) W.heap.size 1 (.int .i64 xs) rfl (show _ = _ from e2) rfl hpl ?_ ?_; (have := HKW.out; have := HG2.out.size; omega); intro v9 w9 hown9 hgrow9 hblk9; have HS9 := hid hown9; have HGW9 := hid hgrow9; have HBL9 := hid hblk9; have hk9 := (Keeps.refl (fun k _ => (Value.slice va pre.length vc).ownBlock = some k) W2).grown hgrow9 (fun k o e _ => e); have HK9 := hid hk9; have hob9 := hk9.obj _ _ ((HG2.out.block _ (lt_of_obj HV1.out)).trans HV1.out) (fun e => by have := (HV2.out.own _ e).1; have := HBX.out; omega); have HB9 := hid hob9; have c9 : w9.cell? ⟨W0.heap.size, 0, none⟩ = some (.slice va pre.length vc) := cell_of_row _ _ _ _ _ _ hob9; have f9 := frozen_obj hob9 0; obtain ⟨a9, cc9, rfl, _⟩ := hown9.shape; clear hown9 hgrow9 hblk9 hk9 hob9)
    have hks := (keeps_setB w9 W0.heap.size 0 (.slice a9 (pre.length + 1) cc9)).mono (may' := fun k _ => k = W0.heap.size ∨ (Value.slice va pre.length vc).ownBlock = some k) (fun k _ h => .inl h)
    have hKA : Keeps (fun k _ => k = W0.heap.size ∨ (Value.slice va pre.length vc).ownBlock = some k) W (w9.setCell ⟨W0.heap.size, 0, none⟩ (.slice a9 (pre.length + 1) cc9)) :=
      (HG2.out.keeps.trans (HK9.out.mono (fun k _ h => .inr h))).trans hks
    have hTB3 : ¬ T W0.heap.size := fun h => by have := hT _ h; omega
    refine ⟨keeps_re hKA (fun k o ho h => ?_), HC.out.keep.trans (hKA.mono (fun k o h => ?_)), HC.out.own, _, setCell_row HB9.out _, ?_, fun k hv ht => ?_⟩
    · rcases h with rfl | h
      · exact ⟨hTB3, .inl rfl, .inl HBX.out⟩
      · obtain ⟨h1, h2, cur, h3⟩ := HV2.out.own k h
        rw [h3] at ho; cases ho
        exact ⟨HV3.out k h, .inr h1, .inr rfl⟩
    · rcases h with rfl | h
      · exact .inl rfl
      · exact .inr (HV2.out.own k h).1
    · have h := HS9.out.keeps (keeps_setB w9 W0.heap.size 0 (.slice a9 (pre.length + 1) cc9)) (fun k o hv _ e => by have := (HS9.out.own k hv).1; have := HBX.out; omega)
      simpa [lPl] using h
    · rcases HBL9.out with e | e
      · rw [e] at hv; exact HV3.out k hv ht
      · rw [e] at hv; cases hv
        have := (hT _ ht).2; have := HG2.out.size; omega
  case done =>
    rintro D xs T W hD hS hc hK
    obtain ⟨v, hv1, hv2, hv3⟩ := hc.list
    obtain ⟨va, vc, rfl, _⟩ := hv2.shape
    have b0 : W.cell? ⟨W0.heap.size, 0, none⟩ = some (.slice va xs.length vc) := cell_of_row _ _ _ _ _ _ hv1
    have hfew : xs.length ≤ N := by
      have h1 := sorted_reached HG.out.h1 HG.out.h8 HG.out.inN hS
      have h2 := reachedM_len g.ms N
      rw [← h1, sortI, List.length_mergeSort] at h2
      simpa [lPl] using h2
    have hsort := sort_seg (lPl xs) (.slice va xs.length vc) W w1.heap.size 3 (by have := HG.out.h8; simp [lPl]; omega) (by simpa [lPl] using hv2)
    rw [sorted_reached HG.out.h1 HG.out.h8 HG.out.inN hS] at hsort
    have HSO := hid hsort; have HC := hid hc; have HV1 := hid hv1; have HV2 := hid hv2
    have hlen : (lPl xs).length = (reachedM g.ms N).length := by rw [← sorted_reached HG.out.h1 HG.out.h8 HG.out.inN hS, sortI, List.length_mergeSort]
    have HLEN := hid hlen
    clear hsort hc hv1 hv2 hlen
    gi_wp2_with (refine ⟨trivial, ?_⟩; gi_at_call 91; refine (callsIn_wide.2 HSO.out).mono ?_; rintro e w9 ⟨rfl, hs9, hg9⟩; have hk9 := (Keeps.refl (fun k _ => (Value.slice va xs.length vc).ownBlock = some k) W).grown hg9 (fun k o e _ => e); have hob9 := hk9.obj _ _ HV1.out (fun e => by have := (HV2.out.own _ e).1; have := HBX.out; omega); have c9 : w9.cell? ⟨W0.heap.size, 0, none⟩ = some (.slice va xs.length vc) := cell_of_row _ _ _ _ _ _ hob9; have HK9 := hid hk9; have HS9 := hid hs9; clear hk9 hs9 hg9 hob9)
    have hK9 := HK9.out.obj _ _ hK (fun e => by obtain ⟨_, _, cur, h⟩ := HV2.out.own _ e; rw [hK] at h; cases h)
    refine ⟨by simp, .inl ⟨_, _, rfl, run_takeDeferred hK9, ?_⟩⟩
    have hkp := keeps_putObj (may := fun k o => w1.heap.size ≤ k ∧ o.isCells = false) w9 (.deferred none) hK9 ⟨hD, rfl⟩
    have hS := HS9.out.keeps hkp (fun k o _ ⟨cur, ho⟩ h => by rw [ho] at h; cases h.2)
    refine ⟨_, results_tmp rfl _ _ _, _, rfl, ?_, ?_⟩
    · have h1 := HC.out.keep.trans (HK9.out.mono (may' := fun k _ => k = W0.heap.size ∨ w1.heap.size ≤ k) (fun k o e => .inr (HV2.out.own _ e).1))
      have h2 := h1.trans (hkp.mono (fun k o h => .inr h.1))
      exact g0x.trans (h2.below g0x.size (fun k o h => by rcases h with rfl | h <;> omega))
    · show Seg _ _ 3 1 (.slice va xs.length vc) _ _
      rw [← HLEN.out]
      have h := hS.mono (base' := w.heap.size) g0x.size
      simpa [lPl] using h
  case stop => exact fun _ _ _ _ _ h _ => h.elim
end Go.Proofs.Ytojkohpniokaaaa
