/- Walk: a sweep of a thread. -/
import Derived.Test.YtcifpigjcfkhmaaHSweep2
import Derived.Test.YtcifpigjcfkhmaaHLaws
namespace Go.Proofs.Ytcifpigjcfkhmaa
open Go.RowKit Go.Lin Go.Lin.Hz

set_option maxHeartbeats 1000000 in
theorem delete82_nil (a : Option Addr) (c : Nat) (f : Value) (w : World) (hf : ∃ g caps, f = .func (.func g) #[] caps) :
    Calls Try.prog 82 #[.slice a 0 c, f] w fun e w' => e = .returned (.slice a 0 c) ∧ Grew w w' := by
  obtain ⟨g, caps, rfl⟩ := hf
  have HI : ∀ y, Calls Try.prog 75 #[.slice a 0 c, .func (.func g) #[] caps] y fun e w' => e = .returned (.int .i64 (-1)) ∧ Grew y w' := by
    intro y
    go_enter Try.func75, Try.ntmps75
    go_wp2
    go_loopg [5, 8] 0 (fun _ _ i wr => i = .int .i64 0 ∧ Grew y wr)
    case atStart => exact ⟨rfl, grew_refl _⟩
    case round =>
      obtain ⟨rfl, hg⟩ := hrel
      go_wp2
      go_ret
      exact ⟨rfl, hg⟩
  have HH := hid HI; clear HI
  have hg := grew_refl w
  go_enter Try.func82, Try.ntmps82
  go_wp2_with (go_at_call 75; with_reducible refine (HH.out _).mono ?_; rintro e w1 ⟨rfl, hx⟩; replace hg := grew_trans hg hx; have hc := (bcell hg).1)
  go_ret
  exact ⟨rfl, hg⟩

theorem LRun.of_seg {w : World} {g off c : Nat} {xs : List Int} (h : Seg w 0 3 1 (.slice (some ⟨g, off, none⟩) xs.length c) xs.length (xs.map (.int .i64))) : ∃ sz, LRun w g off sz xs.length xs ∧ xs.length ≤ c ∧ c ≤ maxLen ∧ off + c ≤ sz := by
  rcases h.2 with ⟨h1, _⟩ | ⟨g', off', c', cur, h1, _, h2, h3, h4, h5, h6⟩
  · simp at h1
  · simp only [Value.slice.injEq, Option.some.injEq, Addr.mk.injEq] at h1
    obtain ⟨⟨rfl, rfl, -⟩, -, rfl⟩ := h1
    refine ⟨cur.size, ⟨rfl, cur, h2, rfl, by omega, fun t ht => ?_⟩, h3, h4, by omega⟩
    have : ((cur.toList.drop off).take (xs.length * 1))[t]? = (xs.map (.int .i64))[t]? := by rw [h6]
    rw [List.getElem?_take_of_lt (by omega), List.getElem?_drop, Array.getElem?_toList] at this
    rw [this]
    simp [nth_lt ht, ht]

theorem Seg.of_cells {w : World} {g off c : Nat} {xs : List Int} {cur : Array Value} (h1 : w.heap[g]? = some (.cells cur 3 (0, 0))) (h2 : xs.length ≤ c) (h3 : c ≤ maxLen) (h4 : off + c ≤ cur.size) (h5 : ∀ t, t < xs.length → cur[off + t]? = some (.int .i64 (nth xs t))) :
    Seg w 0 3 1 (.slice (some ⟨g, off, none⟩) xs.length c) xs.length (xs.map (.int .i64)) := by
  refine ⟨by simp, .inr ⟨g, off, c, cur, rfl, Nat.zero_le _, h1, h2, h3, by omega, ?_⟩⟩
  apply List.ext_getElem?
  intro t
  by_cases ht : t < xs.length
  · rw [List.getElem?_take_of_lt (by omega), List.getElem?_drop, Array.getElem?_toList, h5 t ht]
    simp [nth_lt ht, ht]
  · rw [List.getElem?_eq_none (by simp; omega), List.getElem?_eq_none (by simp; omega)]

set_option maxHeartbeats 2000000 in
theorem sweep61_any (Y : Yd) (hI : Inv Y) (b tb cap : Nat) (lv : List Value) (Fp : List Nat) (i : Nat) (hi : i < Y.th.length) (w : World) (hy : YAll w b Y tb cap lv Fp) :
    Calls Try.prog 61 #[.pointer (some ⟨b, 0, none⟩), .pointer (some ⟨tb, i * 3, none⟩)] w fun e w' => e = .returned (.int .i64 (sweepN Y i)) ∧ IsYard w' b (sweepY Y i) Fp ∧ Keeps (fun k _ => k ∈ Fp) w w' := by
  have HY := hid hy
  obtain ⟨W0, hW0, g0, k0, hz⟩ := box1 w (.pointer (some ⟨b, 0, none⟩)) 37
  obtain ⟨v, hv, hs⟩ := hy.list i hi
  obtain ⟨l, hl⟩ : ∃ l, (Y.th.getD i noTh).l = l := ⟨_, rfl⟩
  have hth : thAt Y (i : Int) = Y.th.getD i noTh := rfl
  rw [hl] at hs
  have hiT : isT Y (i : Int) = true := isT_iff.2 (by omega)
  have hlN : ∀ x ∈ l, isN x = true := fun x hx => list_node hI hiT (by rw [hth, hl]; exact hx)
  have hcell := hy.run.th.l i hi
  rw [hv] at hcell
  have htlt := hy.run.th.lt
  have hcell0 := (g0.cell (p := ⟨tb, i * 3 + 2, none⟩) htlt).trans hcell
  obtain ⟨r, hr⟩ : ∃ r, sweepN Y (i : Int) = r := ⟨_, rfl⟩
  have hr2 : r = (l.length : Int) - ((stay Y l).length : Int) := by rw [← hr]; unfold sweepN; rw [hth, hl]
  rw [hr]
  obtain ⟨n, hn⟩ : ∃ n, l.length = n := ⟨_, rfl⟩
  obtain ⟨ns, hns⟩ : ∃ n, (stay Y l).length = n := ⟨_, rfl⟩
  have hle : ns ≤ n := by rw [← hns, ← hn]; exact List.length_filter_le _ _
  rw [hn, hns] at hr2
  have HN := hid hn
  have HNS := hid hns
  have hvm := List.mem_of_getElem? hv
  rcases hs.cases with ⟨av, rfl, hl0⟩ | ⟨g, off, c, cur0, rfl, hft, hobj0, hnc, hcm, hoc, hsg⟩
  · obtain rfl : n = 0 := by rw [← hn, hl0]; rfl
    obtain rfl : ns = 0 := by omega
    obtain rfl : r = 0 := by omega
    have hg := grew_refl W0
    obtain ⟨cur, hto⟩ := hy.run.tobj
    have HTO := hid hto
    have HV := hid hv
    have HL := hid (show (thAt Y (i : Int)).l = [] by rw [hth, hl, hl0])
    have hgt := g0
    clear hr hr2 hy hv hs hto hl hlN hl0 hth
    go_enter Try.func61, Try.ntmps61
    go_wp2_with (go_at_call 82; with_reducible refine (delete82_nil _ _ _ _ ⟨_, _, rfl⟩).mono ?_; rintro e w1 ⟨rfl, hx⟩; replace hg := grew_trans hg hx; have hgt := grew_trans g0 hg; have hc := (bcell hgt).1; have hfz := (hgt.frozen (p := ⟨tb, i * 3 + 2, none⟩) htlt).trans (frozen_of_row _ _ (i * 3 + 2) _ _ HTO.out); have hcl := (hgt.cell (p := ⟨tb, i * 3 + 2, none⟩) htlt).trans hcell)
    go_ret
    have hA := YAll.swept HY.out hi HV.out rfl (w1 := w1) (v' := .slice av 0 0) (by rw [HL.out, show midY Y [] = Y from midY_all (by simp)]; exact HY.out.run.grew hgt) (Grew.keeps hgt) (by rw [HL.out]; exact Lst.nil _ _ _)
    exact ⟨rfl, hA.yard, (Grew.keeps hgt).trans (keeps_store_in _ _ _ _ (by rw [HY.out.fp]; simp))⟩
  · have hgF : g ∈ lv.filterMap foot := List.mem_filterMap.2 ⟨_, hvm, hft⟩
    have hnd := hy.nd
    rw [hy.fp] at hnd
    simp only [List.nodup_cons, List.mem_cons, not_or] at hnd
    have hgb : g ≠ b := fun e => hnd.1.2 (e ▸ hgF)
    have hgt' : g ≠ tb := fun e => hnd.2.1 (e ▸ hgF)
    have hglt := lt_of_obj hobj0
    have hblt := lt_of_obj hy.run.obj
    obtain ⟨sz, hLR, _, _, hosz⟩ := LRun.of_seg hsg
    rw [hn] at hnc hft hv hcell hcell0 hvm
    obtain ⟨c, rfl⟩ : ∃ c', c = c' + 1 := by
      rcases c with _ | c
      · simp [foot] at hft
      · exact ⟨c, rfl⟩
    have HD := hid (fun (y : World) (hyy : Grew W0 y) => delete82_any Y b tb cap w.heap.size lv g off sz (c + 1) l y (hy.run.grew (grew_trans g0 hyy)) hlN (Nat.lt_of_lt_of_le hz hyy.size) (by omega) (by omega)
      ((hyy.cell (p := ⟨w.heap.size, 0, none⟩) hz).trans k0) hgb hgt' (hLR.keeps (Grew.keeps (may := fun _ _ => False) (grew_trans g0 hyy)) (fun _ h => h)) (by unfold maxLen at hcm; omega) (by omega))
    rw [hn, hns] at HD
    have hg := grew_refl W0
    have HV := hid hv
    have HL := hid (show (thAt Y (i : Int)).l = l by rw [hth, hl])
    have HGB := hid hgb
    have HGT := hid hgt'
    have HGF := hid hgF
    have HR := hid hr2
    have hn9 : n ≤ 9223372036854775807 := by unfold maxLen at hcm; omega
    have hcm' : c + 1 ≤ maxLen := hcm
    have hnsc : ns ≤ c + 1 := by omega
    clear hr hr2 hy hv hs hl hlN hth hsg hobj0 hft hgF hnd hgb hgt' hLR hn hns hvm hcm hblt hglt k0
    go_enter Try.func61, Try.ntmps61
    go_wp2_with (go_at_call 82; go_loud ((with_reducible refine (HD.out _ hg).mono ?_); rintro e w1 ⟨rfl, hrun, hk1, hrest⟩; have HRUN := hid hrun; have HREST := hid hrest; have HK1 := hid ((Grew.keeps (may := fun k _ => k = b ∨ k = g) g0).trans ((Grew.keeps hg).trans hk1)); have hcl := ((hrun.th.l i hi).trans HV.out); have hfz := (hrun.tobj.elim fun cur hto => frozen_of_row _ _ (i * 3 + 2) _ _ hto); clear hrun hk1 hrest))
    go_ret
    obtain ⟨cur, c1, c2, c3⟩ := HREST.out
    have hA := YAll.swept HY.out hi HV.out (w1 := w1) (v' := .slice (some ⟨g, off, none⟩) ns (c + 1)) (by rfl) (by rw [HL.out]; exact HRUN.out) (HK1.out.mono (fun k _ e => e.imp id (fun e => by rw [e]; rfl)))
      (by rw [HL.out, ← HNS.out]; exact .inr ⟨rfl, Seg.of_cells c1 (by rw [HNS.out]; exact hnsc) hcm' (by omega) (by rw [HNS.out]; exact c3)⟩)
    refine ⟨ret_int HR.out.symm, hA.yard, (HK1.out.mono (fun k _ e => ?_)).trans (keeps_store_in _ _ _ _ (by rw [HY.out.fp]; simp))⟩
    rw [HY.out.fp]
    rcases e with rfl | rfl
    · simp
    · exact List.mem_cons_of_mem _ (List.mem_cons_of_mem _ HGF.out)

end Go.Proofs.Ytcifpigjcfkhmaa
