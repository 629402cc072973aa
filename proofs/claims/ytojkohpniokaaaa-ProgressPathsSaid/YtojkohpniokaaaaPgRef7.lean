/- Walks of the reference: Reached (52). -/
import Derived.Test.YtojkohpniokaaaaPgRef6
namespace Go.Proofs.Ytojkohpniokaaaa
open Go Go.RowKit Go.Lin Go.Lin.Pg

set_option maxHeartbeats 4000000 in
set_option maxRecDepth 20000 in
theorem rReached52_any (v : Value) (g : Gr) (w : World) (hv : IsGr w v g) :
    Calls Try.prog 52 #[v] w fun e w' => ∃ u, e = .returned (.tuple #[u, .int .i64 (reachedA g).2]) ∧ Grew w w' ∧ IsWd w' u (reachedA g).1 := by
  have HV := hid hv
  obtain ⟨s, rfl, -⟩ := hv
  obtain ⟨W0, hW0, g0, k0, k1, hz⟩ := box2 w (.int .i64 g.n) s 24
  have HG0 := hid g0
  have HVA := hid (rValid16_any _ g W0 (HV.out.grew g0))
  obtain ⟨b, hb⟩ : ∃ b, valid g = b := ⟨_, rfl⟩
  have hr : reachedA g = if b then (reachedM g.ms g.N, 0) else ([], 70) := by unfold reachedA; rw [hb]
  rw [hr]
  rw [hb] at HVA
  clear hr
  cases b with
  | false =>
    simp only [Bool.false_eq_true, if_false]
    clear hb
    go_enter Try.func52, Try.ntmps52
    go_wp2_with (go_at_call 16; (with_reducible refine HVA.out.mono ?_); rintro e w1 ⟨rfl, hx⟩; have HX := hid hx; clear hx)
    go_ret2
    exact ⟨_, rfl, grew_trans HG0.out HX.out, wd_nil _⟩
  | true =>
    simp only [if_true]
    have hG := gOk_valid hb
    obtain ⟨N, hN⟩ : ∃ N, g.N = N := ⟨_, rfl⟩
    rw [hN] at hG ⊢
    have hN8 := hG.h8
    have HG := hid hG
    have HI := hid (fun (W' : World) (h : Grew W0 W') => reached71_any g N HG.out (.agg #[.int .i64 g.n, s]) W' (HV.out.grew (grew_trans HG0.out h)))
    clear hb hG hN
    go_enter Try.func52, Try.ntmps52
    go_wp2_with (first
      | (go_at_call 16; (with_reducible refine HVA.out.mono ?_); rintro e w1 ⟨rfl, hx⟩; have HX := hid hx; have k0' := (hx.cell (p := ⟨w.heap.size, 0, none⟩) hz).trans k0; have k1' := (hx.cell (p := ⟨w.heap.size, 1, none⟩) hz).trans k1; clear hx)
      | (go_at_call 71; (with_reducible refine (HI.out _ HX.out).mono ?_); rintro e w2 ⟨T, rfl, hy, hT, hr⟩; have HY := hid hy; have HT := hid hr; clear hy hT hr))
    have HGW := hid (grew_trans HG0.out (grew_trans HX.out HY.out))
    clear k0 k1 k0' k1' hW0 g0
    go_loopg [4, 5, 6, 13] N (fun k lv _ _ i wr => ∃ (j : Nat), j ≤ N ∧ i = .int .i64 (j : Int) ∧ Hid (k = N - j) ∧ Hid (Grew w2 wr) ∧ Hid (Seg wr w2.heap.size 3 1 lv (reachedTo g.ms j).length ((reachedTo g.ms j).map (.int .i64))))
    case atStart => exact ⟨0, by omega, rfl, hid rfl, hid (grew_refl _), hid (Seg.nil _ _ _ _)⟩
    case round =>
      obtain ⟨j, hj, rfl, HK, HGR, HSEG⟩ := hrel
      rename World => wr
      rename Value => lv
      have hrun := HT.out.grew HGR.out
      obtain ⟨la, lc, rfl, _⟩ := HSEG.out.shape
      obtain ⟨ln, hln⟩ : ∃ ln, (reachedTo g.ms j).length = ln := ⟨_, rfl⟩
      have HLN := hid hln
      have hln8 : ln ≤ 8 := by have := reachedTo_len g.ms j; omega
      rw [hln] at HSEG ⊢
      clear hln
      by_cases hlt : j < N
      · have hjI : (j : Int) < (N : Int) := by omega
        have HLT := hid hlt
        obtain ⟨ct, _⟩ := hrun.cell hlt
        rw [reachR_eq HG.out.h1 HG.out.h8 HG.out.inN] at ct
        have hTl := hrun.lt
        have hsu := reachedTo_succ g.ms j
        obtain ⟨rb, hrb⟩ : ∃ b, reachB g.ms (j : Int) = b := ⟨_, rfl⟩
        rw [hrb] at ct hsu
        clear hrun hrb
        cases rb with
        | false =>
          have HSU := hid (show reachedTo g.ms (j + 1) = reachedTo g.ms j by rw [hsu]; rfl)
          clear hsu
          go_wp2
          go_roundg (N - (j + 1))
          case measure => have := HK.out; have := HLT.out; omega
          case rel => exact ⟨j + 1, by have := HLT.out; omega, by go_num, hid rfl, HGR, hid (by rw [HSU.out, HLN.out]; exact HSEG.out)⟩
        | true =>
          have HSU := hid (show reachedTo g.ms (j + 1) = reachedTo g.ms j ++ [(j : Int)] by rw [hsu]; rfl)
          clear hsu
          go_wp2_with (at_builtin; refine wpList_append_one rfl _ _ 25 rfl w2.heap.size 3 Try.underlying25 Try.info3 rfl (by decide) _ ln _ rfl (HSEG.out.alloc _) _ _ _ rfl (one_new _ _ _) rfl (by omega) ?_ ?_; (simp only [World.size_alloc]; have := HGR.out.size; omega); intro v9 w9 hown9 hgrow9 hblk9; have HO9 := hid hown9; have HG9 := hid ((HGR.out.alloc HGR.out.size (.cells #[.int .i64 (j : Int)] 3)).grown hgrow9 ((HGR.out.alloc HGR.out.size _).size) (fun k e => (HSEG.out.own k e).1)); obtain ⟨qa, qc, rfl, _⟩ := hown9.shape; clear hown9 hgrow9 hblk9)
          go_roundg (N - (j + 1))
          case measure => have := HK.out; have := HLT.out; omega
          case rel => exact ⟨j + 1, by have := HLT.out; omega, by go_num, hid rfl, HG9, hid (by rw [HSU.out, List.map_append, List.length_append, HLN.out]; exact HO9.out)⟩
      · obtain rfl : j = N := by omega
        go_wp2
        go_ret2
        exact ⟨_, rfl, grew_trans HGW.out HGR.out, wd_seg HSEG.out HLN.out⟩
end Go.Proofs.Ytojkohpniokaaaa
