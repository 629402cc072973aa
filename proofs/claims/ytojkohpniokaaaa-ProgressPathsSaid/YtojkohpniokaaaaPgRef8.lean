/- Walks of the reference: Ends (55). -/
import Derived.Test.YtojkohpniokaaaaPgRef7
namespace Go.Lin.Pg
def endsTo (ms : List Mv) (j : Nat) : List Int := kept (fun p => ms.any (fun m => fr m == p)) (reachedTo ms j)
theorem endsTo_succ (ms : List Mv) (j : Nat) : endsTo ms (j + 1) = if (reachB ms (j : Int) && !ms.any (fun m => fr m == (j : Int))) = true then endsTo ms j ++ [(j : Int)] else endsTo ms j := by
  unfold endsTo
  rw [reachedTo_succ]
  cases hr : reachB ms (j : Int) with
  | false => simp
  | true =>
    simp only [if_true, Bool.true_and]
    rw [kept_snoc]
    cases ms.any (fun m => fr m == (j : Int)) <;> simp
theorem endsTo_len (ms : List Mv) (j : Nat) : (endsTo ms j).length ≤ j := Nat.le_trans (List.length_filter_le _ _) (reachedTo_len ms j)
/-- Whether none of the first k moves leads from p. -/
def noneFrom (ms : List Mv) (p : Int) (k : Nat) : Bool := !(ms.take k).any (fun m => fr m == p)
theorem noneFrom_succ {ms : List Mv} {p : Int} {k : Nat} {m : Mv} (h : ms[k]? = some m) : noneFrom ms p (k + 1) = (noneFrom ms p k && !(fr m == p)) := by
  unfold noneFrom
  rw [take_add_getM h, List.any_append, Bool.not_or]
  simp
end Go.Lin.Pg
namespace Go.Proofs.Ytojkohpniokaaaa
open Go Go.RowKit Go.Lin Go.Lin.Pg

set_option maxHeartbeats 4000000 in
set_option maxRecDepth 20000 in
theorem rEnds55_any (v : Value) (g : Gr) (w : World) (hv : IsGr w v g) :
    Calls Try.prog 55 #[v] w fun e w' => ∃ u, e = .returned (.tuple #[u, .int .i64 (endsA g).2]) ∧ Grew w w' ∧ IsWd w' u (endsA g).1 := by
  have HV := hid hv
  obtain ⟨s, rfl, hmv⟩ := hv
  obtain ⟨n, hn⟩ : ∃ n, g.ms.length = n := ⟨_, rfl⟩
  obtain ⟨va, vc, rfl, ⟨hm1, hm2⟩, hmvs⟩ := hmv
  rw [hn] at hm1 hm2 HV ⊢
  have HMVS := hid hmvs; have HN := hid hn
  clear hmvs hn
  obtain ⟨W0, hW0, g0, k0, k1, hz⟩ := box2 w (.int .i64 g.n) (.slice va n vc) 24
  have HG0 := hid g0
  have HVA := hid (rValid16_any _ g W0 (HV.out.grew g0))
  obtain ⟨b, hb⟩ : ∃ b, valid g = b := ⟨_, rfl⟩
  have hr : endsA g = if b then (endsM g.ms g.N, 0) else ([], 70) := by unfold endsA; rw [hb]
  rw [hr]
  rw [hb] at HVA
  clear hr
  cases b with
  | false =>
    simp only [Bool.false_eq_true, if_false]
    clear hb
    go_enter Try.func55, Try.ntmps55
    go_wp2_with (go_at_call 16; (with_reducible refine HVA.out.mono ?_); rintro e w1 ⟨rfl, hx⟩; have HX := hid hx; clear hx)
    go_ret2
    exact ⟨_, rfl, grew_trans HG0.out HX.out, wd_nil _⟩
  | true =>
    simp only [if_true]
    have hG := gOk_valid hb
    have hn20 : n ≤ 20 := by have h := valid_20 hb; rw [HN.out] at h; exact h
    obtain ⟨N, hN⟩ : ∃ N, g.N = N := ⟨_, rfl⟩
    rw [hN] at hG ⊢
    have hN8 := hG.h8
    have HG := hid hG
    have HI := hid (fun (W' : World) (h : Grew W0 W') => reached71_any g N HG.out (.agg #[.int .i64 g.n, .slice va n vc]) W' (HV.out.grew (grew_trans HG0.out h)))
    clear hb hG hN
    go_enter Try.func55, Try.ntmps55
    go_wp2_with (first
      | (go_at_call 16; (with_reducible refine HVA.out.mono ?_); rintro e w1 ⟨rfl, hx⟩; have HX := hid hx; have k0' := (hx.cell (p := ⟨w.heap.size, 0, none⟩) hz).trans k0; have k1' := (hx.cell (p := ⟨w.heap.size, 1, none⟩) hz).trans k1; have hzx := Nat.lt_of_lt_of_le hz hx.size; clear hx)
      | (go_at_call 71; (with_reducible refine (HI.out _ HX.out).mono ?_); rintro e w2 ⟨T, rfl, hy, hT, hr⟩; have HY := hid hy; have HT := hid hr; have HK1 := hid ((hy.cell (p := ⟨w.heap.size, 1, none⟩) hzx).trans k1'); have hzy := Nat.lt_of_lt_of_le hzx hy.size; clear hy hT hr))
    have HGW := hid (grew_trans HG0.out (grew_trans HX.out HY.out))
    clear k0 k1 k0' k1' hW0 g0
    go_loopg [4, 5, 6, 15] N (fun k lv _ _ i wr => ∃ (j : Nat), j ≤ N ∧ i = .int .i64 (j : Int) ∧ Hid (k = N - j) ∧ Hid (Grew w2 wr) ∧ Hid (Seg wr w2.heap.size 3 1 lv (endsTo g.ms j).length ((endsTo g.ms j).map (.int .i64))))
    case atStart => exact ⟨0, by omega, rfl, hid rfl, hid (grew_refl _), hid (Seg.nil _ _ _ _)⟩
    case round =>
      obtain ⟨j, hj, rfl, HK, HGR, HSEG⟩ := hrel
      rename World => wr
      rename Value => lv
      have hrun := HT.out.grew HGR.out
      obtain ⟨la, lc, rfl, _⟩ := HSEG.out.shape
      obtain ⟨ln, hln⟩ : ∃ ln, (endsTo g.ms j).length = ln := ⟨_, rfl⟩
      have HLN := hid hln
      have hln8 : ln ≤ 8 := by have := endsTo_len g.ms j; omega
      rw [hln] at HSEG ⊢
      clear hln
      by_cases hlt : j < N
      · have hjI : (j : Int) < (N : Int) := by omega
        have HLT := hid hlt
        obtain ⟨ct, _⟩ := hrun.cell hlt
        rw [reachR_eq HG.out.h1 HG.out.h8 HG.out.inN] at ct
        have hTl := hrun.lt
        have hsu := endsTo_succ g.ms j
        obtain ⟨rb, hrb⟩ : ∃ b, reachB g.ms (j : Int) = b := ⟨_, rfl⟩
        rw [hrb] at ct hsu
        have k1r := (HGR.out.cell (p := ⟨w.heap.size, 1, none⟩) hzy).trans HK1.out
        have hzr := Nat.lt_of_lt_of_le hzy HGR.out.size
        have HSU := hid hsu
        clear hrun hrb hsu
        go_wp2
        clear k1r ct
        go_loopg [6, 8, 23] n (fun k is _ i wq => ∃ (q : Nat), q ≤ n ∧ i = .int .i64 (q : Int) ∧ is = .bool (rb && noneFrom g.ms (j : Int) q) ∧ Hid (k = n - q) ∧ Hid (Grew wr wq))
        case atStart => exact ⟨0, by omega, rfl, by simp [noneFrom], hid rfl, hid (grew_refl _)⟩
        case round =>
          obtain ⟨q, hq, rfl, rfl, HKQ, HGQ⟩ := hrel
          rename World => wq
          have HGI := hid (grew_trans HGW.out (grew_trans HGR.out HGQ.out))
          obtain ⟨nb, hnb⟩ : ∃ b, noneFrom g.ms (j : Int) q = b := ⟨_, rfl⟩
          have HNB := hid hnb
          rw [hnb]
          clear hnb
          by_cases hqn : q < n
          · obtain ⟨x, hx⟩ : ∃ x, g.ms[q]? = some x := ⟨_, List.getElem?_eq_getElem (by rw [HN.out]; exact hqn)⟩
            obtain ⟨bb, boff, rfl, hpa⟩ := HMVS.out q x hx
            have hpa2 := hpa.grew hpa.lt HGI.out
            have p0 := hpa2.c0
            have p1 := hpa2.c1
            have p2 := hpa2.c2
            have p3 := hpa2.c3
            have hplt := hpa2.lt
            obtain ⟨Y1, hY1, e1, hb1⟩ := box4v wq x
            have l0 := hb1.c0
            have l1 := hb1.c1
            have l2 := hb1.c2
            have l3 := hb1.c3
            have hzl := hb1.lt
            have HE1 := hid e1
            have hqI : (q : Int) < (n : Int) := by omega
            have HQN := hid hqn
            have hns := noneFrom_succ (p := (j : Int)) hx
            rw [HNB.out] at hns
            obtain ⟨x1, x2, x3, x4⟩ := x
            simp only [fr] at hns
            simp only [Nat.zero_add] at p0 p1 p2 p3 l0 l1 l2 l3 hY1
            obtain ⟨eb, heb⟩ : ∃ b, (x1 == (j : Int)) = b := ⟨_, rfl⟩
            have heb2 : (x1 != (j : Int)) = !eb := by rw [← heb]; rfl
            rw [heb] at hns
            have HNS := hid hns
            clear hx hpa hpa2 hb1 hns e1
            cases rb <;> cases nb <;> cases eb
            all_goals (
              go_wp2
              go_roundg (n - (q + 1))
              case measure => have := HKQ.out; have := HQN.out; omega
              case rel => exact ⟨q + 1, by have := HQN.out; omega, by have := HQN.out; go_num, by rw [HNS.out]; rfl, hid rfl, hid (grew_trans HGQ.out HE1.out)⟩)
          · obtain rfl : q = n := by omega
            have hall : noneFrom g.ms (j : Int) q = !g.ms.any (fun m => fr m == (j : Int)) := by unfold noneFrom; rw [List.take_of_length_le (by rw [HN.out]; exact Nat.le_refl _)]
            have HSU2 := hid (show endsTo g.ms (j + 1) = if (rb && nb) = true then endsTo g.ms j ++ [(j : Int)] else endsTo g.ms j by rw [HSU.out, ← hall, HNB.out])
            have HSEGQ := hid (HSEG.out.grew HGQ.out)
            have HGRQ := hid (grew_trans HGR.out HGQ.out)
            clear hall
            obtain ⟨ib, hib⟩ : ∃ b, (rb && nb) = b := ⟨_, rfl⟩
            rw [hib] at HSU2 ⊢
            clear hib
            cases ib with
            | true =>
              have HS3 := hid (show endsTo g.ms (j + 1) = endsTo g.ms j ++ [(j : Int)] by rw [HSU2.out]; rfl)
              go_wp2_with (at_builtin; refine wpList_append_one rfl _ _ 25 rfl w2.heap.size 3 Try.underlying25 Try.info3 rfl (by decide) _ ln _ rfl (HSEGQ.out.alloc _) _ _ _ rfl (one_new _ _ _) rfl (by omega) ?_ ?_; (simp only [World.size_alloc]; have := HGRQ.out.size; omega); intro v9 w9 hown9 hgrow9 hblk9; have HO9 := hid hown9; have HG9 := hid ((HGRQ.out.alloc HGRQ.out.size (.cells #[.int .i64 (j : Int)] 3)).grown hgrow9 ((HGRQ.out.alloc HGRQ.out.size _).size) (fun k e => (HSEGQ.out.own k e).1)); obtain ⟨qa, qc, rfl, _⟩ := hown9.shape; clear hown9 hgrow9 hblk9)
              go_roundg (N - (j + 1))
              case measure => have := HK.out; have := HLT.out; omega
              case rel => exact ⟨j + 1, by have := HLT.out; omega, by have := HLT.out; go_num, hid rfl, HG9, hid (by rw [HS3.out, List.map_append, List.length_append, HLN.out]; exact HO9.out)⟩
            | false =>
              have HS3 := hid (show endsTo g.ms (j + 1) = endsTo g.ms j by rw [HSU2.out]; rfl)
              go_wp2
              go_roundg (N - (j + 1))
              case measure => have := HK.out; have := HLT.out; omega
              case rel => exact ⟨j + 1, by have := HLT.out; omega, by have := HLT.out; go_num, hid rfl, HGRQ, hid (by rw [HS3.out, HLN.out]; exact HSEGQ.out)⟩
      · obtain rfl : j = N := by omega
        go_wp2
        go_ret2
        exact ⟨_, rfl, grew_trans HGW.out HGR.out, wd_seg HSEG.out HLN.out⟩
end Go.Proofs.Ytojkohpniokaaaa
