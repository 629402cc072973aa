/- The law ProgressLongest (5). Printed by gen_pglongest.py. -/
import Derived.Test.YtojkohpniokaaaaPgLongP
import Derived.Test.YtojkohpniokaaaaPgPath
namespace Go.Lin.Pg
theorem great_pair (g : Gr) {c t : Int} (ha : askM g c t = 0) : ∃ b, hol g c t = b ∧ greatA g c t = (if b then (maxI (ranksM g.ms g.N c t), 0) else (0, 5)) ∧ ranksA g c t = (if b then (ranksM g.ms g.N c t, 0) else ([], 5)) := by
  refine ⟨_, rfl, ?_, ?_⟩
  · unfold greatA; rw [if_pos ha]
  · unfold ranksA; rw [if_pos ha]
/-- Whether the first j moves are not Done; whether those of t are not. -/
def quietI (ms : List Mv) (l : List Int) : Bool := allI ms (fun m => !dn m) l
def ownI (ms : List Mv) (t : Int) (l : List Int) : Bool := allI ms (fun m => !(th m == t) || !dn m) l
theorem allI_nil {ms : List Mv} {p : Mv → Bool} : allI ms p [] = true := rfl
theorem quiet_wi {ms : List Mv} {l : List Int} (h : quietI ms l = true) : allI ms (wi 0 0) l = true := h
theorem own_wi {ms : List Mv} {t : Int} {l : List Int} (h : ownI ms t l = true) : allI ms (wi 1 t) l = true := h
theorem ownN_le (ms : List Mv) (t : Int) (l : List Int) : ownN ms t l ≤ l.length := List.countP_le_length
end Go.Lin.Pg
namespace Go.Proofs.Ytojkohpniokaaaa
open Go Go.RowKit Go.Lin Go.Lin.Pg

theorem wd_shape {w : World} {v : Value} {l : List Int} (h : IsWd w v l) : ∃ a n c, v = .slice a n c := let ⟨a, c, e⟩ := isWd_slice h; ⟨a, _, c, e⟩

set_option maxHeartbeats 16000000 in
set_option maxRecDepth 20000 in
theorem progressLongest_law (g : Gr) (t0 : Int) (path : List Int) (v pv : Value) (w : World) (hn : -9223372036854775808 ≤ g.n ∧ g.n ≤ 9223372036854775807) (ht0 : 0 ≤ t0 ∧ t0 ≤ 255) (hv : IsGr w v g) (hp : IsWd w pv path) :
    Calls Try.prog 5 #[v, .int .u8 t0, pv] w fun e w' => e = .returned (.bool true) ∧ Grew w w' := by
  have HV := hid hv
  obtain ⟨s, rfl, hmv0⟩ := hv
  obtain ⟨gl, hgl⟩ : ∃ gl, g.ms.length = gl := ⟨_, rfl⟩
  obtain ⟨sa, sc, rfl, ⟨hgl1, hgl2⟩, hmvs0⟩ := hmv0
  rw [hgl] at HV hgl1 hgl2 ⊢
  have HGL := hid hgl
  have HMVS := hid hmvs0
  clear hmvs0 hgl
  obtain ⟨w0, hw0, g0, cp0, cq0, hz0⟩ := box2 w (.int .i64 g.n) (.slice sa gl sc) 24
  have HG0 := hid g0
  have HAW := hid (fun (W : World) (_ : Grew w W) => awake17_any W)
  have HLO := hid (fun (W : World) (h : Grew w W) => long15_any _ g W (HV.out.grew h))
  have HPW := hid hp
  have HVA := hid (fun (W : World) (h : Grew w W) => rValid16_any _ g W (HV.out.grew h))
  have HMA := hid (fun (W : World) (h : Grew w W) => many26_any pv path W (hp.grew h))
  obtain ⟨lo, hlo⟩ : ∃ b, decide ((g.ms.length : Int) > 100) = b := ⟨_, rfl⟩
  obtain ⟨ma, hma⟩ : ∃ b, decide ((path.length : Int) > 1100) = b := ⟨_, rfl⟩
  obtain ⟨vb, hvb⟩ : ∃ b, valid g = b := ⟨_, rfl⟩
  rw [hlo] at HLO
  rw [hma] at HMA
  rw [hvb] at HVA
  obtain ⟨pl, hpl⟩ : ∃ n, path.length = n := ⟨_, rfl⟩
  obtain ⟨pa, pc, rfl, hpm, hpc⟩ := hp.ints
  rw [hpl] at HPW HMA hpc ⊢
  have HPL := hid hpl
  have HVB := hid hvb
  have HPC := hid hpc
  have HMAE := hid hma
  clear hlo hma hp hpl hvb hpc hpm
  cases lo with
  | true =>
    go_enter Try.func5, Try.ntmps5
    go_wp2_with (first
      | (go_at_call 15; (with_reducible refine (HLO.out  _ HG0.out).mono ?_); rintro e w1 ⟨rfl, hx⟩; have cp1 := (hx.cell (p := ⟨w.heap.size, 0, none⟩) hz0).trans cp0; have cq1 := (hx.cell (p := ⟨w.heap.size, 1, none⟩) hz0).trans cq0; have hz1 := Nat.lt_of_lt_of_le hz0 hx.size; have HG1 := hid (grew_trans HG0.out hx); clear hx)
      | (go_at_call 17; (with_reducible refine (HAW.out  _ HG1.out).mono ?_); rintro e w2 ⟨rfl, hx⟩; have cp2 := (hx.cell (p := ⟨w.heap.size, 0, none⟩) hz1).trans cp1; have cq2 := (hx.cell (p := ⟨w.heap.size, 1, none⟩) hz1).trans cq1; have hz2 := Nat.lt_of_lt_of_le hz1 hx.size; have HG2 := hid (grew_trans HG1.out hx); clear hx))
    go_ret
    exact ⟨rfl, HG2.out⟩
  | false =>
    cases vb with
    | false =>
      go_enter Try.func5, Try.ntmps5
      go_wp2_with (first
        | (go_at_call 15; (with_reducible refine (HLO.out  _ HG0.out).mono ?_); rintro e w1 ⟨rfl, hx⟩; have cp1 := (hx.cell (p := ⟨w.heap.size, 0, none⟩) hz0).trans cp0; have cq1 := (hx.cell (p := ⟨w.heap.size, 1, none⟩) hz0).trans cq0; have hz1 := Nat.lt_of_lt_of_le hz0 hx.size; have HG1 := hid (grew_trans HG0.out hx); clear hx)
        | (go_at_call 16; (with_reducible refine (HVA.out  _ HG1.out).mono ?_); rintro e w2 ⟨rfl, hx⟩; have cp2 := (hx.cell (p := ⟨w.heap.size, 0, none⟩) hz1).trans cp1; have cq2 := (hx.cell (p := ⟨w.heap.size, 1, none⟩) hz1).trans cq1; have hz2 := Nat.lt_of_lt_of_le hz1 hx.size; have HG2 := hid (grew_trans HG1.out hx); clear hx)
        | (go_at_call 17; (with_reducible refine (HAW.out  _ HG2.out).mono ?_); rintro e w3 ⟨rfl, hx⟩; have cp3 := (hx.cell (p := ⟨w.heap.size, 0, none⟩) hz2).trans cp2; have cq3 := (hx.cell (p := ⟨w.heap.size, 1, none⟩) hz2).trans cq2; have hz3 := Nat.lt_of_lt_of_le hz2 hx.size; have HG3 := hid (grew_trans HG2.out hx); clear hx))
      go_ret
      exact ⟨rfl, HG3.out⟩
    | true =>
     cases ma with
     | true =>
      go_enter Try.func5, Try.ntmps5
      go_wp2_with (first
        | (go_at_call 15; (with_reducible refine (HLO.out  _ HG0.out).mono ?_); rintro e w1 ⟨rfl, hx⟩; have cp1 := (hx.cell (p := ⟨w.heap.size, 0, none⟩) hz0).trans cp0; have cq1 := (hx.cell (p := ⟨w.heap.size, 1, none⟩) hz0).trans cq0; have hz1 := Nat.lt_of_lt_of_le hz0 hx.size; have HG1 := hid (grew_trans HG0.out hx); clear hx)
        | (go_at_call 16; (with_reducible refine (HVA.out  _ HG1.out).mono ?_); rintro e w2 ⟨rfl, hx⟩; have cp2 := (hx.cell (p := ⟨w.heap.size, 0, none⟩) hz1).trans cp1; have cq2 := (hx.cell (p := ⟨w.heap.size, 1, none⟩) hz1).trans cq1; have hz2 := Nat.lt_of_lt_of_le hz1 hx.size; have HG2 := hid (grew_trans HG1.out hx); clear hx)
        | (go_at_call 26; (with_reducible refine (HMA.out  _ HG2.out).mono ?_); rintro e w3 ⟨rfl, hx⟩; have cp3 := (hx.cell (p := ⟨w.heap.size, 0, none⟩) hz2).trans cp2; have cq3 := (hx.cell (p := ⟨w.heap.size, 1, none⟩) hz2).trans cq2; have hz3 := Nat.lt_of_lt_of_le hz2 hx.size; have HG3 := hid (grew_trans HG2.out hx); clear hx)
        | (go_at_call 17; (with_reducible refine (HAW.out  _ HG3.out).mono ?_); rintro e w4 ⟨rfl, hx⟩; have cp4 := (hx.cell (p := ⟨w.heap.size, 0, none⟩) hz3).trans cp3; have cq4 := (hx.cell (p := ⟨w.heap.size, 1, none⟩) hz3).trans cq3; have hz4 := Nat.lt_of_lt_of_le hz3 hx.size; have HG4 := hid (grew_trans HG3.out hx); clear hx))
      go_ret
      exact ⟨rfl, HG4.out⟩
     | false =>
      have hpl11 : pl ≤ 1100 := by have h := HMAE.out; rw [HPL.out] at h; have h2 := of_decide_eq_false h; omega
      have hG := gOk_valid HVB.out
      have hty : isTh (t0 % 3) = true := by unfold isTh; simp; omega
      obtain ⟨t, ht⟩ : ∃ t, t0 % 3 = t := ⟨_, rfl⟩
      have HT := hid ht
      rw [ht] at hty
      have hask0 : askM g 0 0 = 0 := by unfold askM; rw [if_pos HVB.out]; rfl
      have hask1 : askM g 1 t = 0 := by unfold askM; rw [if_pos HVB.out, if_pos]; unfold clOk; rw [hty]; rfl
      obtain ⟨b0, hb0, hg0, hr0⟩ := great_pair g hask0
      obtain ⟨b1, hb1, hg1, hr1⟩ := great_pair g hask1
      obtain ⟨N, hN⟩ : ∃ N, g.N = N := ⟨_, rfl⟩
      rw [hN] at hG hg0 hr0 hg1 hr1
      have hN8 := hG.h8; have hN1 := hG.h1
      have hol0 : holdsB g.ms N 0 0 = b0 := by rw [← hb0, ← hN]; rfl
      have hol1 : holdsB g.ms N 1 t = b1 := by rw [← hb1, ← hN]; rfl
      have hra : reachedA g = (reachedM g.ms N, 0) := by unfold reachedA; rw [HVB.out, hN]; rfl
      have hia : askI g path = (isPathB g.ms path, 0) := by unfold askI; rw [HVB.out]; rfl
      have H1 := hid (fun (W : World) (h : Grew w W) => longest27_any _ g W hn (HV.out.grew h))
      have H2 := hid (fun (W : World) (h : Grew w W) => ranks18_any _ g 0 0 W hn (HV.out.grew h))
      have H3 := hid (fun (W : World) (h : Grew w W) => bound28_any _ g t W hn (HV.out.grew h))
      have H4 := hid (fun (W : World) (h : Grew w W) => ranks18_any _ g 1 t W hn (HV.out.grew h))
      have H5 := hid (fun (W : World) (h : Grew w W) => reached29_any _ g W hn (HV.out.grew h))
      have H6 := hid (fun (W : World) (h : Grew w W) => isPath30_any _ g (.slice pa pl pc) path W (HV.out.grew h) (HPW.out.grew h).ints)
      rw [hg0] at H1
      rw [hr0] at H2
      rw [hg1] at H3
      rw [hr1] at H4
      rw [hra] at H5
      rw [hia] at H6
      simp only at H5 H6
      have hmem : ∀ j, j < (reachedM g.ms N).length → ∃ p : Nat, nth (reachedM g.ms N) j = (p : Int) ∧ p < N := fun j hj => by
        rw [nth_lt hj]
        have hm := List.getElem_mem hj
        unfold reachedM at hm
        rw [List.mem_filter, List.mem_map] at hm
        obtain ⟨⟨q, hq, hq2⟩, _⟩ := hm
        exact ⟨q, by unfold reachedM; exact hq2.symm, List.mem_range.1 hq⟩
      have hlen : ∀ c t, (ranksM g.ms N c t).length = N := fun c t => by unfold ranksM; exact rounds_length _
      have hat : ∀ c t, maxI (ranksAt (ranksM g.ms N c t) (reachedM g.ms N)) = maxI (ranksM g.ms N c t) := fun c t => maxI_at (fun p _ h => ranks_off hG.h1 hG.h8 hG.inN h)
      have HTY := hid (fun (c t : Int) (u u6 : Value) (W : World) (hu : IsWd W u (ranksM g.ms N c t)) (hu6 : IsWd W u6 (reachedM g.ms N)) (_ : Grew w W) => top31_yes u u6 (ranksM g.ms N c t) (reachedM g.ms N) W hu.ints hu6.ints (fun j hj => by rw [hlen]; exact hmem j hj) (hat c t))
      have HTN := hid (fun (ra ta : Option Addr) (rc tn tc : Nat) (W : World) (_ : Grew w W) => top31_no ra ta rc tn tc 5 W (by decide))
      have HIN := hid (fun (u6 : Value) (x : Int) (W : World) (hu6 : IsWd W u6 (reachedM g.ms N)) (_ : Grew w W) => in32_any u6 (reachedM g.ms N) x W hu6.ints)
      simp only [contains_reached hG.h1 hG.h8 hG.inN] at HIN
      -- what the lengths say
      have hlong0 := fun (m0 : Mv) (hl : linksB g.ms path = true) (hne : path ≠ []) (h0 : mvI g.ms (nth path 0) = some m0) (hr : reachB g.ms (fr m0) = true) (hq : quietI g.ms path = true) (hb : b0 = true) => show (pl : Int) ≤ maxI (ranksM g.ms N 0 0) by
        obtain ⟨u, hu, hw⟩ := long_le hG.h1 hG.h8 hG.inN (by rw [hol0]; exact hb) hl hne h0 hr (quiet_wi hq)
        rw [wsum_len u (fun i hi => by
          have h1 : ((i : Nat) : Int) ∈ path := by rw [hu]; exact List.mem_map_of_mem hi
          obtain ⟨k, hk, he⟩ := List.getElem_of_mem h1
          have h2 := links_mv hl hk
          rw [nth_lt hk, he, mvI_nat] at h2
          obtain ⟨m, hm⟩ := h2
          rw [hm]; rfl)] at hw
        have h3 : u.length = pl := by rw [← HPL.out, hu]; simp [pInts]
        rw [← h3]; exact hw
      have hlong1 := fun (m0 : Mv) (hl : linksB g.ms path = true) (hne : path ≠ []) (h0 : mvI g.ms (nth path 0) = some m0) (hr : reachB g.ms (fr m0) = true) (hq : ownI g.ms t path = true) (hb : b1 = true) => show (ownN g.ms t path : Int) ≤ maxI (ranksM g.ms N 1 t) by
        obtain ⟨u, hu, hw⟩ := long_le hG.h1 hG.h8 hG.inN (by rw [hol1]; exact hb) hl hne h0 hr (own_wi hq)
        rw [wsum_own, ← hu] at hw
        exact hw
      have HL0 := hid hlong0; have HL1 := hid hlong1
      obtain ⟨ip, hip⟩ : ∃ b, isPathB g.ms path = b := ⟨_, rfl⟩
      rw [hip] at H6
      have HIP := hid hip
      obtain ⟨tl, htl⟩ : ∃ n, (reachedM g.ms N).length = n := ⟨_, rfl⟩
      have HTL := hid htl
      have HLEN := hid hlen
      clear hlong0 hlong1 hat hlen hmem hask0 hask1 hb0 hb1 hg0 hg1 hr0 hr1 hol0 hol1 hra hia hip htl hty hG hN
      have main : ∀ (b0 b1 ip : Bool), True := fun _ _ _ => trivial
      clear main
      cases b0 <;> cases b1
      · simp only [Bool.false_eq_true, if_false] at H1 H2 H3 H4
        go_enter Try.func5, Try.ntmps5
        go_wp2_with (first
          | (go_at_call 15; (with_reducible refine (HLO.out  _ HG0.out).mono ?_); rintro e w1 ⟨rfl, hx⟩; have cp1 := (hx.cell (p := ⟨w.heap.size, 0, none⟩) hz0).trans cp0; have cq1 := (hx.cell (p := ⟨w.heap.size, 1, none⟩) hz0).trans cq0; have hz1 := Nat.lt_of_lt_of_le hz0 hx.size; have HG1 := hid (grew_trans HG0.out hx); clear hx)
          | (go_at_call 16; (with_reducible refine (HVA.out  _ HG1.out).mono ?_); rintro e w2 ⟨rfl, hx⟩; have cp2 := (hx.cell (p := ⟨w.heap.size, 0, none⟩) hz1).trans cp1; have cq2 := (hx.cell (p := ⟨w.heap.size, 1, none⟩) hz1).trans cq1; have hz2 := Nat.lt_of_lt_of_le hz1 hx.size; have HG2 := hid (grew_trans HG1.out hx); clear hx)
          | (go_at_call 26; (with_reducible refine (HMA.out  _ HG2.out).mono ?_); rintro e w3 ⟨rfl, hx⟩; have cp3 := (hx.cell (p := ⟨w.heap.size, 0, none⟩) hz2).trans cp2; have cq3 := (hx.cell (p := ⟨w.heap.size, 1, none⟩) hz2).trans cq2; have hz3 := Nat.lt_of_lt_of_le hz2 hx.size; have HG3 := hid (grew_trans HG2.out hx); clear hx)
          | (go_at_call 27; (with_reducible refine (H1.out  _ HG3.out).mono ?_); rintro e w4 ⟨rfl, hx⟩; have cp4 := (hx.cell (p := ⟨w.heap.size, 0, none⟩) hz3).trans cp3; have cq4 := (hx.cell (p := ⟨w.heap.size, 1, none⟩) hz3).trans cq3; have hz4 := Nat.lt_of_lt_of_le hz3 hx.size; have HG4 := hid (grew_trans HG3.out hx); clear hx)
          | (go_at_call 18; (with_reducible refine (H2.out  _ HG4.out).mono ?_); rintro e w5 ⟨u2, rfl, hx, hu2⟩; have cp5 := (hx.cell (p := ⟨w.heap.size, 0, none⟩) hz4).trans cp4; have cq5 := (hx.cell (p := ⟨w.heap.size, 1, none⟩) hz4).trans cq4; have hz5 := Nat.lt_of_lt_of_le hz4 hx.size; have HG5 := hid (grew_trans HG4.out hx); obtain ⟨a2, c2, rfl⟩ : ∃ a c, u2 = .slice a 0 c := isWd_slice hu2; clear hu2; clear hx)
          | (go_at_call 28; (with_reducible refine (H3.out  _ HG5.out).mono ?_); rintro e w6 ⟨rfl, hx⟩; have cp6 := (hx.cell (p := ⟨w.heap.size, 0, none⟩) hz5).trans cp5; have cq6 := (hx.cell (p := ⟨w.heap.size, 1, none⟩) hz5).trans cq5; have hz6 := Nat.lt_of_lt_of_le hz5 hx.size; have HG6 := hid (grew_trans HG5.out hx); clear hx)
          | (go_at_call 18; (with_reducible refine (H4.out  _ HG6.out).mono ?_); rintro e w7 ⟨u4, rfl, hx, hu4⟩; have cp7 := (hx.cell (p := ⟨w.heap.size, 0, none⟩) hz6).trans cp6; have cq7 := (hx.cell (p := ⟨w.heap.size, 1, none⟩) hz6).trans cq6; have hz7 := Nat.lt_of_lt_of_le hz6 hx.size; have HG7 := hid (grew_trans HG6.out hx); obtain ⟨a4, c4, rfl⟩ : ∃ a c, u4 = .slice a 0 c := isWd_slice hu4; clear hu4; clear hx)
          | (go_at_call 29; (with_reducible refine (H5.out  _ HG7.out).mono ?_); rintro e w8 ⟨u5, rfl, hx, hu5⟩; have cp8 := (hx.cell (p := ⟨w.heap.size, 0, none⟩) hz7).trans cp7; have cq8 := (hx.cell (p := ⟨w.heap.size, 1, none⟩) hz7).trans cq7; have hz8 := Nat.lt_of_lt_of_le hz7 hx.size; have HG8 := hid (grew_trans HG7.out hx); obtain ⟨a5, c5, hue5⟩ := isWd_slice hu5; rw [HTL.out] at hue5; subst hue5; have U5 := hid hu5; clear hu5; clear hx)
          | (go_at_call 30; (with_reducible refine (H6.out  _ HG8.out).mono ?_); rintro e w9 ⟨rfl, hx⟩; have cp9 := (hx.cell (p := ⟨w.heap.size, 0, none⟩) hz8).trans cp8; have cq9 := (hx.cell (p := ⟨w.heap.size, 1, none⟩) hz8).trans cq8; have hz9 := Nat.lt_of_lt_of_le hz8 hx.size; have HG9 := hid (grew_trans HG8.out hx); have U5a := hid (U5.out.grew hx); clear hx)
          | (go_at_call 31; (with_reducible refine (HTN.out _ _ _ _ _ _ HG9.out).mono ?_); rintro e w10 ⟨rfl, hx⟩; have U5b := hid (U5a.out.grew hx); have cp10 := (hx.cell (p := ⟨w.heap.size, 0, none⟩) hz9).trans cp9; have cq10 := (hx.cell (p := ⟨w.heap.size, 1, none⟩) hz9).trans cq9; have hz10 := Nat.lt_of_lt_of_le hz9 hx.size; have HG10 := hid (grew_trans HG9.out hx); clear hx)
          | (go_at_call 31; (with_reducible refine (HTN.out _ _ _ _ _ _ HG10.out).mono ?_); rintro e w11 ⟨rfl, hx⟩; have U5c := hid (U5b.out.grew hx); have cp11 := (hx.cell (p := ⟨w.heap.size, 0, none⟩) hz10).trans cp10; have cq11 := (hx.cell (p := ⟨w.heap.size, 1, none⟩) hz10).trans cq10; have hz11 := Nat.lt_of_lt_of_le hz10 hx.size; have HG11 := hid (grew_trans HG10.out hx); clear hx))
        cases ip with
        | false =>
          refine wp_region_later (by kernel_rfl) (by kernel_rfl) (fun hL => ?_)
          repeat (go_big_quiet_step (fail))
          refine wpQuiet_nil ?_
          rintro wf ⟨zz, hzz⟩
          have hwf : Grew w11 wf := by rw [hzz]; exact zz.2
          clear hL hzz zz
          go_wp2_with (go_at_call 17; (with_reducible refine (HAW.out _ (grew_trans HG11.out hwf)).mono ?_); rintro e wz ⟨rfl, hx⟩)
          go_ret
          exact ⟨rfl, grew_trans (grew_trans HG11.out hwf) hx⟩
        | true =>
          by_cases hpl0 : pl = 0
          · subst hpl0
            refine wp_region_later (by kernel_rfl) (by kernel_rfl) (fun hL => ?_)
            repeat (go_big_quiet_step (fail))
            refine wpQuiet_nil ?_
            rintro wf ⟨zz, hzz⟩
            have hwf : Grew w11 wf := by rw [hzz]; exact zz.2
            clear hL hzz zz
            go_wp2_with (go_at_call 17; (with_reducible refine (HAW.out _ (grew_trans HG11.out hwf)).mono ?_); rintro e wz ⟨rfl, hx⟩)
            go_ret
            exact ⟨rfl, grew_trans (grew_trans HG11.out hwf) hx⟩
          · have hplI : ((pl : Int) == 0) = false := by simp [hpl0]
            have hplI0 : (0 : Int) < (pl : Int) := by omega
            have HLK := hid (show linksB g.ms path = true by have h := HIP.out; unfold isPathB at h; rw [Bool.and_eq_true] at h; exact h.1)
            have HNE := hid (show path ≠ [] from fun e => by have h := HPL.out; rw [e] at h; exact hpl0 h.symm)
            obtain ⟨m0, hm0⟩ := links_mv HLK.out (k := 0) (by rw [HPL.out]; omega)
            have HM0 := hid hm0
            obtain ⟨i0, bb0, off0, vb0, voff0, hi0, hi0I, rfl, c0, hbl0, rfl, hmm0⟩ := at_list HMVS.out HGL.out HPC.out HG11.out (show 0 < pl by omega) hm0
            simp only [Nat.add_zero] at c0
            have d0 := hmm0.c0
            have hlt0 := hmm0.lt
            have HL0x := hid (HL0.out m0 HLK.out HNE.out hm0)
            have HL1x := hid (HL1.out m0 HLK.out HNE.out hm0)
            obtain ⟨x1, x2, x3, x4⟩ := m0
            simp only at d0
            simp only [fr] at HL0x HL1x
            obtain ⟨rb, hrb⟩ : ∃ b, reachB g.ms x1 = b := ⟨_, rfl⟩
            rw [hrb] at HL0x HL1x
            have HINx := hid (fun (W : World) (h5 : IsWd W (.slice a5 tl c5) (reachedM g.ms N)) (h : Grew w W) => HIN.out (.slice a5 tl c5) x1 W h5 h)
            rw [hrb] at HINx
            clear hm0 hmm0 hrb
            cases rb with
            | false =>
              refine wp_region_later (by kernel_rfl) (by kernel_rfl) (fun hL => ?_)
              repeat (go_big_quiet_step ((go_at_call 32; exact calls_later (HINx.out _ (U5c.out.grew (Subtype.property _)) (grew_trans HG11.out (Subtype.property _))))))
              refine wpQuiet_nil ?_
              rintro wf ⟨zz, hzz⟩
              have hwf : Grew w11 wf := by rw [hzz]; exact zz.2
              clear hL hzz zz
              go_wp2_with (go_at_call 17; (with_reducible refine (HAW.out _ (grew_trans HG11.out hwf)).mono ?_); rintro e wz ⟨rfl, hx⟩)
              go_ret
              exact ⟨rfl, grew_trans (grew_trans HG11.out hwf) hx⟩
            | true =>
              refine wp_region_later (by kernel_rfl) (by kernel_rfl) (fun hL => ?_)
              repeat (go_big_quiet_step ((go_at_call 32; exact calls_later (HINx.out _ (U5c.out.grew (Subtype.property _)) (grew_trans HG11.out (Subtype.property _))))))
              refine wpQuiet_nil ?_
              rintro wf ⟨zz, hzz⟩
              have hwf : Grew w11 wf := by rw [hzz]; exact zz.2
              clear hL hzz zz
              have HW := hid (grew_trans HG11.out hwf)
              have C1 := hid ((hwf.cell (p := ⟨w.heap.size, 1, none⟩) hz11).trans cq11)
              have hzf := Nat.lt_of_lt_of_le hz11 hwf.size
              clear c0 d0 cp11 cq11 hwf
              go_wp2
              go_loopg [20, 21, 22, 24, 25, 145] pl (fun k sq so sm _ _ i wr => ∃ (j : Nat), j ≤ pl ∧ i = .int .i64 (j : Int) ∧ sq = .bool (quietI g.ms (path.take j)) ∧ so = .bool (ownI g.ms t (path.take j)) ∧ sm = .int .i64 (ownN g.ms t (path.take j) : Int) ∧ Hid (k = pl - j) ∧ Hid (Grew wf wr))
              case atStart => exact ⟨0, Nat.zero_le _, rfl, rfl, rfl, by simp [ownN], hid rfl, hid (grew_refl _)⟩
              case round =>
                obtain ⟨j, hj, rfl, rfl, rfl, rfl, HK, HGR⟩ := hrel
                rename World => wr
                have HGI := hid (grew_trans HW.out HGR.out)
                obtain ⟨qb, hqb⟩ : ∃ b, quietI g.ms (path.take j) = b := ⟨_, rfl⟩
                obtain ⟨ob, hob⟩ : ∃ b, ownI g.ms t (path.take j) = b := ⟨_, rfl⟩
                obtain ⟨nn, hnn⟩ : ∃ b, ownN g.ms t (path.take j) = b := ⟨_, rfl⟩
                have HQB := hid hqb; have HOB := hid hob; have HNN := hid hnn
                have hnn11 : nn ≤ 1100 := by rw [← hnn]; have h := ownN_le g.ms t (path.take j); rw [List.length_take] at h; omega
                rw [hqb, hob, hnn]
                clear hqb hob hnn
                by_cases hlt : j < pl
                · obtain ⟨m, hmv⟩ := links_mv HLK.out (k := j) (by rw [HPL.out]; exact hlt)
                  have hti : ∀ p, testI g.ms p (nth path j) = p m := fun p => by unfold testI; rw [hmv]
                  have hq1 := allI_take (ms := g.ms) (p := fun m => !dn m) (l := path) (j := j) (by rw [HPL.out]; exact hlt)
                  have ho1 := allI_take (ms := g.ms) (p := fun m => !(th m == t) || !dn m) (l := path) (j := j) (by rw [HPL.out]; exact hlt)
                  have hn1 := ownN_take (ms := g.ms) (t := t) (l := path) (j := j) (by rw [HPL.out]; exact hlt)
                  rw [hti] at hq1 ho1 hn1
                  have hq2 : quietI g.ms (path.take (j + 1)) = (qb && !dn m) := by rw [← HQB.out]; exact hq1
                  have ho2 : ownI g.ms t (path.take (j + 1)) = (ob && (!(th m == t) || !dn m)) := by rw [← HOB.out]; exact ho1
                  rw [HNN.out] at hn1
                  obtain ⟨i, _, _, _, _, hi, hiI, e1, cj, hbl, e2, hmm⟩ := at_list HMVS.out HGL.out HPC.out HGI.out hlt hmv
                  simp only [Option.some.injEq, Addr.mk.injEq, and_true] at e1 e2
                  obtain ⟨rfl, rfl⟩ := e1
                  obtain ⟨rfl, rfl⟩ := e2
                  have p0 := hmm.c0
                  have p1 := hmm.c1
                  have p2 := hmm.c2
                  have p3 := hmm.c3
                  have hplt := hmm.lt
                  have hltI : (j : Int) < (pl : Int) := by omega
                  have HLT := hid hlt
                  have v1 := (HGR.out.cell (p := ⟨w.heap.size, 1, none⟩) hzf).trans C1.out
                  have hzr := Nat.lt_of_lt_of_le hzf HGR.out.size
                  obtain ⟨Y1, hY1, g1, hb1⟩ := box4v wr m
                  have l0 := hb1.c0
                  have l1 := hb1.c1
                  have l2 := hb1.c2
                  have l3 := hb1.c3
                  have hzl := hb1.lt
                  have HE1 := hid g1
                  obtain ⟨z1, z2, z3, z4⟩ := m
                  simp only [th, dn] at hq2 ho2 hn1
                  simp only [Nat.zero_add] at p0 p1 p2 p3 l0 l1 l2 l3 hY1
                  obtain ⟨eb, heb⟩ : ∃ b, (z2 == t) = b := ⟨_, rfl⟩
                  rw [heb] at ho2 hn1
                  have HQ2 := hid hq2; have HO2 := hid ho2; have HN2 := hid hn1
                  clear hmm hmv hti hq1 ho1 hn1 hq2 ho2 hb1 g1
                  cases qb <;> cases ob <;> cases eb
                  all_goals (
                    go_wp2
                    go_roundg (pl - (j + 1))
                    case measure => have := HK.out; have := HLT.out; omega
                    case rel => exact ⟨j + 1, by have := HLT.out; omega, by have := HLT.out; go_num, by rw [HQ2.out]; rfl, by rw [HO2.out]; rfl, by rw [HN2.out]; go_num, hid rfl, hid (grew_trans HGR.out HE1.out)⟩)
                · obtain rfl : j = pl := by omega
                  have hq1 := HQB.out
                  have ho1 := HOB.out
                  have hn1 := HNN.out
                  rw [List.take_of_length_le (by rw [HPL.out]; exact Nat.le_refl _)] at hq1 ho1 hn1
                  have _hend := trivial
                  clear hq1 ho1 hn1 _hend
                  cases qb <;> cases ob
                  all_goals (
                    skip
                    go_wp2_with (go_at_call 17; (with_reducible refine (HAW.out _ HGI.out).mono ?_); rintro e wz ⟨rfl, hx⟩)
                    go_ret
                    exact ⟨rfl, grew_trans HGI.out hx⟩)
      · simp only [Bool.false_eq_true, if_false, if_true] at H1 H2 H3 H4
        go_enter Try.func5, Try.ntmps5
        go_wp2_with (first
          | (go_at_call 15; (with_reducible refine (HLO.out  _ HG0.out).mono ?_); rintro e w1 ⟨rfl, hx⟩; have cp1 := (hx.cell (p := ⟨w.heap.size, 0, none⟩) hz0).trans cp0; have cq1 := (hx.cell (p := ⟨w.heap.size, 1, none⟩) hz0).trans cq0; have hz1 := Nat.lt_of_lt_of_le hz0 hx.size; have HG1 := hid (grew_trans HG0.out hx); clear hx)
          | (go_at_call 16; (with_reducible refine (HVA.out  _ HG1.out).mono ?_); rintro e w2 ⟨rfl, hx⟩; have cp2 := (hx.cell (p := ⟨w.heap.size, 0, none⟩) hz1).trans cp1; have cq2 := (hx.cell (p := ⟨w.heap.size, 1, none⟩) hz1).trans cq1; have hz2 := Nat.lt_of_lt_of_le hz1 hx.size; have HG2 := hid (grew_trans HG1.out hx); clear hx)
          | (go_at_call 26; (with_reducible refine (HMA.out  _ HG2.out).mono ?_); rintro e w3 ⟨rfl, hx⟩; have cp3 := (hx.cell (p := ⟨w.heap.size, 0, none⟩) hz2).trans cp2; have cq3 := (hx.cell (p := ⟨w.heap.size, 1, none⟩) hz2).trans cq2; have hz3 := Nat.lt_of_lt_of_le hz2 hx.size; have HG3 := hid (grew_trans HG2.out hx); clear hx)
          | (go_at_call 27; (with_reducible refine (H1.out  _ HG3.out).mono ?_); rintro e w4 ⟨rfl, hx⟩; have cp4 := (hx.cell (p := ⟨w.heap.size, 0, none⟩) hz3).trans cp3; have cq4 := (hx.cell (p := ⟨w.heap.size, 1, none⟩) hz3).trans cq3; have hz4 := Nat.lt_of_lt_of_le hz3 hx.size; have HG4 := hid (grew_trans HG3.out hx); clear hx)
          | (go_at_call 18; (with_reducible refine (H2.out  _ HG4.out).mono ?_); rintro e w5 ⟨u2, rfl, hx, hu2⟩; have cp5 := (hx.cell (p := ⟨w.heap.size, 0, none⟩) hz4).trans cp4; have cq5 := (hx.cell (p := ⟨w.heap.size, 1, none⟩) hz4).trans cq4; have hz5 := Nat.lt_of_lt_of_le hz4 hx.size; have HG5 := hid (grew_trans HG4.out hx); obtain ⟨a2, c2, rfl⟩ : ∃ a c, u2 = .slice a 0 c := isWd_slice hu2; clear hu2; clear hx)
          | (go_at_call 28; (with_reducible refine (H3.out  _ HG5.out).mono ?_); rintro e w6 ⟨rfl, hx⟩; have cp6 := (hx.cell (p := ⟨w.heap.size, 0, none⟩) hz5).trans cp5; have cq6 := (hx.cell (p := ⟨w.heap.size, 1, none⟩) hz5).trans cq5; have hz6 := Nat.lt_of_lt_of_le hz5 hx.size; have HG6 := hid (grew_trans HG5.out hx); clear hx)
          | (go_at_call 18; (with_reducible refine (H4.out  _ HG6.out).mono ?_); rintro e w7 ⟨u4, rfl, hx, hu4⟩; have cp7 := (hx.cell (p := ⟨w.heap.size, 0, none⟩) hz6).trans cp6; have cq7 := (hx.cell (p := ⟨w.heap.size, 1, none⟩) hz6).trans cq6; have hz7 := Nat.lt_of_lt_of_le hz6 hx.size; have HG7 := hid (grew_trans HG6.out hx); obtain ⟨a4, c4, hue4⟩ := isWd_slice hu4; rw [HLEN.out] at hue4; subst hue4; have U4 := hid hu4; clear hu4; clear hx)
          | (go_at_call 29; (with_reducible refine (H5.out  _ HG7.out).mono ?_); rintro e w8 ⟨u5, rfl, hx, hu5⟩; have cp8 := (hx.cell (p := ⟨w.heap.size, 0, none⟩) hz7).trans cp7; have cq8 := (hx.cell (p := ⟨w.heap.size, 1, none⟩) hz7).trans cq7; have hz8 := Nat.lt_of_lt_of_le hz7 hx.size; have HG8 := hid (grew_trans HG7.out hx); have U4a := hid (U4.out.grew hx); obtain ⟨a5, c5, hue5⟩ := isWd_slice hu5; rw [HTL.out] at hue5; subst hue5; have U5 := hid hu5; clear hu5; clear hx)
          | (go_at_call 30; (with_reducible refine (H6.out  _ HG8.out).mono ?_); rintro e w9 ⟨rfl, hx⟩; have cp9 := (hx.cell (p := ⟨w.heap.size, 0, none⟩) hz8).trans cp8; have cq9 := (hx.cell (p := ⟨w.heap.size, 1, none⟩) hz8).trans cq8; have hz9 := Nat.lt_of_lt_of_le hz8 hx.size; have HG9 := hid (grew_trans HG8.out hx); have U4b := hid (U4a.out.grew hx); have U5a := hid (U5.out.grew hx); clear hx)
          | (go_at_call 31; (with_reducible refine (HTN.out _ _ _ _ _ _ HG9.out).mono ?_); rintro e w10 ⟨rfl, hx⟩; have U4c := hid (U4b.out.grew hx); have U5b := hid (U5a.out.grew hx); have cp10 := (hx.cell (p := ⟨w.heap.size, 0, none⟩) hz9).trans cp9; have cq10 := (hx.cell (p := ⟨w.heap.size, 1, none⟩) hz9).trans cq9; have hz10 := Nat.lt_of_lt_of_le hz9 hx.size; have HG10 := hid (grew_trans HG9.out hx); clear hx)
          | (go_at_call 31; (with_reducible refine (HTY.out 1 t _ _ _ U4c.out U5b.out HG10.out).mono ?_); rintro e w11 ⟨rfl, hx⟩; have U5c := hid (U5b.out.grew hx); have cp11 := (hx.cell (p := ⟨w.heap.size, 0, none⟩) hz10).trans cp10; have cq11 := (hx.cell (p := ⟨w.heap.size, 1, none⟩) hz10).trans cq10; have hz11 := Nat.lt_of_lt_of_le hz10 hx.size; have HG11 := hid (grew_trans HG10.out hx); clear hx))
        cases ip with
        | false =>
          refine wp_region_later (by kernel_rfl) (by kernel_rfl) (fun hL => ?_)
          repeat (go_big_quiet_step (fail))
          refine wpQuiet_nil ?_
          rintro wf ⟨zz, hzz⟩
          have hwf : Grew w11 wf := by rw [hzz]; exact zz.2
          clear hL hzz zz
          go_wp2_with (go_at_call 17; (with_reducible refine (HAW.out _ (grew_trans HG11.out hwf)).mono ?_); rintro e wz ⟨rfl, hx⟩)
          go_ret
          exact ⟨rfl, grew_trans (grew_trans HG11.out hwf) hx⟩
        | true =>
          by_cases hpl0 : pl = 0
          · subst hpl0
            refine wp_region_later (by kernel_rfl) (by kernel_rfl) (fun hL => ?_)
            repeat (go_big_quiet_step (fail))
            refine wpQuiet_nil ?_
            rintro wf ⟨zz, hzz⟩
            have hwf : Grew w11 wf := by rw [hzz]; exact zz.2
            clear hL hzz zz
            go_wp2_with (go_at_call 17; (with_reducible refine (HAW.out _ (grew_trans HG11.out hwf)).mono ?_); rintro e wz ⟨rfl, hx⟩)
            go_ret
            exact ⟨rfl, grew_trans (grew_trans HG11.out hwf) hx⟩
          · have hplI : ((pl : Int) == 0) = false := by simp [hpl0]
            have hplI0 : (0 : Int) < (pl : Int) := by omega
            have HLK := hid (show linksB g.ms path = true by have h := HIP.out; unfold isPathB at h; rw [Bool.and_eq_true] at h; exact h.1)
            have HNE := hid (show path ≠ [] from fun e => by have h := HPL.out; rw [e] at h; exact hpl0 h.symm)
            obtain ⟨m0, hm0⟩ := links_mv HLK.out (k := 0) (by rw [HPL.out]; omega)
            have HM0 := hid hm0
            obtain ⟨i0, bb0, off0, vb0, voff0, hi0, hi0I, rfl, c0, hbl0, rfl, hmm0⟩ := at_list HMVS.out HGL.out HPC.out HG11.out (show 0 < pl by omega) hm0
            simp only [Nat.add_zero] at c0
            have d0 := hmm0.c0
            have hlt0 := hmm0.lt
            have HL0x := hid (HL0.out m0 HLK.out HNE.out hm0)
            have HL1x := hid (HL1.out m0 HLK.out HNE.out hm0)
            obtain ⟨x1, x2, x3, x4⟩ := m0
            simp only at d0
            simp only [fr] at HL0x HL1x
            obtain ⟨rb, hrb⟩ : ∃ b, reachB g.ms x1 = b := ⟨_, rfl⟩
            rw [hrb] at HL0x HL1x
            have HINx := hid (fun (W : World) (h5 : IsWd W (.slice a5 tl c5) (reachedM g.ms N)) (h : Grew w W) => HIN.out (.slice a5 tl c5) x1 W h5 h)
            rw [hrb] at HINx
            clear hm0 hmm0 hrb
            cases rb with
            | false =>
              refine wp_region_later (by kernel_rfl) (by kernel_rfl) (fun hL => ?_)
              repeat (go_big_quiet_step ((go_at_call 32; exact calls_later (HINx.out _ (U5c.out.grew (Subtype.property _)) (grew_trans HG11.out (Subtype.property _))))))
              refine wpQuiet_nil ?_
              rintro wf ⟨zz, hzz⟩
              have hwf : Grew w11 wf := by rw [hzz]; exact zz.2
              clear hL hzz zz
              go_wp2_with (go_at_call 17; (with_reducible refine (HAW.out _ (grew_trans HG11.out hwf)).mono ?_); rintro e wz ⟨rfl, hx⟩)
              go_ret
              exact ⟨rfl, grew_trans (grew_trans HG11.out hwf) hx⟩
            | true =>
              have HLb := hid (fun h => HL1x.out rfl h (by first | rfl | trivial))
              refine wp_region_later (by kernel_rfl) (by kernel_rfl) (fun hL => ?_)
              repeat (go_big_quiet_step ((go_at_call 32; exact calls_later (HINx.out _ (U5c.out.grew (Subtype.property _)) (grew_trans HG11.out (Subtype.property _))))))
              refine wpQuiet_nil ?_
              rintro wf ⟨zz, hzz⟩
              have hwf : Grew w11 wf := by rw [hzz]; exact zz.2
              clear hL hzz zz
              have HW := hid (grew_trans HG11.out hwf)
              have C1 := hid ((hwf.cell (p := ⟨w.heap.size, 1, none⟩) hz11).trans cq11)
              have hzf := Nat.lt_of_lt_of_le hz11 hwf.size
              clear c0 d0 cp11 cq11 hwf
              go_wp2
              go_loopg [20, 21, 22, 24, 25, 145] pl (fun k sq so sm _ _ i wr => ∃ (j : Nat), j ≤ pl ∧ i = .int .i64 (j : Int) ∧ sq = .bool (quietI g.ms (path.take j)) ∧ so = .bool (ownI g.ms t (path.take j)) ∧ sm = .int .i64 (ownN g.ms t (path.take j) : Int) ∧ Hid (k = pl - j) ∧ Hid (Grew wf wr))
              case atStart => exact ⟨0, Nat.zero_le _, rfl, rfl, rfl, by simp [ownN], hid rfl, hid (grew_refl _)⟩
              case round =>
                obtain ⟨j, hj, rfl, rfl, rfl, rfl, HK, HGR⟩ := hrel
                rename World => wr
                have HGI := hid (grew_trans HW.out HGR.out)
                obtain ⟨qb, hqb⟩ : ∃ b, quietI g.ms (path.take j) = b := ⟨_, rfl⟩
                obtain ⟨ob, hob⟩ : ∃ b, ownI g.ms t (path.take j) = b := ⟨_, rfl⟩
                obtain ⟨nn, hnn⟩ : ∃ b, ownN g.ms t (path.take j) = b := ⟨_, rfl⟩
                have HQB := hid hqb; have HOB := hid hob; have HNN := hid hnn
                have hnn11 : nn ≤ 1100 := by rw [← hnn]; have h := ownN_le g.ms t (path.take j); rw [List.length_take] at h; omega
                rw [hqb, hob, hnn]
                clear hqb hob hnn
                by_cases hlt : j < pl
                · obtain ⟨m, hmv⟩ := links_mv HLK.out (k := j) (by rw [HPL.out]; exact hlt)
                  have hti : ∀ p, testI g.ms p (nth path j) = p m := fun p => by unfold testI; rw [hmv]
                  have hq1 := allI_take (ms := g.ms) (p := fun m => !dn m) (l := path) (j := j) (by rw [HPL.out]; exact hlt)
                  have ho1 := allI_take (ms := g.ms) (p := fun m => !(th m == t) || !dn m) (l := path) (j := j) (by rw [HPL.out]; exact hlt)
                  have hn1 := ownN_take (ms := g.ms) (t := t) (l := path) (j := j) (by rw [HPL.out]; exact hlt)
                  rw [hti] at hq1 ho1 hn1
                  have hq2 : quietI g.ms (path.take (j + 1)) = (qb && !dn m) := by rw [← HQB.out]; exact hq1
                  have ho2 : ownI g.ms t (path.take (j + 1)) = (ob && (!(th m == t) || !dn m)) := by rw [← HOB.out]; exact ho1
                  rw [HNN.out] at hn1
                  obtain ⟨i, _, _, _, _, hi, hiI, e1, cj, hbl, e2, hmm⟩ := at_list HMVS.out HGL.out HPC.out HGI.out hlt hmv
                  simp only [Option.some.injEq, Addr.mk.injEq, and_true] at e1 e2
                  obtain ⟨rfl, rfl⟩ := e1
                  obtain ⟨rfl, rfl⟩ := e2
                  have p0 := hmm.c0
                  have p1 := hmm.c1
                  have p2 := hmm.c2
                  have p3 := hmm.c3
                  have hplt := hmm.lt
                  have hltI : (j : Int) < (pl : Int) := by omega
                  have HLT := hid hlt
                  have v1 := (HGR.out.cell (p := ⟨w.heap.size, 1, none⟩) hzf).trans C1.out
                  have hzr := Nat.lt_of_lt_of_le hzf HGR.out.size
                  obtain ⟨Y1, hY1, g1, hb1⟩ := box4v wr m
                  have l0 := hb1.c0
                  have l1 := hb1.c1
                  have l2 := hb1.c2
                  have l3 := hb1.c3
                  have hzl := hb1.lt
                  have HE1 := hid g1
                  obtain ⟨z1, z2, z3, z4⟩ := m
                  simp only [th, dn] at hq2 ho2 hn1
                  simp only [Nat.zero_add] at p0 p1 p2 p3 l0 l1 l2 l3 hY1
                  obtain ⟨eb, heb⟩ : ∃ b, (z2 == t) = b := ⟨_, rfl⟩
                  rw [heb] at ho2 hn1
                  have HQ2 := hid hq2; have HO2 := hid ho2; have HN2 := hid hn1
                  clear hmm hmv hti hq1 ho1 hn1 hq2 ho2 hb1 g1
                  cases qb <;> cases ob <;> cases eb
                  all_goals (
                    go_wp2
                    go_roundg (pl - (j + 1))
                    case measure => have := HK.out; have := HLT.out; omega
                    case rel => exact ⟨j + 1, by have := HLT.out; omega, by have := HLT.out; go_num, by rw [HQ2.out]; rfl, by rw [HO2.out]; rfl, by rw [HN2.out]; go_num, hid rfl, hid (grew_trans HGR.out HE1.out)⟩)
                · obtain rfl : j = pl := by omega
                  have hq1 := HQB.out
                  have ho1 := HOB.out
                  have hn1 := HNN.out
                  rw [List.take_of_length_le (by rw [HPL.out]; exact Nat.le_refl _)] at hq1 ho1 hn1
                  rw [hn1] at HLb
                  have HO1 := hid (fun (h : ob = true) => HLb.out (by rw [ho1, h]))
                  have _hend := trivial
                  clear hq1 ho1 hn1 _hend
                  cases qb <;> cases ob
                  all_goals (
                    first
                    | (have hc1 := HO1.out (by first | rfl | trivial)
                       have hcd1 := decide_eq_true hc1)
                    | skip
                    clear HO1
                    go_wp2_with (go_at_call 17; (with_reducible refine (HAW.out _ HGI.out).mono ?_); rintro e wz ⟨rfl, hx⟩)
                    go_ret
                    exact ⟨rfl, grew_trans HGI.out hx⟩)
      · simp only [Bool.false_eq_true, if_false, if_true] at H1 H2 H3 H4
        go_enter Try.func5, Try.ntmps5
        go_wp2_with (first
          | (go_at_call 15; (with_reducible refine (HLO.out  _ HG0.out).mono ?_); rintro e w1 ⟨rfl, hx⟩; have cp1 := (hx.cell (p := ⟨w.heap.size, 0, none⟩) hz0).trans cp0; have cq1 := (hx.cell (p := ⟨w.heap.size, 1, none⟩) hz0).trans cq0; have hz1 := Nat.lt_of_lt_of_le hz0 hx.size; have HG1 := hid (grew_trans HG0.out hx); clear hx)
          | (go_at_call 16; (with_reducible refine (HVA.out  _ HG1.out).mono ?_); rintro e w2 ⟨rfl, hx⟩; have cp2 := (hx.cell (p := ⟨w.heap.size, 0, none⟩) hz1).trans cp1; have cq2 := (hx.cell (p := ⟨w.heap.size, 1, none⟩) hz1).trans cq1; have hz2 := Nat.lt_of_lt_of_le hz1 hx.size; have HG2 := hid (grew_trans HG1.out hx); clear hx)
          | (go_at_call 26; (with_reducible refine (HMA.out  _ HG2.out).mono ?_); rintro e w3 ⟨rfl, hx⟩; have cp3 := (hx.cell (p := ⟨w.heap.size, 0, none⟩) hz2).trans cp2; have cq3 := (hx.cell (p := ⟨w.heap.size, 1, none⟩) hz2).trans cq2; have hz3 := Nat.lt_of_lt_of_le hz2 hx.size; have HG3 := hid (grew_trans HG2.out hx); clear hx)
          | (go_at_call 27; (with_reducible refine (H1.out  _ HG3.out).mono ?_); rintro e w4 ⟨rfl, hx⟩; have cp4 := (hx.cell (p := ⟨w.heap.size, 0, none⟩) hz3).trans cp3; have cq4 := (hx.cell (p := ⟨w.heap.size, 1, none⟩) hz3).trans cq3; have hz4 := Nat.lt_of_lt_of_le hz3 hx.size; have HG4 := hid (grew_trans HG3.out hx); clear hx)
          | (go_at_call 18; (with_reducible refine (H2.out  _ HG4.out).mono ?_); rintro e w5 ⟨u2, rfl, hx, hu2⟩; have cp5 := (hx.cell (p := ⟨w.heap.size, 0, none⟩) hz4).trans cp4; have cq5 := (hx.cell (p := ⟨w.heap.size, 1, none⟩) hz4).trans cq4; have hz5 := Nat.lt_of_lt_of_le hz4 hx.size; have HG5 := hid (grew_trans HG4.out hx); obtain ⟨a2, c2, hue2⟩ := isWd_slice hu2; rw [HLEN.out] at hue2; subst hue2; have U2 := hid hu2; clear hu2; clear hx)
          | (go_at_call 28; (with_reducible refine (H3.out  _ HG5.out).mono ?_); rintro e w6 ⟨rfl, hx⟩; have cp6 := (hx.cell (p := ⟨w.heap.size, 0, none⟩) hz5).trans cp5; have cq6 := (hx.cell (p := ⟨w.heap.size, 1, none⟩) hz5).trans cq5; have hz6 := Nat.lt_of_lt_of_le hz5 hx.size; have HG6 := hid (grew_trans HG5.out hx); have U2a := hid (U2.out.grew hx); clear hx)
          | (go_at_call 18; (with_reducible refine (H4.out  _ HG6.out).mono ?_); rintro e w7 ⟨u4, rfl, hx, hu4⟩; have cp7 := (hx.cell (p := ⟨w.heap.size, 0, none⟩) hz6).trans cp6; have cq7 := (hx.cell (p := ⟨w.heap.size, 1, none⟩) hz6).trans cq6; have hz7 := Nat.lt_of_lt_of_le hz6 hx.size; have HG7 := hid (grew_trans HG6.out hx); have U2b := hid (U2a.out.grew hx); obtain ⟨a4, c4, rfl⟩ : ∃ a c, u4 = .slice a 0 c := isWd_slice hu4; clear hu4; clear hx)
          | (go_at_call 29; (with_reducible refine (H5.out  _ HG7.out).mono ?_); rintro e w8 ⟨u5, rfl, hx, hu5⟩; have cp8 := (hx.cell (p := ⟨w.heap.size, 0, none⟩) hz7).trans cp7; have cq8 := (hx.cell (p := ⟨w.heap.size, 1, none⟩) hz7).trans cq7; have hz8 := Nat.lt_of_lt_of_le hz7 hx.size; have HG8 := hid (grew_trans HG7.out hx); have U2c := hid (U2b.out.grew hx); obtain ⟨a5, c5, hue5⟩ := isWd_slice hu5; rw [HTL.out] at hue5; subst hue5; have U5 := hid hu5; clear hu5; clear hx)
          | (go_at_call 30; (with_reducible refine (H6.out  _ HG8.out).mono ?_); rintro e w9 ⟨rfl, hx⟩; have cp9 := (hx.cell (p := ⟨w.heap.size, 0, none⟩) hz8).trans cp8; have cq9 := (hx.cell (p := ⟨w.heap.size, 1, none⟩) hz8).trans cq8; have hz9 := Nat.lt_of_lt_of_le hz8 hx.size; have HG9 := hid (grew_trans HG8.out hx); have U2d := hid (U2c.out.grew hx); have U5a := hid (U5.out.grew hx); clear hx)
          | (go_at_call 31; (with_reducible refine (HTY.out 0 0 _ _ _ U2d.out U5a.out HG9.out).mono ?_); rintro e w10 ⟨rfl, hx⟩; have U5b := hid (U5a.out.grew hx); have cp10 := (hx.cell (p := ⟨w.heap.size, 0, none⟩) hz9).trans cp9; have cq10 := (hx.cell (p := ⟨w.heap.size, 1, none⟩) hz9).trans cq9; have hz10 := Nat.lt_of_lt_of_le hz9 hx.size; have HG10 := hid (grew_trans HG9.out hx); clear hx)
          | (go_at_call 31; (with_reducible refine (HTN.out _ _ _ _ _ _ HG10.out).mono ?_); rintro e w11 ⟨rfl, hx⟩; have U5c := hid (U5b.out.grew hx); have cp11 := (hx.cell (p := ⟨w.heap.size, 0, none⟩) hz10).trans cp10; have cq11 := (hx.cell (p := ⟨w.heap.size, 1, none⟩) hz10).trans cq10; have hz11 := Nat.lt_of_lt_of_le hz10 hx.size; have HG11 := hid (grew_trans HG10.out hx); clear hx))
        cases ip with
        | false =>
          refine wp_region_later (by kernel_rfl) (by kernel_rfl) (fun hL => ?_)
          repeat (go_big_quiet_step (fail))
          refine wpQuiet_nil ?_
          rintro wf ⟨zz, hzz⟩
          have hwf : Grew w11 wf := by rw [hzz]; exact zz.2
          clear hL hzz zz
          go_wp2_with (go_at_call 17; (with_reducible refine (HAW.out _ (grew_trans HG11.out hwf)).mono ?_); rintro e wz ⟨rfl, hx⟩)
          go_ret
          exact ⟨rfl, grew_trans (grew_trans HG11.out hwf) hx⟩
        | true =>
          by_cases hpl0 : pl = 0
          · subst hpl0
            refine wp_region_later (by kernel_rfl) (by kernel_rfl) (fun hL => ?_)
            repeat (go_big_quiet_step (fail))
            refine wpQuiet_nil ?_
            rintro wf ⟨zz, hzz⟩
            have hwf : Grew w11 wf := by rw [hzz]; exact zz.2
            clear hL hzz zz
            go_wp2_with (go_at_call 17; (with_reducible refine (HAW.out _ (grew_trans HG11.out hwf)).mono ?_); rintro e wz ⟨rfl, hx⟩)
            go_ret
            exact ⟨rfl, grew_trans (grew_trans HG11.out hwf) hx⟩
          · have hplI : ((pl : Int) == 0) = false := by simp [hpl0]
            have hplI0 : (0 : Int) < (pl : Int) := by omega
            have HLK := hid (show linksB g.ms path = true by have h := HIP.out; unfold isPathB at h; rw [Bool.and_eq_true] at h; exact h.1)
            have HNE := hid (show path ≠ [] from fun e => by have h := HPL.out; rw [e] at h; exact hpl0 h.symm)
            obtain ⟨m0, hm0⟩ := links_mv HLK.out (k := 0) (by rw [HPL.out]; omega)
            have HM0 := hid hm0
            obtain ⟨i0, bb0, off0, vb0, voff0, hi0, hi0I, rfl, c0, hbl0, rfl, hmm0⟩ := at_list HMVS.out HGL.out HPC.out HG11.out (show 0 < pl by omega) hm0
            simp only [Nat.add_zero] at c0
            have d0 := hmm0.c0
            have hlt0 := hmm0.lt
            have HL0x := hid (HL0.out m0 HLK.out HNE.out hm0)
            have HL1x := hid (HL1.out m0 HLK.out HNE.out hm0)
            obtain ⟨x1, x2, x3, x4⟩ := m0
            simp only at d0
            simp only [fr] at HL0x HL1x
            obtain ⟨rb, hrb⟩ : ∃ b, reachB g.ms x1 = b := ⟨_, rfl⟩
            rw [hrb] at HL0x HL1x
            have HINx := hid (fun (W : World) (h5 : IsWd W (.slice a5 tl c5) (reachedM g.ms N)) (h : Grew w W) => HIN.out (.slice a5 tl c5) x1 W h5 h)
            rw [hrb] at HINx
            clear hm0 hmm0 hrb
            cases rb with
            | false =>
              refine wp_region_later (by kernel_rfl) (by kernel_rfl) (fun hL => ?_)
              repeat (go_big_quiet_step ((go_at_call 32; exact calls_later (HINx.out _ (U5c.out.grew (Subtype.property _)) (grew_trans HG11.out (Subtype.property _))))))
              refine wpQuiet_nil ?_
              rintro wf ⟨zz, hzz⟩
              have hwf : Grew w11 wf := by rw [hzz]; exact zz.2
              clear hL hzz zz
              go_wp2_with (go_at_call 17; (with_reducible refine (HAW.out _ (grew_trans HG11.out hwf)).mono ?_); rintro e wz ⟨rfl, hx⟩)
              go_ret
              exact ⟨rfl, grew_trans (grew_trans HG11.out hwf) hx⟩
            | true =>
              have HLa := hid (fun h => HL0x.out rfl h (by first | rfl | trivial))
              refine wp_region_later (by kernel_rfl) (by kernel_rfl) (fun hL => ?_)
              repeat (go_big_quiet_step ((go_at_call 32; exact calls_later (HINx.out _ (U5c.out.grew (Subtype.property _)) (grew_trans HG11.out (Subtype.property _))))))
              refine wpQuiet_nil ?_
              rintro wf ⟨zz, hzz⟩
              have hwf : Grew w11 wf := by rw [hzz]; exact zz.2
              clear hL hzz zz
              have HW := hid (grew_trans HG11.out hwf)
              have C1 := hid ((hwf.cell (p := ⟨w.heap.size, 1, none⟩) hz11).trans cq11)
              have hzf := Nat.lt_of_lt_of_le hz11 hwf.size
              clear c0 d0 cp11 cq11 hwf
              go_wp2
              go_loopg [20, 21, 22, 24, 25, 145] pl (fun k sq so sm _ _ i wr => ∃ (j : Nat), j ≤ pl ∧ i = .int .i64 (j : Int) ∧ sq = .bool (quietI g.ms (path.take j)) ∧ so = .bool (ownI g.ms t (path.take j)) ∧ sm = .int .i64 (ownN g.ms t (path.take j) : Int) ∧ Hid (k = pl - j) ∧ Hid (Grew wf wr))
              case atStart => exact ⟨0, Nat.zero_le _, rfl, rfl, rfl, by simp [ownN], hid rfl, hid (grew_refl _)⟩
              case round =>
                obtain ⟨j, hj, rfl, rfl, rfl, rfl, HK, HGR⟩ := hrel
                rename World => wr
                have HGI := hid (grew_trans HW.out HGR.out)
                obtain ⟨qb, hqb⟩ : ∃ b, quietI g.ms (path.take j) = b := ⟨_, rfl⟩
                obtain ⟨ob, hob⟩ : ∃ b, ownI g.ms t (path.take j) = b := ⟨_, rfl⟩
                obtain ⟨nn, hnn⟩ : ∃ b, ownN g.ms t (path.take j) = b := ⟨_, rfl⟩
                have HQB := hid hqb; have HOB := hid hob; have HNN := hid hnn
                have hnn11 : nn ≤ 1100 := by rw [← hnn]; have h := ownN_le g.ms t (path.take j); rw [List.length_take] at h; omega
                rw [hqb, hob, hnn]
                clear hqb hob hnn
                by_cases hlt : j < pl
                · obtain ⟨m, hmv⟩ := links_mv HLK.out (k := j) (by rw [HPL.out]; exact hlt)
                  have hti : ∀ p, testI g.ms p (nth path j) = p m := fun p => by unfold testI; rw [hmv]
                  have hq1 := allI_take (ms := g.ms) (p := fun m => !dn m) (l := path) (j := j) (by rw [HPL.out]; exact hlt)
                  have ho1 := allI_take (ms := g.ms) (p := fun m => !(th m == t) || !dn m) (l := path) (j := j) (by rw [HPL.out]; exact hlt)
                  have hn1 := ownN_take (ms := g.ms) (t := t) (l := path) (j := j) (by rw [HPL.out]; exact hlt)
                  rw [hti] at hq1 ho1 hn1
                  have hq2 : quietI g.ms (path.take (j + 1)) = (qb && !dn m) := by rw [← HQB.out]; exact hq1
                  have ho2 : ownI g.ms t (path.take (j + 1)) = (ob && (!(th m == t) || !dn m)) := by rw [← HOB.out]; exact ho1
                  rw [HNN.out] at hn1
                  obtain ⟨i, _, _, _, _, hi, hiI, e1, cj, hbl, e2, hmm⟩ := at_list HMVS.out HGL.out HPC.out HGI.out hlt hmv
                  simp only [Option.some.injEq, Addr.mk.injEq, and_true] at e1 e2
                  obtain ⟨rfl, rfl⟩ := e1
                  obtain ⟨rfl, rfl⟩ := e2
                  have p0 := hmm.c0
                  have p1 := hmm.c1
                  have p2 := hmm.c2
                  have p3 := hmm.c3
                  have hplt := hmm.lt
                  have hltI : (j : Int) < (pl : Int) := by omega
                  have HLT := hid hlt
                  have v1 := (HGR.out.cell (p := ⟨w.heap.size, 1, none⟩) hzf).trans C1.out
                  have hzr := Nat.lt_of_lt_of_le hzf HGR.out.size
                  obtain ⟨Y1, hY1, g1, hb1⟩ := box4v wr m
                  have l0 := hb1.c0
                  have l1 := hb1.c1
                  have l2 := hb1.c2
                  have l3 := hb1.c3
                  have hzl := hb1.lt
                  have HE1 := hid g1
                  obtain ⟨z1, z2, z3, z4⟩ := m
                  simp only [th, dn] at hq2 ho2 hn1
                  simp only [Nat.zero_add] at p0 p1 p2 p3 l0 l1 l2 l3 hY1
                  obtain ⟨eb, heb⟩ : ∃ b, (z2 == t) = b := ⟨_, rfl⟩
                  rw [heb] at ho2 hn1
                  have HQ2 := hid hq2; have HO2 := hid ho2; have HN2 := hid hn1
                  clear hmm hmv hti hq1 ho1 hn1 hq2 ho2 hb1 g1
                  cases qb <;> cases ob <;> cases eb
                  all_goals (
                    go_wp2
                    go_roundg (pl - (j + 1))
                    case measure => have := HK.out; have := HLT.out; omega
                    case rel => exact ⟨j + 1, by have := HLT.out; omega, by have := HLT.out; go_num, by rw [HQ2.out]; rfl, by rw [HO2.out]; rfl, by rw [HN2.out]; go_num, hid rfl, hid (grew_trans HGR.out HE1.out)⟩)
                · obtain rfl : j = pl := by omega
                  have hq1 := HQB.out
                  have ho1 := HOB.out
                  have hn1 := HNN.out
                  rw [List.take_of_length_le (by rw [HPL.out]; exact Nat.le_refl _)] at hq1 ho1 hn1
                  have HQ1 := hid (fun (h : qb = true) => HLa.out (by rw [hq1, h]))
                  have _hend := trivial
                  clear hq1 ho1 hn1 _hend
                  cases qb <;> cases ob
                  all_goals (
                    first
                    | (have hc0 := HQ1.out (by first | rfl | trivial)
                       have hcd := decide_eq_true hc0)
                    | skip
                    clear HQ1
                    go_wp2_with (go_at_call 17; (with_reducible refine (HAW.out _ HGI.out).mono ?_); rintro e wz ⟨rfl, hx⟩)
                    go_ret
                    exact ⟨rfl, grew_trans HGI.out hx⟩)
      · simp only [if_true] at H1 H2 H3 H4
        go_enter Try.func5, Try.ntmps5
        go_wp2_with (first
          | (go_at_call 15; (with_reducible refine (HLO.out  _ HG0.out).mono ?_); rintro e w1 ⟨rfl, hx⟩; have cp1 := (hx.cell (p := ⟨w.heap.size, 0, none⟩) hz0).trans cp0; have cq1 := (hx.cell (p := ⟨w.heap.size, 1, none⟩) hz0).trans cq0; have hz1 := Nat.lt_of_lt_of_le hz0 hx.size; have HG1 := hid (grew_trans HG0.out hx); clear hx)
          | (go_at_call 16; (with_reducible refine (HVA.out  _ HG1.out).mono ?_); rintro e w2 ⟨rfl, hx⟩; have cp2 := (hx.cell (p := ⟨w.heap.size, 0, none⟩) hz1).trans cp1; have cq2 := (hx.cell (p := ⟨w.heap.size, 1, none⟩) hz1).trans cq1; have hz2 := Nat.lt_of_lt_of_le hz1 hx.size; have HG2 := hid (grew_trans HG1.out hx); clear hx)
          | (go_at_call 26; (with_reducible refine (HMA.out  _ HG2.out).mono ?_); rintro e w3 ⟨rfl, hx⟩; have cp3 := (hx.cell (p := ⟨w.heap.size, 0, none⟩) hz2).trans cp2; have cq3 := (hx.cell (p := ⟨w.heap.size, 1, none⟩) hz2).trans cq2; have hz3 := Nat.lt_of_lt_of_le hz2 hx.size; have HG3 := hid (grew_trans HG2.out hx); clear hx)
          | (go_at_call 27; (with_reducible refine (H1.out  _ HG3.out).mono ?_); rintro e w4 ⟨rfl, hx⟩; have cp4 := (hx.cell (p := ⟨w.heap.size, 0, none⟩) hz3).trans cp3; have cq4 := (hx.cell (p := ⟨w.heap.size, 1, none⟩) hz3).trans cq3; have hz4 := Nat.lt_of_lt_of_le hz3 hx.size; have HG4 := hid (grew_trans HG3.out hx); clear hx)
          | (go_at_call 18; (with_reducible refine (H2.out  _ HG4.out).mono ?_); rintro e w5 ⟨u2, rfl, hx, hu2⟩; have cp5 := (hx.cell (p := ⟨w.heap.size, 0, none⟩) hz4).trans cp4; have cq5 := (hx.cell (p := ⟨w.heap.size, 1, none⟩) hz4).trans cq4; have hz5 := Nat.lt_of_lt_of_le hz4 hx.size; have HG5 := hid (grew_trans HG4.out hx); obtain ⟨a2, c2, hue2⟩ := isWd_slice hu2; rw [HLEN.out] at hue2; subst hue2; have U2 := hid hu2; clear hu2; clear hx)
          | (go_at_call 28; (with_reducible refine (H3.out  _ HG5.out).mono ?_); rintro e w6 ⟨rfl, hx⟩; have cp6 := (hx.cell (p := ⟨w.heap.size, 0, none⟩) hz5).trans cp5; have cq6 := (hx.cell (p := ⟨w.heap.size, 1, none⟩) hz5).trans cq5; have hz6 := Nat.lt_of_lt_of_le hz5 hx.size; have HG6 := hid (grew_trans HG5.out hx); have U2a := hid (U2.out.grew hx); clear hx)
          | (go_at_call 18; (with_reducible refine (H4.out  _ HG6.out).mono ?_); rintro e w7 ⟨u4, rfl, hx, hu4⟩; have cp7 := (hx.cell (p := ⟨w.heap.size, 0, none⟩) hz6).trans cp6; have cq7 := (hx.cell (p := ⟨w.heap.size, 1, none⟩) hz6).trans cq6; have hz7 := Nat.lt_of_lt_of_le hz6 hx.size; have HG7 := hid (grew_trans HG6.out hx); have U2b := hid (U2a.out.grew hx); obtain ⟨a4, c4, hue4⟩ := isWd_slice hu4; rw [HLEN.out] at hue4; subst hue4; have U4 := hid hu4; clear hu4; clear hx)
          | (go_at_call 29; (with_reducible refine (H5.out  _ HG7.out).mono ?_); rintro e w8 ⟨u5, rfl, hx, hu5⟩; have cp8 := (hx.cell (p := ⟨w.heap.size, 0, none⟩) hz7).trans cp7; have cq8 := (hx.cell (p := ⟨w.heap.size, 1, none⟩) hz7).trans cq7; have hz8 := Nat.lt_of_lt_of_le hz7 hx.size; have HG8 := hid (grew_trans HG7.out hx); have U2c := hid (U2b.out.grew hx); have U4a := hid (U4.out.grew hx); obtain ⟨a5, c5, hue5⟩ := isWd_slice hu5; rw [HTL.out] at hue5; subst hue5; have U5 := hid hu5; clear hu5; clear hx)
          | (go_at_call 30; (with_reducible refine (H6.out  _ HG8.out).mono ?_); rintro e w9 ⟨rfl, hx⟩; have cp9 := (hx.cell (p := ⟨w.heap.size, 0, none⟩) hz8).trans cp8; have cq9 := (hx.cell (p := ⟨w.heap.size, 1, none⟩) hz8).trans cq8; have hz9 := Nat.lt_of_lt_of_le hz8 hx.size; have HG9 := hid (grew_trans HG8.out hx); have U2d := hid (U2c.out.grew hx); have U4b := hid (U4a.out.grew hx); have U5a := hid (U5.out.grew hx); clear hx)
          | (go_at_call 31; (with_reducible refine (HTY.out 0 0 _ _ _ U2d.out U5a.out HG9.out).mono ?_); rintro e w10 ⟨rfl, hx⟩; have U4c := hid (U4b.out.grew hx); have U5b := hid (U5a.out.grew hx); have cp10 := (hx.cell (p := ⟨w.heap.size, 0, none⟩) hz9).trans cp9; have cq10 := (hx.cell (p := ⟨w.heap.size, 1, none⟩) hz9).trans cq9; have hz10 := Nat.lt_of_lt_of_le hz9 hx.size; have HG10 := hid (grew_trans HG9.out hx); clear hx)
          | (go_at_call 31; (with_reducible refine (HTY.out 1 t _ _ _ U4c.out U5b.out HG10.out).mono ?_); rintro e w11 ⟨rfl, hx⟩; have U5c := hid (U5b.out.grew hx); have cp11 := (hx.cell (p := ⟨w.heap.size, 0, none⟩) hz10).trans cp10; have cq11 := (hx.cell (p := ⟨w.heap.size, 1, none⟩) hz10).trans cq10; have hz11 := Nat.lt_of_lt_of_le hz10 hx.size; have HG11 := hid (grew_trans HG10.out hx); clear hx))
        cases ip with
        | false =>
          refine wp_region_later (by kernel_rfl) (by kernel_rfl) (fun hL => ?_)
          repeat (go_big_quiet_step (fail))
          refine wpQuiet_nil ?_
          rintro wf ⟨zz, hzz⟩
          have hwf : Grew w11 wf := by rw [hzz]; exact zz.2
          clear hL hzz zz
          go_wp2_with (go_at_call 17; (with_reducible refine (HAW.out _ (grew_trans HG11.out hwf)).mono ?_); rintro e wz ⟨rfl, hx⟩)
          go_ret
          exact ⟨rfl, grew_trans (grew_trans HG11.out hwf) hx⟩
        | true =>
          by_cases hpl0 : pl = 0
          · subst hpl0
            refine wp_region_later (by kernel_rfl) (by kernel_rfl) (fun hL => ?_)
            repeat (go_big_quiet_step (fail))
            refine wpQuiet_nil ?_
            rintro wf ⟨zz, hzz⟩
            have hwf : Grew w11 wf := by rw [hzz]; exact zz.2
            clear hL hzz zz
            go_wp2_with (go_at_call 17; (with_reducible refine (HAW.out _ (grew_trans HG11.out hwf)).mono ?_); rintro e wz ⟨rfl, hx⟩)
            go_ret
            exact ⟨rfl, grew_trans (grew_trans HG11.out hwf) hx⟩
          · have hplI : ((pl : Int) == 0) = false := by simp [hpl0]
            have hplI0 : (0 : Int) < (pl : Int) := by omega
            have HLK := hid (show linksB g.ms path = true by have h := HIP.out; unfold isPathB at h; rw [Bool.and_eq_true] at h; exact h.1)
            have HNE := hid (show path ≠ [] from fun e => by have h := HPL.out; rw [e] at h; exact hpl0 h.symm)
            obtain ⟨m0, hm0⟩ := links_mv HLK.out (k := 0) (by rw [HPL.out]; omega)
            have HM0 := hid hm0
            obtain ⟨i0, bb0, off0, vb0, voff0, hi0, hi0I, rfl, c0, hbl0, rfl, hmm0⟩ := at_list HMVS.out HGL.out HPC.out HG11.out (show 0 < pl by omega) hm0
            simp only [Nat.add_zero] at c0
            have d0 := hmm0.c0
            have hlt0 := hmm0.lt
            have HL0x := hid (HL0.out m0 HLK.out HNE.out hm0)
            have HL1x := hid (HL1.out m0 HLK.out HNE.out hm0)
            obtain ⟨x1, x2, x3, x4⟩ := m0
            simp only at d0
            simp only [fr] at HL0x HL1x
            obtain ⟨rb, hrb⟩ : ∃ b, reachB g.ms x1 = b := ⟨_, rfl⟩
            rw [hrb] at HL0x HL1x
            have HINx := hid (fun (W : World) (h5 : IsWd W (.slice a5 tl c5) (reachedM g.ms N)) (h : Grew w W) => HIN.out (.slice a5 tl c5) x1 W h5 h)
            rw [hrb] at HINx
            clear hm0 hmm0 hrb
            cases rb with
            | false =>
              refine wp_region_later (by kernel_rfl) (by kernel_rfl) (fun hL => ?_)
              repeat (go_big_quiet_step ((go_at_call 32; exact calls_later (HINx.out _ (U5c.out.grew (Subtype.property _)) (grew_trans HG11.out (Subtype.property _))))))
              refine wpQuiet_nil ?_
              rintro wf ⟨zz, hzz⟩
              have hwf : Grew w11 wf := by rw [hzz]; exact zz.2
              clear hL hzz zz
              go_wp2_with (go_at_call 17; (with_reducible refine (HAW.out _ (grew_trans HG11.out hwf)).mono ?_); rintro e wz ⟨rfl, hx⟩)
              go_ret
              exact ⟨rfl, grew_trans (grew_trans HG11.out hwf) hx⟩
            | true =>
              have HLa := hid (fun h => HL0x.out rfl h (by first | rfl | trivial))
              have HLb := hid (fun h => HL1x.out rfl h (by first | rfl | trivial))
              refine wp_region_later (by kernel_rfl) (by kernel_rfl) (fun hL => ?_)
              repeat (go_big_quiet_step ((go_at_call 32; exact calls_later (HINx.out _ (U5c.out.grew (Subtype.property _)) (grew_trans HG11.out (Subtype.property _))))))
              refine wpQuiet_nil ?_
              rintro wf ⟨zz, hzz⟩
              have hwf : Grew w11 wf := by rw [hzz]; exact zz.2
              clear hL hzz zz
              have HW := hid (grew_trans HG11.out hwf)
              have C1 := hid ((hwf.cell (p := ⟨w.heap.size, 1, none⟩) hz11).trans cq11)
              have hzf := Nat.lt_of_lt_of_le hz11 hwf.size
              clear c0 d0 cp11 cq11 hwf
              go_wp2
              go_loopg [20, 21, 22, 24, 25, 145] pl (fun k sq so sm _ _ i wr => ∃ (j : Nat), j ≤ pl ∧ i = .int .i64 (j : Int) ∧ sq = .bool (quietI g.ms (path.take j)) ∧ so = .bool (ownI g.ms t (path.take j)) ∧ sm = .int .i64 (ownN g.ms t (path.take j) : Int) ∧ Hid (k = pl - j) ∧ Hid (Grew wf wr))
              case atStart => exact ⟨0, Nat.zero_le _, rfl, rfl, rfl, by simp [ownN], hid rfl, hid (grew_refl _)⟩
              case round =>
                obtain ⟨j, hj, rfl, rfl, rfl, rfl, HK, HGR⟩ := hrel
                rename World => wr
                have HGI := hid (grew_trans HW.out HGR.out)
                obtain ⟨qb, hqb⟩ : ∃ b, quietI g.ms (path.take j) = b := ⟨_, rfl⟩
                obtain ⟨ob, hob⟩ : ∃ b, ownI g.ms t (path.take j) = b := ⟨_, rfl⟩
                obtain ⟨nn, hnn⟩ : ∃ b, ownN g.ms t (path.take j) = b := ⟨_, rfl⟩
                have HQB := hid hqb; have HOB := hid hob; have HNN := hid hnn
                have hnn11 : nn ≤ 1100 := by rw [← hnn]; have h := ownN_le g.ms t (path.take j); rw [List.length_take] at h; omega
                rw [hqb, hob, hnn]
                clear hqb hob hnn
                by_cases hlt : j < pl
                · obtain ⟨m, hmv⟩ := links_mv HLK.out (k := j) (by rw [HPL.out]; exact hlt)
                  have hti : ∀ p, testI g.ms p (nth path j) = p m := fun p => by unfold testI; rw [hmv]
                  have hq1 := allI_take (ms := g.ms) (p := fun m => !dn m) (l := path) (j := j) (by rw [HPL.out]; exact hlt)
                  have ho1 := allI_take (ms := g.ms) (p := fun m => !(th m == t) || !dn m) (l := path) (j := j) (by rw [HPL.out]; exact hlt)
                  have hn1 := ownN_take (ms := g.ms) (t := t) (l := path) (j := j) (by rw [HPL.out]; exact hlt)
                  rw [hti] at hq1 ho1 hn1
                  have hq2 : quietI g.ms (path.take (j + 1)) = (qb && !dn m) := by rw [← HQB.out]; exact hq1
                  have ho2 : ownI g.ms t (path.take (j + 1)) = (ob && (!(th m == t) || !dn m)) := by rw [← HOB.out]; exact ho1
                  rw [HNN.out] at hn1
                  obtain ⟨i, _, _, _, _, hi, hiI, e1, cj, hbl, e2, hmm⟩ := at_list HMVS.out HGL.out HPC.out HGI.out hlt hmv
                  simp only [Option.some.injEq, Addr.mk.injEq, and_true] at e1 e2
                  obtain ⟨rfl, rfl⟩ := e1
                  obtain ⟨rfl, rfl⟩ := e2
                  have p0 := hmm.c0
                  have p1 := hmm.c1
                  have p2 := hmm.c2
                  have p3 := hmm.c3
                  have hplt := hmm.lt
                  have hltI : (j : Int) < (pl : Int) := by omega
                  have HLT := hid hlt
                  have v1 := (HGR.out.cell (p := ⟨w.heap.size, 1, none⟩) hzf).trans C1.out
                  have hzr := Nat.lt_of_lt_of_le hzf HGR.out.size
                  obtain ⟨Y1, hY1, g1, hb1⟩ := box4v wr m
                  have l0 := hb1.c0
                  have l1 := hb1.c1
                  have l2 := hb1.c2
                  have l3 := hb1.c3
                  have hzl := hb1.lt
                  have HE1 := hid g1
                  obtain ⟨z1, z2, z3, z4⟩ := m
                  simp only [th, dn] at hq2 ho2 hn1
                  simp only [Nat.zero_add] at p0 p1 p2 p3 l0 l1 l2 l3 hY1
                  obtain ⟨eb, heb⟩ : ∃ b, (z2 == t) = b := ⟨_, rfl⟩
                  rw [heb] at ho2 hn1
                  have HQ2 := hid hq2; have HO2 := hid ho2; have HN2 := hid hn1
                  clear hmm hmv hti hq1 ho1 hn1 hq2 ho2 hb1 g1
                  cases qb <;> cases ob <;> cases eb
                  all_goals (
                    go_wp2
                    go_roundg (pl - (j + 1))
                    case measure => have := HK.out; have := HLT.out; omega
                    case rel => exact ⟨j + 1, by have := HLT.out; omega, by have := HLT.out; go_num, by rw [HQ2.out]; rfl, by rw [HO2.out]; rfl, by rw [HN2.out]; go_num, hid rfl, hid (grew_trans HGR.out HE1.out)⟩)
                · obtain rfl : j = pl := by omega
                  have hq1 := HQB.out
                  have ho1 := HOB.out
                  have hn1 := HNN.out
                  rw [List.take_of_length_le (by rw [HPL.out]; exact Nat.le_refl _)] at hq1 ho1 hn1
                  have HQ1 := hid (fun (h : qb = true) => HLa.out (by rw [hq1, h]))
                  rw [hn1] at HLb
                  have HO1 := hid (fun (h : ob = true) => HLb.out (by rw [ho1, h]))
                  have _hend := trivial
                  clear hq1 ho1 hn1 _hend
                  cases qb <;> cases ob
                  all_goals (
                    first
                    | (have hc0 := HQ1.out (by first | rfl | trivial)
                       have hcd := decide_eq_true hc0)
                    | skip
                    first
                    | (have hc1 := HO1.out (by first | rfl | trivial)
                       have hcd1 := decide_eq_true hc1)
                    | skip
                    clear HQ1 HO1
                    go_wp2_with (go_at_call 17; (with_reducible refine (HAW.out _ HGI.out).mono ?_); rintro e wz ⟨rfl, hx⟩)
                    go_ret
                    exact ⟨rfl, grew_trans HGI.out hx⟩)
end Go.Proofs.Ytojkohpniokaaaa
