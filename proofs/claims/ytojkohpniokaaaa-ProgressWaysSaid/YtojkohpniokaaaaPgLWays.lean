/- The law ProgressWays (10). Printed by gen_pgways.py. -/
import Derived.Test.YtojkohpniokaaaaPgLeads
import Derived.Test.YtojkohpniokaaaaPgPath
namespace Go.Proofs.Ytojkohpniokaaaa
open Go Go.RowKit Go.Lin Go.Lin.Pg

theorem wd_shape {w : World} {v : Value} {l : List Int} (h : IsWd w v l) : ∃ a n c, v = .slice a n c := let ⟨a, c, e⟩ := isWd_slice h; ⟨a, _, c, e⟩

set_option maxHeartbeats 8000000 in
set_option maxRecDepth 20000 in
theorem progressWays_law (g : Gr) (p0 : Int) (path : List Int) (v pv : Value) (w : World) (hn : -9223372036854775808 ≤ g.n ∧ g.n ≤ 9223372036854775807) (hp0 : 0 ≤ p0 ∧ p0 ≤ 255) (hv : IsGr w v g) (hp : IsWd w pv path) :
    Calls Try.prog 10 #[v, .int .u8 p0, pv] w fun e w' => e = .returned (.bool true) ∧ Grew w w' := by
  have HV := hid hv
  obtain ⟨s, rfl, hmv0⟩ := hv
  obtain ⟨gl, hgl⟩ : ∃ gl, g.ms.length = gl := ⟨_, rfl⟩
  obtain ⟨sa, sc, rfl, ⟨hgl1, hgl2⟩, hmvs0⟩ := hmv0
  rw [hgl] at HV hgl1 hgl2 ⊢
  have HGL := hid hgl
  have HMVS := hid hmvs0
  clear hmvs0 hgl
  obtain ⟨w0, hw0, g0, cp0, cq0, hz0⟩ := box2 w (.int .i64 g.n) (.slice sa gl sc) 24
  have HG0 := hid g0
  have HAW := hid (fun (W : World) (_ : Grew w W) => awake17_any W)
  have HLO := hid (fun (W : World) (h : Grew w W) => long15_any _ g W (HV.out.grew h))
  have HPW := hid hp
  have HVA := hid (fun (W : World) (h : Grew w W) => rValid16_any _ g W (HV.out.grew h))
  have HMA := hid (fun (W : World) (h : Grew w W) => many26_any pv path W (hp.grew h))
  obtain ⟨lo, hlo⟩ : ∃ b, decide ((g.ms.length : Int) > 100) = b := ⟨_, rfl⟩
  obtain ⟨ma, hma⟩ : ∃ b, decide ((path.length : Int) > 1100) = b := ⟨_, rfl⟩
  obtain ⟨vb, hvb⟩ : ∃ b, valid g = b := ⟨_, rfl⟩
  rw [hlo] at HLO
  rw [hma] at HMA
  rw [hvb] at HVA
  obtain ⟨pl, hpl⟩ : ∃ n, path.length = n := ⟨_, rfl⟩
  obtain ⟨pa, pc, rfl⟩ := isWd_slice hp
  rw [hpl] at HPW HMA ⊢
  have HPL := hid hpl
  have HVB := hid hvb
  clear hlo hma hp hpl hvb
  cases lo with
  | true =>
    go_enter Try.func10, Try.ntmps10
    go_wp2_with (first
      | (go_at_call 15; (with_reducible refine (HLO.out  _ HG0.out).mono ?_); rintro e w1 ⟨rfl, hx⟩; have cp1 := (hx.cell (p := ⟨w.heap.size, 0, none⟩) hz0).trans cp0; have cq1 := (hx.cell (p := ⟨w.heap.size, 1, none⟩) hz0).trans cq0; have hz1 := Nat.lt_of_lt_of_le hz0 hx.size; have HG1 := hid (grew_trans HG0.out hx); clear hx)
      | (go_at_call 17; (with_reducible refine (HAW.out  _ HG1.out).mono ?_); rintro e w2 ⟨rfl, hx⟩; have cp2 := (hx.cell (p := ⟨w.heap.size, 0, none⟩) hz1).trans cp1; have cq2 := (hx.cell (p := ⟨w.heap.size, 1, none⟩) hz1).trans cq1; have hz2 := Nat.lt_of_lt_of_le hz1 hx.size; have HG2 := hid (grew_trans HG1.out hx); clear hx))
    go_ret
    exact ⟨rfl, HG2.out⟩
  | false =>
    cases vb with
    | false =>
      go_enter Try.func10, Try.ntmps10
      go_wp2_with (first
        | (go_at_call 15; (with_reducible refine (HLO.out  _ HG0.out).mono ?_); rintro e w1 ⟨rfl, hx⟩; have cp1 := (hx.cell (p := ⟨w.heap.size, 0, none⟩) hz0).trans cp0; have cq1 := (hx.cell (p := ⟨w.heap.size, 1, none⟩) hz0).trans cq0; have hz1 := Nat.lt_of_lt_of_le hz0 hx.size; have HG1 := hid (grew_trans HG0.out hx); clear hx)
        | (go_at_call 16; (with_reducible refine (HVA.out  _ HG1.out).mono ?_); rintro e w2 ⟨rfl, hx⟩; have cp2 := (hx.cell (p := ⟨w.heap.size, 0, none⟩) hz1).trans cp1; have cq2 := (hx.cell (p := ⟨w.heap.size, 1, none⟩) hz1).trans cq1; have hz2 := Nat.lt_of_lt_of_le hz1 hx.size; have HG2 := hid (grew_trans HG1.out hx); clear hx)
        | (go_at_call 17; (with_reducible refine (HAW.out  _ HG2.out).mono ?_); rintro e w3 ⟨rfl, hx⟩; have cp3 := (hx.cell (p := ⟨w.heap.size, 0, none⟩) hz2).trans cp2; have cq3 := (hx.cell (p := ⟨w.heap.size, 1, none⟩) hz2).trans cq2; have hz3 := Nat.lt_of_lt_of_le hz2 hx.size; have HG3 := hid (grew_trans HG2.out hx); clear hx))
      go_ret
      exact ⟨rfl, HG3.out⟩
    | true =>
     cases ma with
     | true =>
      go_enter Try.func10, Try.ntmps10
      go_wp2_with (first
        | (go_at_call 15; (with_reducible refine (HLO.out  _ HG0.out).mono ?_); rintro e w1 ⟨rfl, hx⟩; have cp1 := (hx.cell (p := ⟨w.heap.size, 0, none⟩) hz0).trans cp0; have cq1 := (hx.cell (p := ⟨w.heap.size, 1, none⟩) hz0).trans cq0; have hz1 := Nat.lt_of_lt_of_le hz0 hx.size; have HG1 := hid (grew_trans HG0.out hx); clear hx)
        | (go_at_call 16; (with_reducible refine (HVA.out  _ HG1.out).mono ?_); rintro e w2 ⟨rfl, hx⟩; have cp2 := (hx.cell (p := ⟨w.heap.size, 0, none⟩) hz1).trans cp1; have cq2 := (hx.cell (p := ⟨w.heap.size, 1, none⟩) hz1).trans cq1; have hz2 := Nat.lt_of_lt_of_le hz1 hx.size; have HG2 := hid (grew_trans HG1.out hx); clear hx)
        | (go_at_call 26; (with_reducible refine (HMA.out  _ HG2.out).mono ?_); rintro e w3 ⟨rfl, hx⟩; have cp3 := (hx.cell (p := ⟨w.heap.size, 0, none⟩) hz2).trans cp2; have cq3 := (hx.cell (p := ⟨w.heap.size, 1, none⟩) hz2).trans cq2; have hz3 := Nat.lt_of_lt_of_le hz2 hx.size; have HG3 := hid (grew_trans HG2.out hx); clear hx)
        | (go_at_call 17; (with_reducible refine (HAW.out  _ HG3.out).mono ?_); rintro e w4 ⟨rfl, hx⟩; have cp4 := (hx.cell (p := ⟨w.heap.size, 0, none⟩) hz3).trans cp3; have cq4 := (hx.cell (p := ⟨w.heap.size, 1, none⟩) hz3).trans cq3; have hz4 := Nat.lt_of_lt_of_le hz3 hx.size; have HG4 := hid (grew_trans HG3.out hx); clear hx))
      go_ret
      exact ⟨rfl, HG4.out⟩
     | false =>
      have hG := gOk_valid HVB.out
      obtain ⟨N, hN⟩ : ∃ N, g.N = N := ⟨_, rfl⟩
      have hgn := hG.n
      rw [hN] at hG hgn
      have hN8 := hG.h8; have hN1 := hG.h1
      rw [hgn] at HV HLO HVA hn hw0 cp0 ⊢
      have HGN := hid hgn
      have hNI : (0 : Int) < (N : Int) := by omega
      have hNne : ¬ ((N : Int) = 0) := by omega
      obtain ⟨p, hpm⟩ : ∃ p : Nat, p0 % (N : Int) = (p : Int) := ⟨(p0 % (N : Int)).toNat, by have := Int.emod_nonneg p0 hNne; omega⟩
      have hpN : p < N := by have := Int.emod_lt_of_pos p0 hNI; omega
      have hmt : p0.tmod (N : Int) = (p : Int) := by rw [Int.tmod_eq_emod_of_nonneg hp0.1, hpm]
      have hw1 : IntKind.i64.wrap p0 = p0 := IntWalk.i64_in _ (by omega)
      have hw2 : IntKind.i64.wrap (p0.tmod (N : Int)) = (p : Int) := by rw [hmt]; exact IntWalk.i64_in _ (by omega)
      have hispl : isPl g.n (p : Int) = true := by rw [hgn]; unfold isPl; simp; omega
      have hwa : wayA g (p : Int) = wayL (wayM g.ms (p : Int)) := by unfold wayA; rw [HVB.out, hispl]; rfl
      have hra : reachedA g = (reachedM g.ms N, 0) := by unfold reachedA; rw [HVB.out, hN]; rfl
      have hia : ∀ l, askI g l = (isPathB g.ms l, 0) := fun l => by unfold askI; rw [HVB.out]; rfl
      have HWY := hid (fun (W : World) (h : Grew w W) => way45_any _ g (p : Int) W (by rw [HGN.out]; exact hn) (HV.out.grew h))
      have HRC := hid (fun (W : World) (h : Grew w W) => reached29_any _ g W (by rw [HGN.out]; exact hn) (HV.out.grew h))
      have HIP := hid (fun (W : World) (h : Grew w W) => isPath46_any _ g (.slice pa pl pc) path W (by rw [HGN.out]; exact hn) (HV.out.grew h) (HPW.out.grew h).ints)
      have HLD := hid (fun (W : World) (h : Grew w W) => leads47_any _ g (.slice pa pl pc) path (p : Int) W (HV.out.grew h) (HPW.out.grew h).ints)
      have HI2 := hid (fun (u : Value) (l : List Int) (W : World) (hu : IsWd W u l) (h : Grew w W) => isPath46_any _ g u l W (by rw [HGN.out]; exact hn) (HV.out.grew h) hu.ints)
      have HL2 := hid (fun (u : Value) (l : List Int) (W : World) (hu : IsWd W u l) (h : Grew w W) => leads47_any _ g u l (p : Int) W (HV.out.grew h) hu.ints)
      have HIN := hid (fun (u : Value) (W : World) (hu : IsWd W u (reachedM g.ms N)) (_ : Grew w W) => in32_any u (reachedM g.ms N) (p : Int) W hu.ints)
      rw [contains_reached hG.h1 hG.h8 hG.inN, ← way_reach hG.h1 hG.h8 hG.inN] at HIN
      rw [hwa] at HWY
      rw [hra] at HRC
      rw [hia] at HIP
      simp only at HRC HIP
      have hwe := fun hp hl => way_exists (path := path) (p := (p : Int)) hG.h1 hG.h8 hG.inN hp hl
      have hwl := fun l h hp hl => way_least (path := path) (p := (p : Int)) (l := l) hG.h1 hG.h8 hG.inN h hp hl
      have hwp := fun l h => way_path (p := (p : Int)) (l := l) hG.h1 hG.h8 hG.inN h
      have hws := fun l h => way_short (p := (p : Int)) (l := l) hG.h1 hG.h8 hG.inN h
      have HIA := hid hia
      obtain ⟨ip, hip⟩ : ∃ b, isPathB g.ms path = b := ⟨_, rfl⟩
      obtain ⟨lb, hlb⟩ : ∃ b, leadsB g.ms path (p : Int) = b := ⟨_, rfl⟩
      obtain ⟨wy, hwy⟩ : ∃ x, wayM g.ms (p : Int) = x := ⟨_, rfl⟩
      rw [hip] at HIP hwe hwl
      rw [hlb] at HLD hwe hwl
      rw [hwy] at HWY HIN hwe
      rw [HPL.out] at hwl
      have hgm2 : IntKind.i64.wrap ((p : Int)) = (p : Int) := IntWalk.i64_in _ (by omega)
      clear hia hwa hra hip hlb hispl hG hN hgn hp0
      cases wy with
      | none =>
        simp only [wayL, Option.isSome_none] at HWY HIN
        have hnl : (ip && lb) = false := by
          cases ip with
          | false => rfl
          | true =>
            cases lb with
            | false => rfl
            | true => have h := hwe rfl rfl; cases h
        clear hwe hwl hwp hws hwy
        cases ip <;> cases lb <;> (try (cases hnl; done))
        all_goals (
          clear hnl
          go_enter Try.func10, Try.ntmps10
          first
          | (go_wp2_with (first
               | (go_at_call 15; (with_reducible refine (HLO.out  _ HG0.out).mono ?_); rintro e w1 ⟨rfl, hx⟩; have cp1 := (hx.cell (p := ⟨w.heap.size, 0, none⟩) hz0).trans cp0; have cq1 := (hx.cell (p := ⟨w.heap.size, 1, none⟩) hz0).trans cq0; have hz1 := Nat.lt_of_lt_of_le hz0 hx.size; have HG1 := hid (grew_trans HG0.out hx); clear hx)
               | (go_at_call 16; (with_reducible refine (HVA.out  _ HG1.out).mono ?_); rintro e w2 ⟨rfl, hx⟩; have cp2 := (hx.cell (p := ⟨w.heap.size, 0, none⟩) hz1).trans cp1; have cq2 := (hx.cell (p := ⟨w.heap.size, 1, none⟩) hz1).trans cq1; have hz2 := Nat.lt_of_lt_of_le hz1 hx.size; have HG2 := hid (grew_trans HG1.out hx); clear hx)
               | (go_at_call 26; (with_reducible refine (HMA.out  _ HG2.out).mono ?_); rintro e w3 ⟨rfl, hx⟩; have cp3 := (hx.cell (p := ⟨w.heap.size, 0, none⟩) hz2).trans cp2; have cq3 := (hx.cell (p := ⟨w.heap.size, 1, none⟩) hz2).trans cq2; have hz3 := Nat.lt_of_lt_of_le hz2 hx.size; have HG3 := hid (grew_trans HG2.out hx); clear hx)
               | (go_at_call 45; (with_reducible refine (HWY.out  _ HG3.out).mono ?_); rintro e w4 ⟨u, rfl, hx, hu⟩; have cp4 := (hx.cell (p := ⟨w.heap.size, 0, none⟩) hz3).trans cp3; have cq4 := (hx.cell (p := ⟨w.heap.size, 1, none⟩) hz3).trans cq3; have hz4 := Nat.lt_of_lt_of_le hz3 hx.size; have HG4 := hid (grew_trans HG3.out hx); obtain ⟨ua, uc, rfl⟩ : ∃ a c, u = .slice a 0 c := isWd_slice hu; clear hu; clear hx)
               | (go_at_call 29; (with_reducible refine (HRC.out  _ HG4.out).mono ?_); rintro e w5 ⟨u6, rfl, hx, hu⟩; have cp5 := (hx.cell (p := ⟨w.heap.size, 0, none⟩) hz4).trans cp4; have cq5 := (hx.cell (p := ⟨w.heap.size, 1, none⟩) hz4).trans cq4; have hz5 := Nat.lt_of_lt_of_le hz4 hx.size; have HG5 := hid (grew_trans HG4.out hx); obtain ⟨ta, tn, tc, rfl⟩ := wd_shape hu; have HT := hid hu; clear hu; clear hx)
               | (go_at_call 46; (with_reducible refine (HIP.out  _ HG5.out).mono ?_); rintro e w6 ⟨rfl, hx⟩; have cp6 := (hx.cell (p := ⟨w.heap.size, 0, none⟩) hz5).trans cp5; have cq6 := (hx.cell (p := ⟨w.heap.size, 1, none⟩) hz5).trans cq5; have hz6 := Nat.lt_of_lt_of_le hz5 hx.size; have HG6 := hid (grew_trans HG5.out hx); have HT1 := hid (HT.out.grew hx); clear hx)
               | (go_at_call 32; (with_reducible refine (HIN.out _ _ HT1.out HG6.out).mono ?_); rintro e w7 ⟨rfl, hx⟩; have cp7 := (hx.cell (p := ⟨w.heap.size, 0, none⟩) hz6).trans cp6; have cq7 := (hx.cell (p := ⟨w.heap.size, 1, none⟩) hz6).trans cq6; have hz7 := Nat.lt_of_lt_of_le hz6 hx.size; have HG7 := hid (grew_trans HG6.out hx); clear hx)
               | (go_at_call 47; (with_reducible refine (HLD.out  _ HG7.out).mono ?_); rintro e w8 ⟨rfl, hx⟩; have cp8 := (hx.cell (p := ⟨w.heap.size, 0, none⟩) hz7).trans cp7; have cq8 := (hx.cell (p := ⟨w.heap.size, 1, none⟩) hz7).trans cq7; have hz8 := Nat.lt_of_lt_of_le hz7 hx.size; have HG8 := hid (grew_trans HG7.out hx); clear hx)
               | (go_at_call 17; (with_reducible refine (HAW.out  _ HG8.out).mono ?_); rintro e w9 ⟨rfl, hx⟩; have cp9 := (hx.cell (p := ⟨w.heap.size, 0, none⟩) hz8).trans cp8; have cq9 := (hx.cell (p := ⟨w.heap.size, 1, none⟩) hz8).trans cq8; have hz9 := Nat.lt_of_lt_of_le hz8 hx.size; have HG9 := hid (grew_trans HG8.out hx); clear hx))
             go_ret
             exact ⟨rfl, HG9.out⟩)
          | (go_wp2_with (first
               | (go_at_call 15; (with_reducible refine (HLO.out  _ HG0.out).mono ?_); rintro e w1 ⟨rfl, hx⟩; have cp1 := (hx.cell (p := ⟨w.heap.size, 0, none⟩) hz0).trans cp0; have cq1 := (hx.cell (p := ⟨w.heap.size, 1, none⟩) hz0).trans cq0; have hz1 := Nat.lt_of_lt_of_le hz0 hx.size; have HG1 := hid (grew_trans HG0.out hx); clear hx)
               | (go_at_call 16; (with_reducible refine (HVA.out  _ HG1.out).mono ?_); rintro e w2 ⟨rfl, hx⟩; have cp2 := (hx.cell (p := ⟨w.heap.size, 0, none⟩) hz1).trans cp1; have cq2 := (hx.cell (p := ⟨w.heap.size, 1, none⟩) hz1).trans cq1; have hz2 := Nat.lt_of_lt_of_le hz1 hx.size; have HG2 := hid (grew_trans HG1.out hx); clear hx)
               | (go_at_call 26; (with_reducible refine (HMA.out  _ HG2.out).mono ?_); rintro e w3 ⟨rfl, hx⟩; have cp3 := (hx.cell (p := ⟨w.heap.size, 0, none⟩) hz2).trans cp2; have cq3 := (hx.cell (p := ⟨w.heap.size, 1, none⟩) hz2).trans cq2; have hz3 := Nat.lt_of_lt_of_le hz2 hx.size; have HG3 := hid (grew_trans HG2.out hx); clear hx)
               | (go_at_call 45; (with_reducible refine (HWY.out  _ HG3.out).mono ?_); rintro e w4 ⟨u, rfl, hx, hu⟩; have cp4 := (hx.cell (p := ⟨w.heap.size, 0, none⟩) hz3).trans cp3; have cq4 := (hx.cell (p := ⟨w.heap.size, 1, none⟩) hz3).trans cq3; have hz4 := Nat.lt_of_lt_of_le hz3 hx.size; have HG4 := hid (grew_trans HG3.out hx); obtain ⟨ua, uc, rfl⟩ : ∃ a c, u = .slice a 0 c := isWd_slice hu; clear hu; clear hx)
               | (go_at_call 29; (with_reducible refine (HRC.out  _ HG4.out).mono ?_); rintro e w5 ⟨u6, rfl, hx, hu⟩; have cp5 := (hx.cell (p := ⟨w.heap.size, 0, none⟩) hz4).trans cp4; have cq5 := (hx.cell (p := ⟨w.heap.size, 1, none⟩) hz4).trans cq4; have hz5 := Nat.lt_of_lt_of_le hz4 hx.size; have HG5 := hid (grew_trans HG4.out hx); obtain ⟨ta, tn, tc, rfl⟩ := wd_shape hu; have HT := hid hu; clear hu; clear hx)
               | (go_at_call 46; (with_reducible refine (HIP.out  _ HG5.out).mono ?_); rintro e w6 ⟨rfl, hx⟩; have cp6 := (hx.cell (p := ⟨w.heap.size, 0, none⟩) hz5).trans cp5; have cq6 := (hx.cell (p := ⟨w.heap.size, 1, none⟩) hz5).trans cq5; have hz6 := Nat.lt_of_lt_of_le hz5 hx.size; have HG6 := hid (grew_trans HG5.out hx); have HT1 := hid (HT.out.grew hx); clear hx)
               | (go_at_call 32; (with_reducible refine (HIN.out _ _ HT1.out HG6.out).mono ?_); rintro e w7 ⟨rfl, hx⟩; have cp7 := (hx.cell (p := ⟨w.heap.size, 0, none⟩) hz6).trans cp6; have cq7 := (hx.cell (p := ⟨w.heap.size, 1, none⟩) hz6).trans cq6; have hz7 := Nat.lt_of_lt_of_le hz6 hx.size; have HG7 := hid (grew_trans HG6.out hx); clear hx)
               | (go_at_call 17; (with_reducible refine (HAW.out  _ HG7.out).mono ?_); rintro e w8 ⟨rfl, hx⟩; have cp8 := (hx.cell (p := ⟨w.heap.size, 0, none⟩) hz7).trans cp7; have cq8 := (hx.cell (p := ⟨w.heap.size, 1, none⟩) hz7).trans cq7; have hz8 := Nat.lt_of_lt_of_le hz7 hx.size; have HG8 := hid (grew_trans HG7.out hx); clear hx))
             go_ret
             exact ⟨rfl, HG8.out⟩))
      | some l =>
        simp only [wayL, Option.isSome_some] at HWY HIN
        obtain ⟨h1, h2⟩ := hwp l hwy
        have h3 := hws l hwy
        have h4 := hwl l hwy
        have HLL0 : (pInts l).length = l.length := by simp [pInts]
        obtain ⟨ll, hll⟩ : ∃ n, l.length = n := ⟨_, rfl⟩
        rw [hll] at h3 h4 HLL0
        have HLL := hid HLL0
        have HI3 := hid (fun (u : Value) (W : World) (hu : IsWd W u (pInts l)) (h : Grew w W) => HI2.out u (pInts l) W hu h)
        rw [HIA.out, h1] at HI3
        simp only at HI3
        have HL3 := hid (fun (u : Value) (W : World) (hu : IsWd W u (pInts l)) (h : Grew w W) => HL2.out u (pInts l) W hu h)
        rw [h2] at HL3
        have hllI : (ll : Int) < (N : Int) := by omega
        have hlld : decide ((ll : Int) < (N : Int)) = true := decide_eq_true hllI
        have hlle : decide (ll < N) = true := decide_eq_true h3
        clear hwe hwl hwp hws hwy h1 h2 hll HLL0
        have HCMP := hid h4
        clear h4
        cases ip <;> cases lb
        all_goals (
          first
          | (have hge := HCMP.out rfl rfl
             have hgi : ¬ ((pl : Int) < (ll : Int)) := by omega
             have hgd : decide ((pl : Int) < (ll : Int)) = false := decide_eq_false hgi
             have hge2 : decide (pl < ll) = false := decide_eq_false (by omega)
             clear hge)
          | skip
          clear HCMP
          go_enter Try.func10, Try.ntmps10
          first
          | (go_wp2_with (first
               | (go_at_call 15; (with_reducible refine (HLO.out  _ HG0.out).mono ?_); rintro e w1 ⟨rfl, hx⟩; have cp1 := (hx.cell (p := ⟨w.heap.size, 0, none⟩) hz0).trans cp0; have cq1 := (hx.cell (p := ⟨w.heap.size, 1, none⟩) hz0).trans cq0; have hz1 := Nat.lt_of_lt_of_le hz0 hx.size; have HG1 := hid (grew_trans HG0.out hx); clear hx)
               | (go_at_call 16; (with_reducible refine (HVA.out  _ HG1.out).mono ?_); rintro e w2 ⟨rfl, hx⟩; have cp2 := (hx.cell (p := ⟨w.heap.size, 0, none⟩) hz1).trans cp1; have cq2 := (hx.cell (p := ⟨w.heap.size, 1, none⟩) hz1).trans cq1; have hz2 := Nat.lt_of_lt_of_le hz1 hx.size; have HG2 := hid (grew_trans HG1.out hx); clear hx)
               | (go_at_call 26; (with_reducible refine (HMA.out  _ HG2.out).mono ?_); rintro e w3 ⟨rfl, hx⟩; have cp3 := (hx.cell (p := ⟨w.heap.size, 0, none⟩) hz2).trans cp2; have cq3 := (hx.cell (p := ⟨w.heap.size, 1, none⟩) hz2).trans cq2; have hz3 := Nat.lt_of_lt_of_le hz2 hx.size; have HG3 := hid (grew_trans HG2.out hx); clear hx)
               | (go_at_call 45; (with_reducible refine (HWY.out  _ HG3.out).mono ?_); rintro e w4 ⟨u, rfl, hx, hu⟩; have cp4 := (hx.cell (p := ⟨w.heap.size, 0, none⟩) hz3).trans cp3; have cq4 := (hx.cell (p := ⟨w.heap.size, 1, none⟩) hz3).trans cq3; have hz4 := Nat.lt_of_lt_of_le hz3 hx.size; have HG4 := hid (grew_trans HG3.out hx); obtain ⟨ua, uc, hue⟩ := isWd_slice hu; rw [HLL.out] at hue; subst hue; have HU := hid hu; clear hu; clear hx)
               | (go_at_call 29; (with_reducible refine (HRC.out  _ HG4.out).mono ?_); rintro e w5 ⟨u6, rfl, hx, hu⟩; have cp5 := (hx.cell (p := ⟨w.heap.size, 0, none⟩) hz4).trans cp4; have cq5 := (hx.cell (p := ⟨w.heap.size, 1, none⟩) hz4).trans cq4; have hz5 := Nat.lt_of_lt_of_le hz4 hx.size; have HG5 := hid (grew_trans HG4.out hx); obtain ⟨ta, tn, tc, rfl⟩ := wd_shape hu; have HT := hid hu; clear hu; have HU1 := hid (HU.out.grew hx); clear hx)
               | (go_at_call 46; (with_reducible refine (HIP.out  _ HG5.out).mono ?_); rintro e w6 ⟨rfl, hx⟩; have cp6 := (hx.cell (p := ⟨w.heap.size, 0, none⟩) hz5).trans cp5; have cq6 := (hx.cell (p := ⟨w.heap.size, 1, none⟩) hz5).trans cq5; have hz6 := Nat.lt_of_lt_of_le hz5 hx.size; have HG6 := hid (grew_trans HG5.out hx); have HT1 := hid (HT.out.grew hx); have HU2 := hid (HU1.out.grew hx); clear hx)
               | (go_at_call 32; (with_reducible refine (HIN.out _ _ HT1.out HG6.out).mono ?_); rintro e w7 ⟨rfl, hx⟩; have HU3 := hid (HU2.out.grew hx); have cp7 := (hx.cell (p := ⟨w.heap.size, 0, none⟩) hz6).trans cp6; have cq7 := (hx.cell (p := ⟨w.heap.size, 1, none⟩) hz6).trans cq6; have hz7 := Nat.lt_of_lt_of_le hz6 hx.size; have HG7 := hid (grew_trans HG6.out hx); clear hx)
               | (go_at_call 47; (with_reducible refine (HLD.out  _ HG7.out).mono ?_); rintro e w8 ⟨rfl, hx⟩; have cp8 := (hx.cell (p := ⟨w.heap.size, 0, none⟩) hz7).trans cp7; have cq8 := (hx.cell (p := ⟨w.heap.size, 1, none⟩) hz7).trans cq7; have hz8 := Nat.lt_of_lt_of_le hz7 hx.size; have HG8 := hid (grew_trans HG7.out hx); have HU4 := hid (HU3.out.grew hx); clear hx)
               | (go_at_call 46; (with_reducible refine (HI3.out _ _ HU4.out HG8.out).mono ?_); rintro e w9 ⟨rfl, hx⟩; have HU5 := hid (HU4.out.grew hx); have cp9 := (hx.cell (p := ⟨w.heap.size, 0, none⟩) hz8).trans cp8; have cq9 := (hx.cell (p := ⟨w.heap.size, 1, none⟩) hz8).trans cq8; have hz9 := Nat.lt_of_lt_of_le hz8 hx.size; have HG9 := hid (grew_trans HG8.out hx); clear hx)
               | (go_at_call 47; (with_reducible refine (HL3.out _ _ HU5.out HG9.out).mono ?_); rintro e w10 ⟨rfl, hx⟩; have cp10 := (hx.cell (p := ⟨w.heap.size, 0, none⟩) hz9).trans cp9; have cq10 := (hx.cell (p := ⟨w.heap.size, 1, none⟩) hz9).trans cq9; have hz10 := Nat.lt_of_lt_of_le hz9 hx.size; have HG10 := hid (grew_trans HG9.out hx); clear hx)
               | (go_at_call 17; (with_reducible refine (HAW.out  _ HG10.out).mono ?_); rintro e w11 ⟨rfl, hx⟩; have cp11 := (hx.cell (p := ⟨w.heap.size, 0, none⟩) hz10).trans cp10; have cq11 := (hx.cell (p := ⟨w.heap.size, 1, none⟩) hz10).trans cq10; have hz11 := Nat.lt_of_lt_of_le hz10 hx.size; have HG11 := hid (grew_trans HG10.out hx); clear hx))
             go_ret
             exact ⟨rfl, HG11.out⟩)
          | (go_wp2_with (first
               | (go_at_call 15; (with_reducible refine (HLO.out  _ HG0.out).mono ?_); rintro e w1 ⟨rfl, hx⟩; have cp1 := (hx.cell (p := ⟨w.heap.size, 0, none⟩) hz0).trans cp0; have cq1 := (hx.cell (p := ⟨w.heap.size, 1, none⟩) hz0).trans cq0; have hz1 := Nat.lt_of_lt_of_le hz0 hx.size; have HG1 := hid (grew_trans HG0.out hx); clear hx)
               | (go_at_call 16; (with_reducible refine (HVA.out  _ HG1.out).mono ?_); rintro e w2 ⟨rfl, hx⟩; have cp2 := (hx.cell (p := ⟨w.heap.size, 0, none⟩) hz1).trans cp1; have cq2 := (hx.cell (p := ⟨w.heap.size, 1, none⟩) hz1).trans cq1; have hz2 := Nat.lt_of_lt_of_le hz1 hx.size; have HG2 := hid (grew_trans HG1.out hx); clear hx)
               | (go_at_call 26; (with_reducible refine (HMA.out  _ HG2.out).mono ?_); rintro e w3 ⟨rfl, hx⟩; have cp3 := (hx.cell (p := ⟨w.heap.size, 0, none⟩) hz2).trans cp2; have cq3 := (hx.cell (p := ⟨w.heap.size, 1, none⟩) hz2).trans cq2; have hz3 := Nat.lt_of_lt_of_le hz2 hx.size; have HG3 := hid (grew_trans HG2.out hx); clear hx)
               | (go_at_call 45; (with_reducible refine (HWY.out  _ HG3.out).mono ?_); rintro e w4 ⟨u, rfl, hx, hu⟩; have cp4 := (hx.cell (p := ⟨w.heap.size, 0, none⟩) hz3).trans cp3; have cq4 := (hx.cell (p := ⟨w.heap.size, 1, none⟩) hz3).trans cq3; have hz4 := Nat.lt_of_lt_of_le hz3 hx.size; have HG4 := hid (grew_trans HG3.out hx); obtain ⟨ua, uc, hue⟩ := isWd_slice hu; rw [HLL.out] at hue; subst hue; have HU := hid hu; clear hu; clear hx)
               | (go_at_call 29; (with_reducible refine (HRC.out  _ HG4.out).mono ?_); rintro e w5 ⟨u6, rfl, hx, hu⟩; have cp5 := (hx.cell (p := ⟨w.heap.size, 0, none⟩) hz4).trans cp4; have cq5 := (hx.cell (p := ⟨w.heap.size, 1, none⟩) hz4).trans cq4; have hz5 := Nat.lt_of_lt_of_le hz4 hx.size; have HG5 := hid (grew_trans HG4.out hx); obtain ⟨ta, tn, tc, rfl⟩ := wd_shape hu; have HT := hid hu; clear hu; have HU1 := hid (HU.out.grew hx); clear hx)
               | (go_at_call 46; (with_reducible refine (HIP.out  _ HG5.out).mono ?_); rintro e w6 ⟨rfl, hx⟩; have cp6 := (hx.cell (p := ⟨w.heap.size, 0, none⟩) hz5).trans cp5; have cq6 := (hx.cell (p := ⟨w.heap.size, 1, none⟩) hz5).trans cq5; have hz6 := Nat.lt_of_lt_of_le hz5 hx.size; have HG6 := hid (grew_trans HG5.out hx); have HT1 := hid (HT.out.grew hx); have HU2 := hid (HU1.out.grew hx); clear hx)
               | (go_at_call 32; (with_reducible refine (HIN.out _ _ HT1.out HG6.out).mono ?_); rintro e w7 ⟨rfl, hx⟩; have HU4 := hid (HU2.out.grew hx); have cp7 := (hx.cell (p := ⟨w.heap.size, 0, none⟩) hz6).trans cp6; have cq7 := (hx.cell (p := ⟨w.heap.size, 1, none⟩) hz6).trans cq6; have hz7 := Nat.lt_of_lt_of_le hz6 hx.size; have HG7 := hid (grew_trans HG6.out hx); clear hx)
               | (go_at_call 46; (with_reducible refine (HI3.out _ _ HU4.out HG7.out).mono ?_); rintro e w8 ⟨rfl, hx⟩; have HU5 := hid (HU4.out.grew hx); have cp8 := (hx.cell (p := ⟨w.heap.size, 0, none⟩) hz7).trans cp7; have cq8 := (hx.cell (p := ⟨w.heap.size, 1, none⟩) hz7).trans cq7; have hz8 := Nat.lt_of_lt_of_le hz7 hx.size; have HG8 := hid (grew_trans HG7.out hx); clear hx)
               | (go_at_call 47; (with_reducible refine (HL3.out _ _ HU5.out HG8.out).mono ?_); rintro e w9 ⟨rfl, hx⟩; have cp9 := (hx.cell (p := ⟨w.heap.size, 0, none⟩) hz8).trans cp8; have cq9 := (hx.cell (p := ⟨w.heap.size, 1, none⟩) hz8).trans cq8; have hz9 := Nat.lt_of_lt_of_le hz8 hx.size; have HG9 := hid (grew_trans HG8.out hx); clear hx)
               | (go_at_call 17; (with_reducible refine (HAW.out  _ HG9.out).mono ?_); rintro e w10 ⟨rfl, hx⟩; have cp10 := (hx.cell (p := ⟨w.heap.size, 0, none⟩) hz9).trans cp9; have cq10 := (hx.cell (p := ⟨w.heap.size, 1, none⟩) hz9).trans cq9; have hz10 := Nat.lt_of_lt_of_le hz9 hx.size; have HG10 := hid (grew_trans HG9.out hx); clear hx))
             go_ret
             exact ⟨rfl, HG10.out⟩))
end Go.Proofs.Ytojkohpniokaaaa
