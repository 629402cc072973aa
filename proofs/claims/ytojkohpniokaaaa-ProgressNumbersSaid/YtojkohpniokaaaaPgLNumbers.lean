/- The law ProgressNumbers (9). Printed by gen_pgnumbers.py. -/
import Derived.Test.YtojkohpniokaaaaPgRef3
import Derived.Test.YtojkohpniokaaaaPgLaw0
namespace Go.Proofs.Ytojkohpniokaaaa
open Go Go.RowKit Go.Lin Go.Lin.Pg

set_option maxHeartbeats 4000000 in
set_option maxRecDepth 20000 in
theorem progressNumbers_law (g : Gr) (t : Int) (v : Value) (w : World) (hn : -9223372036854775808 ≤ g.n ∧ g.n ≤ 9223372036854775807) (hv : IsGr w v g) :
    Calls Try.prog 9 #[v, .int .i64 t] w fun e w' => e = .returned (.bool true) ∧ Grew w w' := by
  have HV := hid hv
  obtain ⟨s, rfl, hmv0⟩ := hv
  obtain ⟨gl, hgl⟩ : ∃ gl, g.ms.length = gl := ⟨_, rfl⟩
  obtain ⟨sa, sc, rfl, ⟨hgl1, hgl2⟩, hmvs0⟩ := hmv0
  rw [hgl] at HV hgl1 hgl2 ⊢
  have HGL := hid hgl
  have HMVS := hid hmvs0
  clear hmvs0 hgl
  obtain ⟨w0, hw0, g0, cp0, cq0, hz0⟩ := box2 w (.int .i64 g.n) (.slice sa gl sc) 24
  have HG0 := hid g0
  have HAW := hid (fun (W : World) (_ : Grew w W) => awake17_any W)
  have HLO := hid (fun (W : World) (h : Grew w W) => long15_any _ g W (HV.out.grew h))
  obtain ⟨lo, hlo⟩ : ∃ b, decide ((g.ms.length : Int) > 100) = b := ⟨_, rfl⟩
  rw [hlo] at HLO
  clear hlo
  cases lo with
  | true =>
    go_enter Try.func9, Try.ntmps9
    go_wp2_with (first
      | (go_at_call 15; (with_reducible refine (HLO.out  _ HG0.out).mono ?_); rintro e w1 ⟨rfl, hx⟩; have cp1 := (hx.cell (p := ⟨w.heap.size, 0, none⟩) hz0).trans cp0; have cq1 := (hx.cell (p := ⟨w.heap.size, 1, none⟩) hz0).trans cq0; have hz1 := Nat.lt_of_lt_of_le hz0 hx.size; have HG1 := hid (grew_trans HG0.out hx); clear hx)
      | (go_at_call 17; (with_reducible refine (HAW.out  _ HG1.out).mono ?_); rintro e w2 ⟨rfl, hx⟩; have cp2 := (hx.cell (p := ⟨w.heap.size, 0, none⟩) hz1).trans cp1; have cq2 := (hx.cell (p := ⟨w.heap.size, 1, none⟩) hz1).trans cq1; have hz2 := Nat.lt_of_lt_of_le hz1 hx.size; have HG2 := hid (grew_trans HG1.out hx); clear hx))
    go_ret
    exact ⟨rfl, HG2.out⟩
  | false =>
    have H1 := hid (fun (W : World) (h : Grew w W) => everybody25_any _ g W hn (HV.out.grew h))
    have H2 := hid (fun (W : World) (h : Grew w W) => rEverybody42_any _ g W (HV.out.grew h))
    have H3 := hid (fun (W : World) (h : Grew w W) => longest27_any _ g W hn (HV.out.grew h))
    have H4 := hid (fun (W : World) (h : Grew w W) => longest43_any _ g W (HV.out.grew h))
    have H5 := hid (fun (W : World) (h : Grew w W) => bound28_any _ g t W hn (HV.out.grew h))
    have H6 := hid (fun (W : World) (h : Grew w W) => bound44_any _ g t W (HV.out.grew h))
    obtain ⟨⟨hb, he⟩, hh⟩ : ∃ x, everyA g = x := ⟨_, rfl⟩
    obtain ⟨⟨l, le⟩, hl⟩ : ∃ x, greatA g 0 0 = x := ⟨_, rfl⟩
    obtain ⟨⟨b, be⟩, hbb⟩ : ∃ x, greatA g 1 t = x := ⟨_, rfl⟩
    rw [hh] at H1 H2
    rw [hl] at H3 H4
    rw [hbb] at H5 H6
    simp only at H1 H2 H3 H4 H5 H6
    clear hh hl hbb
    go_enter Try.func9, Try.ntmps9
    go_wp2_with (first
      | (go_at_call 15; (with_reducible refine (HLO.out  _ HG0.out).mono ?_); rintro e w1 ⟨rfl, hx⟩; have cp1 := (hx.cell (p := ⟨w.heap.size, 0, none⟩) hz0).trans cp0; have cq1 := (hx.cell (p := ⟨w.heap.size, 1, none⟩) hz0).trans cq0; have hz1 := Nat.lt_of_lt_of_le hz0 hx.size; have HG1 := hid (grew_trans HG0.out hx); clear hx)
      | (go_at_call 25; (with_reducible refine (H1.out  _ HG1.out).mono ?_); rintro e w2 ⟨rfl, hx⟩; have cp2 := (hx.cell (p := ⟨w.heap.size, 0, none⟩) hz1).trans cp1; have cq2 := (hx.cell (p := ⟨w.heap.size, 1, none⟩) hz1).trans cq1; have hz2 := Nat.lt_of_lt_of_le hz1 hx.size; have HG2 := hid (grew_trans HG1.out hx); clear hx)
      | (go_at_call 42; (with_reducible refine (H2.out  _ HG2.out).mono ?_); rintro e w3 ⟨rfl, hx⟩; have cp3 := (hx.cell (p := ⟨w.heap.size, 0, none⟩) hz2).trans cp2; have cq3 := (hx.cell (p := ⟨w.heap.size, 1, none⟩) hz2).trans cq2; have hz3 := Nat.lt_of_lt_of_le hz2 hx.size; have HG3 := hid (grew_trans HG2.out hx); clear hx)
      | (go_at_call 27; (with_reducible refine (H3.out  _ HG3.out).mono ?_); rintro e w4 ⟨rfl, hx⟩; have cp4 := (hx.cell (p := ⟨w.heap.size, 0, none⟩) hz3).trans cp3; have cq4 := (hx.cell (p := ⟨w.heap.size, 1, none⟩) hz3).trans cq3; have hz4 := Nat.lt_of_lt_of_le hz3 hx.size; have HG4 := hid (grew_trans HG3.out hx); clear hx)
      | (go_at_call 43; (with_reducible refine (H4.out  _ HG4.out).mono ?_); rintro e w5 ⟨rfl, hx⟩; have cp5 := (hx.cell (p := ⟨w.heap.size, 0, none⟩) hz4).trans cp4; have cq5 := (hx.cell (p := ⟨w.heap.size, 1, none⟩) hz4).trans cq4; have hz5 := Nat.lt_of_lt_of_le hz4 hx.size; have HG5 := hid (grew_trans HG4.out hx); clear hx)
      | (go_at_call 28; (with_reducible refine (H5.out  _ HG5.out).mono ?_); rintro e w6 ⟨rfl, hx⟩; have cp6 := (hx.cell (p := ⟨w.heap.size, 0, none⟩) hz5).trans cp5; have cq6 := (hx.cell (p := ⟨w.heap.size, 1, none⟩) hz5).trans cq5; have hz6 := Nat.lt_of_lt_of_le hz5 hx.size; have HG6 := hid (grew_trans HG5.out hx); clear hx)
      | (go_at_call 44; (with_reducible refine (H6.out  _ HG6.out).mono ?_); rintro e w7 ⟨rfl, hx⟩; have cp7 := (hx.cell (p := ⟨w.heap.size, 0, none⟩) hz6).trans cp6; have cq7 := (hx.cell (p := ⟨w.heap.size, 1, none⟩) hz6).trans cq6; have hz7 := Nat.lt_of_lt_of_le hz6 hx.size; have HG7 := hid (grew_trans HG6.out hx); clear hx)
      | (go_at_call 17; (with_reducible refine (HAW.out  _ HG7.out).mono ?_); rintro e w8 ⟨rfl, hx⟩; have cp8 := (hx.cell (p := ⟨w.heap.size, 0, none⟩) hz7).trans cp7; have cq8 := (hx.cell (p := ⟨w.heap.size, 1, none⟩) hz7).trans cq7; have hz8 := Nat.lt_of_lt_of_le hz7 hx.size; have HG8 := hid (grew_trans HG7.out hx); clear hx))
    go_ret
    exact ⟨rfl, HG8.out⟩
end Go.Proofs.Ytojkohpniokaaaa
