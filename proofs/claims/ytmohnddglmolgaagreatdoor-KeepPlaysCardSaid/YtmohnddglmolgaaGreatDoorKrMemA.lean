/- The reference's memory in its block; walks: IsCell (103), AreCells (105), forget (71), fail (106), step (104). The reference's memory; walks: fail (106), step (104), Write (74), Flush (75), Fence (76). The reference's memory; walks: Write (74), Flush (75), Fence (76). -/
import Derived.Test.YtmohnddglmolgaaGreatDoorKpStA
import Derived.Test.YtmohnddglmolgaaGreatDoorKpAonA
import Derived.Deep.RegionLaw
namespace Go.Proofs.YtmohnddglmolgaaGreatDoor
open Go Go.RowKit Go.Lin Go.Lin.Kp

/-- The cells of the reference's memory. -/
def remAt (M : Mem) (ov : Value) (i : Nat) : Value :=
  if i < 64 then .int .i64 (M.fresh i) else if i < 128 then .int .i64 (M.kept (i - 64)) else if i < 192 then .int .i64 ((M.notes (i - 128)).getD (-1)) else
  if i = 192 then .bool M.on else if i = 193 then .int .i64 (M.plan : Int) else if i = 194 then ov else
  if i = 195 then .int .i64 (M.steps : Int) else if i = 196 then .int .i64 (M.fails : Int) else .int .i64 (M.opened : Int)

/-- Block bm is the memory M, its plan's cells ov. F: its blocks. -/
structure RMemIs (w : World) (bm : Nat) (ov : Value) (M : Mem) (F : Nat → Prop) : Prop where
  row : w.rowIs bm 133 198 (remAt M ov)
  early : IsInts (fun k _ => F k ∧ k ≠ bm) w ov M.early
  inM : F bm
  lt : ∀ k, F k → k < w.heap.size

def IsRMem (w : World) (bm : Nat) (M : Mem) (F : Nat → Prop) : Prop := ∃ ov, RMemIs w bm ov M F

section
variable {w w' : World} {bm : Nat} {ov : Value} {M : Mem} {F : Nat → Prop}

theorem RMemIs.keeps {may : Nat → Obj → Prop} (h : RMemIs w bm ov M F) (hk : Keeps may w w') (hm : ∀ k o, F k → ¬ may k o) : RMemIs w' bm ov M F :=
  ⟨rowIs_keeps h.row hk (fun _ => hm _ _ h.inM), h.early.keeps hk (fun k o hs => hm k o hs.1), h.inM, fun k hF => Nat.lt_of_lt_of_le (h.lt k hF) hk.size⟩
theorem IsRMem.keeps {may : Nat → Obj → Prop} (h : IsRMem w bm M F) (hk : Keeps may w w') (hm : ∀ k o, F k → ¬ may k o) : IsRMem w' bm M F := by
  obtain ⟨ov, h⟩ := h; exact ⟨ov, h.keeps hk hm⟩
theorem RMemIs.grew (h : RMemIs w bm ov M F) (hg : Grew w w') : RMemIs w' bm ov M F := h.keeps (may := fun _ _ => False) hg.keeps (fun _ _ _ h => h)
theorem IsRMem.grew (h : IsRMem w bm M F) (hg : Grew w w') : IsRMem w' bm M F := h.keeps (may := fun _ _ => False) hg.keeps (fun _ _ _ h => h)
theorem IsRMem.lt (h : IsRMem w bm M F) : bm < w.heap.size := by obtain ⟨ov, h⟩ := h; exact h.row.lt
theorem IsRMem.ltF (h : IsRMem w bm M F) : ∀ k, F k → k < w.heap.size := by obtain ⟨ov, h⟩ := h; exact h.lt
theorem IsRMem.inM (h : IsRMem w bm M F) : F bm := by obtain ⟨ov, h⟩ := h; exact h.inM

theorem RMemIs.cF (h : RMemIs w bm ov M F) {i : Nat} (hi : i < 64) : w.cell? ⟨bm, i, none⟩ = some (.int .i64 (M.fresh i)) := by
  rw [h.row.cell (by omega)]; unfold remAt; rw [if_pos hi]
theorem RMemIs.cK (h : RMemIs w bm ov M F) {i : Nat} (hi : i < 64) : w.cell? ⟨bm, 64 + i, none⟩ = some (.int .i64 (M.kept i)) := by
  rw [h.row.cell (by omega)]; unfold remAt; rw [if_neg (by omega), if_pos (by omega), show 64 + i - 64 = i by omega]
theorem RMemIs.cN (h : RMemIs w bm ov M F) {i : Nat} (hi : i < 64) : w.cell? ⟨bm, 128 + i, none⟩ = some (.int .i64 ((M.notes i).getD (-1))) := by
  rw [h.row.cell (by omega)]; unfold remAt; rw [if_neg (by omega), if_neg (by omega), if_pos (by omega), show 128 + i - 128 = i by omega]
theorem RMemIs.cOn (h : RMemIs w bm ov M F) : w.cell? ⟨bm, 192, none⟩ = some (.bool M.on) := h.row.cell (by omega)
theorem RMemIs.cIn (h : RMemIs w bm ov M F) : w.cell? ⟨bm, 193, none⟩ = some (.int .i64 (M.plan : Int)) := h.row.cell (by omega)
theorem RMemIs.cOut (h : RMemIs w bm ov M F) : w.cell? ⟨bm, 194, none⟩ = some ov := h.row.cell (by omega)
theorem RMemIs.cS (h : RMemIs w bm ov M F) : w.cell? ⟨bm, 195, none⟩ = some (.int .i64 (M.steps : Int)) := h.row.cell (by omega)
theorem RMemIs.cFa (h : RMemIs w bm ov M F) : w.cell? ⟨bm, 196, none⟩ = some (.int .i64 (M.fails : Int)) := h.row.cell (by omega)
theorem RMemIs.cO (h : RMemIs w bm ov M F) : w.cell? ⟨bm, 197, none⟩ = some (.int .i64 (M.opened : Int)) := h.row.cell (by omega)
end

/-- Two memories' cells are the same. -/
theorem remAt_ext {f : Nat → Value} {M : Mem} {ov : Value} (h1 : ∀ i, i < 64 → f i = .int .i64 (M.fresh i)) (h2 : ∀ i, i < 64 → f (64 + i) = .int .i64 (M.kept i)) (h3 : ∀ i, i < 64 → f (128 + i) = .int .i64 ((M.notes i).getD (-1)))
    (h4 : f 192 = .bool M.on) (h5 : f 193 = .int .i64 (M.plan : Int)) (h6 : f 194 = ov) (h7 : f 195 = .int .i64 (M.steps : Int)) (h8 : f 196 = .int .i64 (M.fails : Int)) (h9 : f 197 = .int .i64 (M.opened : Int)) {i : Nat} (hi : i < 198) : f i = remAt M ov i := by
  by_cases a : i < 64
  · unfold remAt; rw [if_pos a]; exact h1 i a
  · by_cases b : i < 128
    · unfold remAt; rw [if_neg a, if_pos b, ← h2 (i - 64) (by omega), show 64 + (i - 64) = i by omega]
    · by_cases c : i < 192
      · unfold remAt; rw [if_neg a, if_neg b, if_pos c, ← h3 (i - 128) (by omega), show 128 + (i - 128) = i by omega]
      · rcases (show i = 192 ∨ i = 193 ∨ i = 194 ∨ i = 195 ∨ i = 196 ∨ i = 197 by omega) with rfl | rfl | rfl | rfl | rfl | rfl
        · exact h4
        · exact h5
        · exact h6
        · exact h7
        · exact h8
        · exact h9

theorem remAt_F (M : Mem) (ov : Value) {i : Nat} (hi : i < 64) : remAt M ov i = .int .i64 (M.fresh i) := by unfold remAt; rw [if_pos hi]
theorem remAt_K (M : Mem) (ov : Value) {i : Nat} (hi : i < 64) : remAt M ov (64 + i) = .int .i64 (M.kept i) := by unfold remAt; rw [if_neg (by omega), if_pos (by omega), show 64 + i - 64 = i by omega]
theorem remAt_N (M : Mem) (ov : Value) {i : Nat} (hi : i < 64) : remAt M ov (128 + i) = .int .i64 ((M.notes i).getD (-1)) := by
  unfold remAt; rw [if_neg (by omega), if_neg (by omega), if_pos (by omega), show 128 + i - 128 = i by omega]

/-! ### IsCell, AreCells -/

theorem rIsCell103_any (n : Int) (w : World) : Calls Tryz.prog 103 #[.int .i64 n] w fun e w' => e = .returned (.bool (isCell n)) ∧ w = w' := by
  have HB := hid (within92_any 0 n 63)
  go_enter Tryz.func103, Tryz.ntmps103
  go_wp2_with (go_at_call 92; (with_reducible refine (HB.out _).mono ?_); rintro e w1 ⟨rfl, rfl⟩)
  go_ret
  exact ⟨rfl, rfl⟩

theorem rAreCells105_any (v : Value) (l : List Int) (w : World) (hv : IsInts Any w v l) : Calls Tryz.prog 105 #[v] w fun e w' => e = .returned (.bool (areEarly l)) ∧ w = w' := by
  obtain ⟨a, cap, rfl, hm, hc⟩ := hv
  have HC := hid hc
  clear hc
  have HI := hid (fun n W => rIsCell103_any n W)
  unfold areEarly
  obtain ⟨n, hn⟩ : ∃ n, l.length = n := ⟨_, rfl⟩
  rw [hn] at HC hm ⊢
  have HN := hid hn
  clear hn
  by_cases h10 : 10 < n
  · have d : decide ((10 : Int) < (n : Int)) = true := by simp; omega
    have hd : decide (n ≤ 10) = false := by simp; omega
    rw [hd, Bool.false_and]
    clear h10 hd
    go_enter Tryz.func105, Tryz.ntmps105
    go_wp2
    go_ret
    exact ⟨rfl, rfl⟩
  have d : decide ((10 : Int) < (n : Int)) = false := by simp; omega
  have hd : decide (n ≤ 10) = true := by simp; omega
  rw [hd, Bool.true_and]
  clear h10 hd
  go_enter Tryz.func105, Tryz.ntmps105
  go_wp2
  go_loopg [3] n (fun gk iv wr => ∃ (j : Nat), j ≤ n ∧ iv = .int .i64 (j : Int) ∧ Hid (gk = n - j) ∧ Hid (∀ i, i < j → isCell (nth l i) = true) ∧ w = wr)
  case atStart => exact ⟨0, Nat.zero_le _, rfl, hid rfl, hid (fun i h => by omega), rfl⟩
  case round =>
    obtain ⟨j, hj, rfl, HGK, HS, rfl⟩ := hrel
    by_cases hlt : j < n
    · obtain ⟨b, off, o, rfl, hb, _, hcj⟩ := HC.out j hlt
      obtain ⟨x, hx⟩ : ∃ x, nth l j = x := ⟨_, rfl⟩
      rw [hx] at hcj
      obtain ⟨r, hr⟩ : ∃ r, isCell x = r := ⟨_, rfl⟩
      have HX := hid hx; have HR := hid hr
      have HII := hid (HI.out x)
      rw [hr] at HII
      clear hx hr
      cases r with
      | true =>
        go_wp2_with (go_at_call 103; (with_reducible refine (HII.out _).mono ?_); rintro e w1 ⟨rfl, rfl⟩)
        go_roundg (n - (j + 1))
        case measure => have := HGK.out; omega
        case rel =>
          exact ⟨j + 1, by omega, by go_num, hid rfl, hid (fun i hi => by
            by_cases e : i = j
            · rw [e, HX.out]; exact HR.out
            · exact HS.out i (by omega)), rfl⟩
      | false =>
        go_wp2_with (go_at_call 103; (with_reducible refine (HII.out _).mono ?_); rintro e w1 ⟨rfl, rfl⟩)
        go_ret
        refine ⟨?_, rfl⟩
        have : l.all isCell = false := by
          rw [List.all_eq_false]
          refine ⟨x, ?_, by rw [HR.out]; decide⟩
          have hjl : j < l.length := by rw [HN.out]; exact hlt
          rw [← HX.out, nth_lt hjl]; exact List.getElem_mem hjl
        rw [this]; rfl
    · obtain rfl : j = n := by omega
      go_wp2
      go_ret
      refine ⟨?_, rfl⟩
      have : l.all isCell = true := by
        rw [List.all_eq_true]
        intro y hy
        obtain ⟨i, hi, rfl⟩ := List.getElem_of_mem hy
        have := HS.out i (by rw [← HN.out]; exact hi)
        rw [nth_lt hi] at this; exact this
      rw [this]; rfl

/-! ### forget -/

/-- All notes are taken away from a row. -/
def forgot (f : Nat → Value) (j : Nat) (i : Nat) : Value := if 128 ≤ i ∧ i < 128 + j then .int .i64 (-1) else f i

set_option maxHeartbeats 1000000 in
theorem forget71_any (bm : Nat) (f : Nat → Value) (w : World) (h : w.rowIs bm 133 198 f) : Calls Tryz.prog 71 #[ptr bm] w fun e w' => e = .returned (.tuple #[]) ∧ w'.rowIs bm 133 198 (forgot f 64) ∧ Keeps (fun k _ => k = bm) w w' := by
  have HH := hid h
  clear h
  go_enter Tryz.func71, Tryz.ntmps71
  go_wp2
  go_loopg [2] 64 (fun gk iv wr => ∃ (j : Nat), j ≤ 64 ∧ iv = .int .i64 (j : Int) ∧ Hid (gk = 64 - j) ∧ Hid (wr.rowIs bm 133 198 (forgot f j)) ∧ Hid (Keeps (fun k _ => k = bm) w wr))
  case atStart => exact ⟨0, Nat.zero_le _, rfl, hid rfl, hid (HH.out.congr fun i _ => by unfold forgot; rw [if_neg (by omega)]), hid (Keeps.refl _ _)⟩
  case round =>
    obtain ⟨j, hj, rfl, HGK, HR, HK⟩ := hrel
    rename World => wr
    by_cases hlt : j < 64
    · have hltI : (j : Int) < 64 := by omega
      have cc := HR.out.cell (i := 128 + j) (by omega)
      have ff := HR.out.frozen (128 + j)
      rw [show forgot f j (128 + j) = f (128 + j) by unfold forgot; rw [if_neg (by omega)]] at cc
      go_wp2
      go_roundg (64 - (j + 1))
      case measure => have := HGK.out; omega
      case rel =>
        refine ⟨j + 1, by omega, by go_num, hid rfl, hid ((HR.out.set (128 + j) _).congr fun i hi => ?_), hid (HK.out.trans (keeps_set1 _ _ fun _ => rfl))⟩
        unfold forgot
        by_cases e : i = 128 + j
        · subst e; rw [if_pos rfl, if_pos (by omega)]
        · rw [if_neg e]
          by_cases h2 : 128 ≤ i ∧ i < 128 + j
          · rw [if_pos h2, if_pos (by omega)]
          · rw [if_neg h2, if_neg (by omega)]
    · obtain rfl : j = 64 := by omega
      go_wp2
      go_end0
      exact ⟨rfl, HR.out, HK.out⟩

end Go.Proofs.YtmohnddglmolgaaGreatDoor
namespace Go.Proofs.YtmohnddglmolgaaGreatDoor
open Go Go.RowKit Go.Lin Go.Lin.Kp

/-- What a call of the reference leaves. -/
def RLeft (w : World) (bm : Nat) (F : Nat → Prop) (v : Value) (M : Mem) (e : Ending) (w' : World) : Prop := e = .returned v ∧ IsRMem w' bm M F ∧ Keeps (InF F) w w'

theorem rKeeps {w w' : World} {bm : Nat} {F : Nat → Prop} (h : Keeps (fun k _ => k = bm) w w') (hF : F bm) : Keeps (InF F) w w' := h.mono fun k _ e => by rw [e]; exact hF

/-- A memory whose block was turned. -/
theorem RMemIs.turned {w w' : World} {bm : Nat} {ov : Value} {M M' : Mem} {F : Nat → Prop} (h : RMemIs w bm ov M F) (hk : Keeps (fun k _ => k = bm) w w') (hr : w'.rowIs bm 133 198 (remAt M' ov)) (he : M'.early = M.early) : RMemIs w' bm ov M' F :=
  ⟨hr, by rw [he]; exact h.early.keeps hk (fun k o hs e => hs.2 e), h.inM, fun k e => Nat.lt_of_lt_of_le (h.lt k e) hk.size⟩

set_option maxHeartbeats 4000000 in
set_option maxRecDepth 20000 in
theorem rfail106_any (bm : Nat) (M : Mem) (F : Nat → Prop) (v : Value) (l : List Int) (w : World) (h : IsRMem w bm M F) (hsz : M.fails < 1000000000) (hl : areEarly l = true) (hv : IsInts (fun k _ => k ≠ bm) w v l) :
    Calls Tryz.prog 106 #[ptr bm, v] w (RLeft w bm F (.tuple #[]) (M.fail l)) := by
  obtain ⟨ov, h⟩ := h
  obtain ⟨a, cap, rfl, hm, hc⟩ := hv
  have hcells : ∀ c ∈ l, 0 ≤ c ∧ c ≤ 63 := by
    intro c hc2
    unfold areEarly at hl
    rw [Bool.and_eq_true, List.all_eq_true] at hl
    exact isCell_iff.1 (hl.2 c hc2)
  have HC := hid hc; have HL := hid hcells; have HH := hid h
  have HFG := hid (fun (W : World) (f : Nat → Value) (h : W.rowIs bm 133 198 f) => forget71_any bm f W h)
  clear hc hcells h hl
  obtain ⟨n, hn⟩ : ∃ n, l.length = n := ⟨_, rfl⟩
  rw [hn] at HC hm ⊢
  have HN := hid hn
  clear hn
  go_enter Tryz.func106, Tryz.ntmps106
  go_wp2
  go_loopg [4] n (fun gk i wr => ∃ j : Nat, j ≤ n ∧ i = .int .i64 (j : Int) ∧ Hid (gk = n - j) ∧ Hid (wr.rowIs bm 133 198 (remAt { M with kept := keptOf M (l.take j) } ov)) ∧ Hid (Keeps (fun k _ => k = bm) w wr))
  case atStart => exact ⟨0, Nat.zero_le _, rfl, hid rfl, hid (HH.out.row.congr fun i _ => by simp [remAt, keptOf]), hid (Keeps.refl _ _)⟩
  case round =>
    obtain ⟨j, hj, rfl, HGK, HR, HK⟩ := hrel
    rename World => wr
    by_cases hlt : j < n
    · obtain ⟨b, off, o, rfl, hb, hbm, hcj⟩ := HC.out j hlt
      have hb2 := HK.out.obj _ _ hb hbm
      have cv := cell_of_obj hb hb2 hcj
      have hjl : j < l.length := by rw [HN.out]; exact hlt
      rw [nth_lt hjl] at cv
      obtain ⟨c, hcc⟩ : ∃ c, l[j] = c := ⟨_, rfl⟩
      rw [hcc] at cv
      have hc2 := HL.out c (by rw [← hcc]; exact List.getElem_mem hjl)
      obtain ⟨ci, rfl⟩ : ∃ ci : Nat, c = (ci : Int) := ⟨c.toNat, by omega⟩
      have hci : ci < 64 := by omega
      have hcI : (ci : Int) < 64 := by omega
      have cf := HR.out.cell (i := ci) (by omega)
      rw [remAt_F _ _ hci] at cf
      have ck := HR.out.cell (i := 64 + ci) (by omega)
      have fk := HR.out.frozen (64 + ci)
      have htk : l.take (j + 1) = l.take j ++ [(ci : Int)] := by rw [List.take_add_one, List.getElem?_eq_getElem hjl, hcc]; rfl
      have HTK := hid htk
      simp only at cf
      clear hb hbm hcj hb2 hcc hc2 hjl htk
      go_wp2
      go_region_law (fail)
      all_goals (
        go_wp2
        go_roundg (n - (j + 1))
        case measure => have := HGK.out; omega
        case rel =>
          refine ⟨j + 1, by omega, by go_num, hid rfl, hid ((HR.out.set (64 + ci) (.int .i64 (M.fresh ci))).congr fun i hi => ?_), hid ((HK.out.trans (keeps_set1 _ _ fun _ => rfl)).drew)⟩
          rw [HTK.out]
          refine remAt_ext (f := fun i => if i = 64 + ci then .int .i64 (M.fresh ci) else remAt { M with kept := keptOf M (l.take j) } ov i) (M := { M with kept := keptOf M (l.take j ++ [(ci : Int)]) }) (fun i hi => ?_) (fun i hi => ?_) (fun i hi => ?_) ?_ ?_ ?_ ?_ ?_ ?_ hi
          · rw [if_neg (by omega), remAt_F _ _ hi]
          · rw [remAt_K _ _ hi]
            dsimp only
            rw [keptOf_snoc]
            by_cases e : i = ci
            · subst e; rw [if_pos rfl, if_pos rfl]
            · rw [if_neg (by omega), if_neg e]
          · rw [if_neg (by omega), remAt_N _ _ hi]
          all_goals ((try dsimp only); rw [if_neg (by omega)]; rfl))
    · obtain rfl : j = n := by omega
      have HT := hid (show l.take j = l from List.take_of_length_le (by rw [HN.out]; exact Nat.le_refl _))
      have hfb : IntKind.i64.wrap ((M.fails : Int) + 1) = (M.fails : Int) + 1 := IntWalk.i64_in _ (by omega)
      go_wp2_with (go_at_call 71; (with_reducible refine (HFG.out _ _ HR.out).mono ?_); rintro e w2 ⟨rfl, hr2, hk2⟩; have HR2 := hid hr2; have HK2 := hid hk2; have c2 := hr2.cell (i := 192) (by omega); have c3 := hr2.cell (i := 193) (by omega); have c4 := hr2.cell (i := 194) (by omega); have c6 := hr2.cell (i := 196) (by omega); have f2 := hr2.frozen 192; have f3 := hr2.frozen 193; have f4 := hr2.frozen 194; have f6 := hr2.frozen 196; rw [show forgot (remAt { M with kept := keptOf M (l.take j) } ov) 64 196 = .int .i64 (M.fails : Int) from rfl] at c6; clear hr2 hk2)
      go_end0
      have hk : ∀ may : Nat → Obj → Prop, (∀ o, may bm o) → Keeps may w ((((w2.setCell ⟨bm, 192, none⟩ (.bool false)).setCell ⟨bm, 193, none⟩ (.int .i64 0)).setCell ⟨bm, 194, none⟩ (.slice none 0 0)).setCell ⟨bm, 196, none⟩ (.int .i64 ((M.fails : Int) + 1))) := fun may hm =>
        ((((((HK.out.trans HK2.out).mono (fun k o e => by rw [e]; exact hm o)).trans (keeps_set1 _ _ hm)).trans (keeps_set1 _ _ hm)).trans (keeps_set1 _ _ hm)).trans (keeps_set1 _ _ hm))
      refine ⟨rfl, ⟨.slice none 0 0, ((((HR2.out.set 192 (.bool false)).set 193 (.int .i64 0)).set 194 (.slice none 0 0)).set 196 (.int .i64 ((M.fails : Int) + 1))).congr fun i hi => ?_, Reads.nil _ _ _ _ _, HH.out.inM, fun k e => Nat.lt_of_lt_of_le (HH.out.lt k e) (hk (InF F) (fun _ => HH.out.inM)).size⟩, hk _ (fun _ => HH.out.inM)⟩
      refine remAt_ext (M := M.fail l) (f := fun i => if i = 196 then .int .i64 ((M.fails : Int) + 1) else if i = 194 then .slice none 0 0 else if i = 193 then .int .i64 0 else if i = 192 then .bool false else forgot (remAt { M with kept := keptOf M (l.take j) } ov) 64 i) (fun i hi => ?_) (fun i hi => ?_) (fun i hi => ?_) rfl rfl rfl rfl rfl rfl hi
      · rw [if_neg (by omega), if_neg (by omega), if_neg (by omega), if_neg (by omega)]; unfold forgot; rw [if_neg (by omega), remAt_F _ _ hi]; rfl
      · rw [if_neg (by omega), if_neg (by omega), if_neg (by omega), if_neg (by omega)]; unfold forgot; rw [if_neg (by omega), remAt_K _ _ hi, HT.out]; rfl
      · rw [if_neg (by omega), if_neg (by omega), if_neg (by omega), if_neg (by omega)]; unfold forgot; rw [if_pos (by omega)]; rfl

/-- A step was taken. -/
abbrev rtick (M : Mem) : Mem := { M with plan := M.plan - 1, steps := M.steps + 1 }

/-- What the step leaves. -/
def stepR (M : Mem) : Bool × Mem := if M.on then (if M.plan = 1 then (false, M.fail M.early) else (true, rtick M)) else (false, M)

set_option maxHeartbeats 4000000 in
set_option maxRecDepth 20000 in
theorem rstep104_any (bm : Nat) (M : Mem) (F : Nat → Prop) (w : World) (h : IsRMem w bm M F) (hok : Ok M) (hsz : M.size < 1000000000) :
    Calls Tryz.prog 104 #[ptr bm] w (RLeft w bm F (.bool (stepR M).1) (stepR M).2) := by
  have HM := hid h
  obtain ⟨ov, h⟩ := h
  have hfz : M.fails < 1000000000 := by unfold Mem.size at hsz; omega
  have hsz2 : M.steps < 1000000000 := by unfold Mem.size at hsz; omega
  have hpl := hok.plan
  have HFL := hid (rfail106_any bm M F ov M.early w HM.out hfz hok.early (h.early.mono fun k o hs => hs.2))
  have HH := hid h
  have c2 := h.cOn; have c3 := h.cIn; have c4 := h.cOut; have c5 := h.cS
  have f3 := h.row.frozen 193; have f5 := h.row.frozen 195
  obtain ⟨oa, oc, rfl⟩ : ∃ oa oc, ov = .slice oa M.early.length oc := by obtain ⟨a, c, e, _⟩ := h.early; exact ⟨a, c, e⟩
  unfold stepR
  clear h hok hsz
  obtain ⟨on, hon⟩ : ∃ o, M.on = o := ⟨_, rfl⟩
  have HON := hid hon
  rw [hon] at c2 ⊢
  clear hon
  cases on with
  | false =>
    rw [if_neg (by decide)]
    clear HFL
    go_enter Tryz.func104, Tryz.ntmps104
    go_wp2
    go_ret
    exact ⟨rfl, HM.out, Keeps.refl _ _⟩
  | true =>
    rw [if_pos rfl]
    by_cases hp : M.plan = 1
    · rw [if_pos hp]
      have HP := hid hp
      rw [hp] at c3
      clear hp hpl
      go_enter Tryz.func104, Tryz.ntmps104
      go_wp2_with (go_at_call 106; (with_reducible refine HFL.out.mono ?_); rintro e w2 ⟨rfl, hm, hk⟩; have HM2 := hid hm; have HK2 := hid hk; clear hm hk)
      go_ret
      exact ⟨rfl, HM2.out, HK2.out⟩
    · rw [if_neg hp]
      clear HFL
      have e1 : ((M.plan : Int) == 1) = false := by rw [beq_eq_false_iff_ne]; omega
      have hw1 : IntKind.i64.wrap ((M.plan : Int) - 1) = (M.plan : Int) - 1 := IntWalk.i64_in _ (by omega)
      have hw2 : IntKind.i64.wrap ((M.steps : Int) + 1) = (M.steps : Int) + 1 := IntWalk.i64_in _ (by omega)
      obtain ⟨p, hpn⟩ : ∃ p, M.plan = p := ⟨_, rfl⟩
      have HP := hid hpn
      rw [hpn] at c3 hpl e1 hw1 hp
      clear hpn
      rcases (show p = 0 ∨ 1 ≤ p by omega) with h0 | h0
      · subst h0
        go_enter Tryz.func104, Tryz.ntmps104
        go_wp2
        go_ret
        have hk : Keeps (fun k _ => k = bm) w ((w.setCell ⟨bm, 193, none⟩ (.int .i64 0)).setCell ⟨bm, 195, none⟩ (.int .i64 ((M.steps : Int) + 1))) := (keeps_set1 _ _ (fun _ => rfl)).trans (keeps_set1 _ _ (fun _ => rfl))
        refine ⟨rfl, ⟨_, HH.out.turned hk (((HH.out.row.set 193 (.int .i64 0)).set 195 (.int .i64 ((M.steps : Int) + 1))).congr fun i hi => ?_) rfl⟩, rKeeps hk HH.out.inM⟩
        refine remAt_ext (M := rtick M) (f := fun i => if i = 195 then .int .i64 ((M.steps : Int) + 1) else if i = 193 then .int .i64 0 else remAt M _ i) (fun i hi => ?_) (fun i hi => ?_) (fun i hi => ?_) rfl (by show Value.int .i64 0 = .int .i64 ((M.plan - 1 : Nat) : Int); rw [HP.out]; rfl) rfl rfl rfl rfl hi
        · rw [if_neg (by omega), if_neg (by omega), remAt_F _ _ hi]
        · rw [if_neg (by omega), if_neg (by omega), remAt_K _ _ hi]
        · rw [if_neg (by omega), if_neg (by omega), remAt_N _ _ hi]
      · obtain ⟨q, rfl⟩ : ∃ q, p = q + 1 := ⟨p - 1, by omega⟩
        have hq : ((q + 1 : Nat) : Int) - 1 = (q : Int) := by omega
        have hmx : max (q : Int) 0 = (q : Int) := by omega
        go_enter Tryz.func104, Tryz.ntmps104
        go_wp2
        go_ret
        have hk : Keeps (fun k _ => k = bm) w ((w.setCell ⟨bm, 193, none⟩ (.int .i64 (q : Int))).setCell ⟨bm, 195, none⟩ (.int .i64 ((M.steps : Int) + 1))) := (keeps_set1 _ _ (fun _ => rfl)).trans (keeps_set1 _ _ (fun _ => rfl))
        refine ⟨rfl, ⟨_, HH.out.turned hk (((HH.out.row.set 193 (.int .i64 (q : Int))).set 195 (.int .i64 ((M.steps : Int) + 1))).congr fun i hi => ?_) rfl⟩, rKeeps hk HH.out.inM⟩
        refine remAt_ext (M := rtick M) (f := fun i => if i = 195 then .int .i64 ((M.steps : Int) + 1) else if i = 193 then .int .i64 (q : Int) else remAt M _ i) (fun i hi => ?_) (fun i hi => ?_) (fun i hi => ?_) rfl (by show Value.int .i64 (q : Int) = .int .i64 ((M.plan - 1 : Nat) : Int); rw [HP.out]; rfl) rfl rfl rfl rfl hi
        · rw [if_neg (by omega), if_neg (by omega), remAt_F _ _ hi]
        · rw [if_neg (by omega), if_neg (by omega), remAt_K _ _ hi]
        · rw [if_neg (by omega), if_neg (by omega), remAt_N _ _ hi]

end Go.Proofs.YtmohnddglmolgaaGreatDoor
namespace Go.Proofs.YtmohnddglmolgaaGreatDoor
open Go Go.RowKit Go.Lin Go.Lin.Kp

theorem done_stepR (M : Mem) (r : Bool) (f : Mem → Mem) : M.done r f = if r = true then (if (stepR M).1 = true then (0, f (stepR M).2) else (101, (stepR M).2)) else (2, M) := by
  unfold Mem.done stepR Mem.step
  cases r
  · rfl
  · rw [if_pos rfl, if_pos rfl]
    by_cases ho : M.on = true
    · rw [if_pos ho, if_pos ho]
      by_cases hp : M.plan = 1
      · rw [if_pos hp, if_pos hp]; rfl
      · rw [if_neg hp, if_neg hp]; rfl
    · rw [if_neg ho, if_neg ho]; rfl

theorem stepR_on {M : Mem} (h : (stepR M).1 = true) : M.on = true ∧ (stepR M).2 = rtick M := by
  unfold stepR at h ⊢
  by_cases ho : M.on = true
  · rw [if_pos ho] at h ⊢
    by_cases hp : M.plan = 1
    · rw [if_pos hp] at h; cases h
    · rw [if_neg hp]; exact ⟨ho, rfl⟩
  · rw [if_neg ho] at h; cases h

theorem isRMem_drew {w : World} {bm : Nat} {M : Mem} {F : Nat → Prop} (h : IsRMem w bm M F) : IsRMem w.drew bm M F := h.grew (grew_drew (grew_refl _))

set_option maxHeartbeats 4000000 in
set_option maxRecDepth 20000 in
theorem rwrite74_any (bm : Nat) (M : Mem) (F : Nat → Prop) (c n : Int) (w : World) (h : IsRMem w bm M F) (hok : Ok M) (hsz : M.size < 1000000000) :
    Calls Tryz.prog 74 #[ptr bm, .int .i64 c, .int .i64 n] w (RLeft w bm F (.int .i64 (M.write c n).1) (M.write c n).2) := by
  have HM := hid h
  have HIC := hid (rIsCell103_any c)
  have HIN := hid (isNumber56_any n)
  have HS := hid (rstep104_any bm M F w h hok hsz)
  unfold Mem.write
  rw [done_stepR]
  obtain ⟨x, hx⟩ : ∃ x, isCell c = x := ⟨_, rfl⟩
  obtain ⟨y, hy⟩ : ∃ y, isNum n = y := ⟨_, rfl⟩
  have HX := hid hx
  rw [hx] at HIC ⊢
  rw [hy] at HIN ⊢
  clear hx hy hok hsz h
  cases x
  · simp only [Bool.false_and, Bool.false_eq_true, if_false]
    clear HS
    go_enter Tryz.func74, Tryz.ntmps74
    go_wp2_with (go_at_call 103; (with_reducible refine (HIC.out _).mono ?_); rintro e w1 ⟨rfl, rfl⟩)
    go_ret
    exact ⟨rfl, HM.out, Keeps.refl _ _⟩
  · simp only [Bool.true_and]
    cases y
    · simp only [Bool.false_eq_true, if_false]
      clear HS
      go_enter Tryz.func74, Tryz.ntmps74
      go_wp2_with (first
        | (go_at_call 103; (with_reducible refine (HIC.out _).mono ?_); rintro e w1 ⟨rfl, rfl⟩)
        | (go_at_call 56; (with_reducible refine (HIN.out _).mono ?_); rintro e w1 ⟨rfl, rfl⟩))
      go_ret
      exact ⟨rfl, HM.out, Keeps.refl _ _⟩
    · rw [if_pos rfl]
      have hc := isCell_iff.1 HX.out
      obtain ⟨ci, rfl⟩ : ∃ ci : Nat, c = (ci : Int) := ⟨c.toNat, by omega⟩
      have hci : ci < 64 := by omega
      have hcI : (ci : Int) < 64 := by omega
      simp only [Int.toNat_natCast]
      obtain ⟨⟨s, M'⟩, hs⟩ : ∃ s, stepR M = s := ⟨_, rfl⟩
      rw [hs] at HS ⊢
      dsimp only at HS ⊢
      clear hs hc
      cases s
      · rw [if_neg (by decide)]
        go_enter Tryz.func74, Tryz.ntmps74
        go_wp2_with (first
          | (go_at_call 103; (with_reducible refine (HIC.out _).mono ?_); rintro e w1 ⟨rfl, rfl⟩)
          | (go_at_call 56; (with_reducible refine (HIN.out _).mono ?_); rintro e w1 ⟨rfl, rfl⟩)
          | (go_at_call 104; (with_reducible refine HS.out.mono ?_); rintro e w1 ⟨rfl, hm, hk⟩; have HM1 := hid hm; have HK1 := hid hk; clear hm hk))
        go_ret
        exact ⟨rfl, HM1.out, HK1.out⟩
      · rw [if_pos rfl]
        go_enter Tryz.func74, Tryz.ntmps74
        go_wp2_with (first
          | (go_at_call 103; (with_reducible refine (HIC.out _).mono ?_); rintro e w1 ⟨rfl, rfl⟩)
          | (go_at_call 56; (with_reducible refine (HIN.out _).mono ?_); rintro e w1 ⟨rfl, rfl⟩)
          | (go_at_call 104; (with_reducible refine HS.out.mono ?_); rintro e w1 ⟨rfl, ⟨ov, hm⟩, hk⟩; have cf := hm.cF hci; have ff := hm.row.frozen ci; have HM1 := hid hm; have HK1 := hid hk; clear hm hk))
        go_ret
        have hk2 : Keeps (fun k _ => k = bm) w1 (w1.setCell ⟨bm, ci, none⟩ (.int .i64 n)) := keeps_set1 _ _ (fun _ => rfl)
        refine ⟨rfl, ⟨ov, HM1.out.turned hk2 ((HM1.out.row.set ci (.int .i64 n)).congr fun i hi => ?_) rfl⟩, HK1.out.trans (rKeeps hk2 HM1.out.inM)⟩
        refine remAt_ext (M := Mem.setF ci n M') (f := fun i => if i = ci then .int .i64 n else remAt M' ov i) (fun i hi => ?_) (fun i hi => ?_) (fun i hi => ?_) ?_ ?_ ?_ ?_ ?_ ?_ hi
        · rw [remAt_F _ _ hi]
          unfold Mem.setF upd; dsimp only
          by_cases e : i = ci
          · rw [if_pos e, if_pos e]
          · rw [if_neg e, if_neg e]
        · rw [if_neg (by omega), remAt_K _ _ hi]; rfl
        · rw [if_neg (by omega), remAt_N _ _ hi]; rfl
        all_goals ((try dsimp only); rw [if_neg (by omega)]; rfl)

set_option maxHeartbeats 4000000 in
set_option maxRecDepth 20000 in
theorem rflush75_any (bm : Nat) (M : Mem) (F : Nat → Prop) (c : Int) (w : World) (h : IsRMem w bm M F) (hok : Ok M) (hsz : M.size < 1000000000) :
    Calls Tryz.prog 75 #[ptr bm, .int .i64 c] w (RLeft w bm F (.int .i64 (M.flush c).1) (M.flush c).2) := by
  have HM := hid h
  have HIC := hid (rIsCell103_any c)
  have HS := hid (rstep104_any bm M F w h hok hsz)
  unfold Mem.flush
  rw [done_stepR]
  obtain ⟨x, hx⟩ : ∃ x, isCell c = x := ⟨_, rfl⟩
  have HX := hid hx
  rw [hx] at HIC ⊢
  clear hx hok hsz h
  cases x
  · simp only [Bool.false_eq_true, if_false]
    clear HS
    go_enter Tryz.func75, Tryz.ntmps75
    go_wp2_with (go_at_call 103; (with_reducible refine (HIC.out _).mono ?_); rintro e w1 ⟨rfl, rfl⟩)
    go_ret
    exact ⟨rfl, HM.out, Keeps.refl _ _⟩
  · rw [if_pos rfl]
    have hc := isCell_iff.1 HX.out
    obtain ⟨ci, rfl⟩ : ∃ ci : Nat, c = (ci : Int) := ⟨c.toNat, by omega⟩
    have hci : ci < 64 := by omega
    have hcI : (ci : Int) < 64 := by omega
    simp only [Int.toNat_natCast]
    obtain ⟨⟨s, M'⟩, hs⟩ : ∃ s, stepR M = s := ⟨_, rfl⟩
    rw [hs] at HS ⊢
    dsimp only at HS ⊢
    clear hs hc
    cases s
    · rw [if_neg (by decide)]
      go_enter Tryz.func75, Tryz.ntmps75
      go_wp2_with (first
        | (go_at_call 103; (with_reducible refine (HIC.out _).mono ?_); rintro e w1 ⟨rfl, rfl⟩)
        | (go_at_call 104; (with_reducible refine HS.out.mono ?_); rintro e w1 ⟨rfl, hm, hk⟩; have HM1 := hid hm; have HK1 := hid hk; clear hm hk))
      go_ret
      exact ⟨rfl, HM1.out, HK1.out⟩
    · rw [if_pos rfl]
      go_enter Tryz.func75, Tryz.ntmps75
      go_wp2_with (first
        | (go_at_call 103; (with_reducible refine (HIC.out _).mono ?_); rintro e w1 ⟨rfl, rfl⟩)
        | (go_at_call 104; (with_reducible refine HS.out.mono ?_); rintro e w1 ⟨rfl, ⟨ov, hm⟩, hk⟩; have cf := hm.cF hci; have cn := hm.cN hci; have ff := hm.row.frozen (128 + ci); have HM1 := hid hm; have HK1 := hid hk; clear hm hk))
      obtain ⟨f, hf⟩ : ∃ f, M'.fresh ci = f := ⟨_, rfl⟩
      have HF := hid hf
      rw [hf] at cf
      clear hf
      go_region_law (fail)
      all_goals (
        go_wp2
        go_ret
        have hk2 : Keeps (fun k _ => k = bm) w1 (w1.setCell ⟨bm, 128 + ci, none⟩ (.int .i64 f)).drew := (keeps_set1 _ _ (fun _ => rfl)).drew
        refine ⟨rfl, ⟨ov, HM1.out.turned hk2 ((HM1.out.row.set (128 + ci) (.int .i64 f)).congr fun i hi => ?_) rfl⟩, HK1.out.trans (rKeeps hk2 HM1.out.inM)⟩
        refine remAt_ext (M := Mem.noteF ci M') (f := fun i => if i = 128 + ci then .int .i64 f else remAt M' ov i) (fun i hi => ?_) (fun i hi => ?_) (fun i hi => ?_) ?_ ?_ ?_ ?_ ?_ ?_ hi
        · rw [if_neg (by omega), remAt_F _ _ hi]; rfl
        · rw [if_neg (by omega), remAt_K _ _ hi]; rfl
        · rw [remAt_N _ _ hi]
          unfold Mem.noteF upd; dsimp only
          by_cases e : i = ci
          · rw [if_pos (by omega), if_pos e, HF.out]; rfl
          · rw [if_neg (by omega), if_neg e]
        all_goals ((try dsimp only); rw [if_neg (by omega)]; rfl))

/-- Kept numbers, fenced up to a cell. -/
def fencedTo (M : Mem) (j : Nat) (i : Nat) : Int := if i < j then fenced M i else M.kept i

set_option maxHeartbeats 4000000 in
set_option maxRecDepth 20000 in
theorem rfence76_any (bm : Nat) (M : Mem) (F : Nat → Prop) (w : World) (h : IsRMem w bm M F) (hok : Ok M) (hsz : M.size < 1000000000) :
    Calls Tryz.prog 76 #[ptr bm] w (RLeft w bm F (.int .i64 M.fence.1) M.fence.2) := by
  have HS := hid (rstep104_any bm M F w h hok hsz)
  have HFG := hid (fun (W : World) (f : Nat → Value) (h : W.rowIs bm 133 198 f) => forget71_any bm f W h)
  have hnt : ∀ i n, (stepR M).2.notes i = some n → i < 64 ∧ 0 ≤ n := fun i n => by
    unfold stepR
    split
    · split
      · intro e; cases e
      · intro e; have := hok.notes i n e; exact ⟨this.1, this.2.1⟩
    · intro e; have := hok.notes i n e; exact ⟨this.1, this.2.1⟩
  unfold Mem.fence
  rw [done_stepR, if_pos rfl]
  obtain ⟨⟨s, M'⟩, hs⟩ : ∃ s, stepR M = s := ⟨_, rfl⟩
  rw [hs] at HS hnt ⊢
  dsimp only at HS hnt ⊢
  have HNT := hid hnt
  clear hs hok hsz h hnt
  cases s
  · rw [if_neg (by decide)]
    go_enter Tryz.func76, Tryz.ntmps76
    go_wp2_with (go_at_call 104; (with_reducible refine HS.out.mono ?_); rintro e w1 ⟨rfl, hm, hk⟩; have HM1 := hid hm; have HK1 := hid hk; clear hm hk)
    go_ret
    exact ⟨rfl, HM1.out, HK1.out⟩
  · rw [if_pos rfl]
    go_enter Tryz.func76, Tryz.ntmps76
    go_wp2_with (go_at_call 104; (with_reducible refine HS.out.mono ?_); rintro e w1 ⟨rfl, ⟨ov, hm⟩, hk⟩; have HM1 := hid hm; have HK1 := hid hk; clear hm hk)
    go_loopg [3] 64 (fun gk iv wr => ∃ (j : Nat), j ≤ 64 ∧ iv = .int .i64 (j : Int) ∧ Hid (gk = 64 - j) ∧ Hid (wr.rowIs bm 133 198 (remAt { M' with kept := fencedTo M' j } ov)) ∧ Hid (Keeps (fun k _ => k = bm) w1 wr))
    case atStart => exact ⟨0, Nat.zero_le _, rfl, hid rfl, hid (HM1.out.row.congr fun i _ => by unfold remAt fencedTo; simp), hid (Keeps.refl _ _)⟩
    case round =>
      obtain ⟨j, hj, rfl, HGK, HR, HK⟩ := hrel
      rename World => wr
      by_cases hlt : j < 64
      · have hltI : (j : Int) < 64 := by omega
        have cn := HR.out.cell (i := 128 + j) (by omega)
        rw [remAt_N _ _ hlt] at cn
        have ck := HR.out.cell (i := 64 + j) (by omega)
        rw [remAt_K _ _ hlt] at ck
        have fk := HR.out.frozen (64 + j)
        dsimp only at cn ck
        have step : ∀ x, x = fenced M' j → (fun i => if i = j then x else fencedTo M' j i) = fencedTo M' (j + 1) := fun x hx => by
          funext i
          unfold fencedTo
          by_cases e : i = j
          · subst e; rw [if_pos rfl, if_pos (by omega), hx]
          · rw [if_neg e]
            by_cases h2 : i < j
            · rw [if_pos h2, if_pos (by omega)]
            · rw [if_neg h2, if_neg (by omega)]
        have HST := hid step
        clear step
        cases hn : M'.notes j with
        | none =>
          rw [hn, Option.getD_none] at cn
          have hfe := HST.out (M'.kept j) (by unfold fenced; rw [hn]; rfl)
          have HFE := hid hfe
          clear hn hfe
          go_wp2
          go_roundg (64 - (j + 1))
          case measure => have := HGK.out; omega
          case rel =>
            refine ⟨j + 1, by omega, by go_num, hid rfl, hid (HR.out.congr fun i hi => ?_), HK⟩
            rw [← HFE.out]
            congr 2
            funext k
            by_cases e : k = j
            · subst e; rw [if_pos rfl]; unfold fencedTo; rw [if_neg (by omega)]
            · rw [if_neg e]
        | some m =>
          rw [hn, Option.getD_some] at cn
          have hm0 := (HNT.out j m hn).2
          have hfe := HST.out m (by unfold fenced; rw [hn]; rfl)
          have HFE := hid hfe
          clear hn hfe
          go_wp2
          go_region_law (fail)
          all_goals (
            go_wp2
            go_roundg (64 - (j + 1))
            case measure => have := HGK.out; omega
            case rel =>
              refine ⟨j + 1, by omega, by go_num, hid rfl, hid ((HR.out.set (64 + j) (.int .i64 m)).congr fun i hi => ?_), hid ((HK.out.trans (keeps_set1 _ _ fun _ => rfl)).drew)⟩
              rw [← HFE.out]
              refine remAt_ext (M := { M' with kept := fun i => if i = j then m else fencedTo M' j i }) (f := fun i => if i = 64 + j then .int .i64 m else remAt { M' with kept := fencedTo M' j } ov i) (fun i hi => ?_) (fun i hi => ?_) (fun i hi => ?_) ?_ ?_ ?_ ?_ ?_ ?_ hi
              · rw [if_neg (by omega), remAt_F _ _ hi]
              · rw [remAt_K _ _ hi]
                dsimp only
                by_cases e : i = j
                · rw [if_pos (by omega), if_pos e]
                · rw [if_neg (by omega), if_neg e]
              · rw [if_neg (by omega), remAt_N _ _ hi]
              all_goals ((try dsimp only); rw [if_neg (by omega)]; rfl))
      · obtain rfl : j = 64 := by omega
        go_wp2_with (go_at_call 71; (with_reducible refine (HFG.out _ _ HR.out).mono ?_); rintro e w2 ⟨rfl, hr2, hk2⟩; have HR2 := hid hr2; have HK2 := hid hk2; clear hr2 hk2)
        go_ret
        have hk := HK.out.trans HK2.out
        refine ⟨rfl, ⟨ov, HM1.out.turned hk (HR2.out.congr fun i hi => ?_) rfl⟩, HK1.out.trans (rKeeps hk HM1.out.inM)⟩
        refine remAt_ext (M := Mem.fenceF M') (f := forgot (remAt { M' with kept := fencedTo M' 64 } ov) 64) (fun i hi => ?_) (fun i hi => ?_) (fun i hi => ?_) rfl rfl rfl rfl rfl rfl hi
        · unfold forgot; rw [if_neg (by omega), remAt_F _ _ hi]; rfl
        · unfold forgot; rw [if_neg (by omega), remAt_K _ _ hi]
          unfold Mem.fenceF fencedTo; dsimp only; rw [if_pos hi]
        · unfold forgot; rw [if_pos (by omega)]; rfl

end Go.Proofs.YtmohnddglmolgaaGreatDoor
