/- Walk: Copy (29). -/
import Derived.Test.YtmohnddglmolgaaGreatDoorKpSure
import Derived.Shelf.SlMaps.Clone
namespace Go.Proofs.YtmohnddglmolgaaGreatDoor
open Go Go.RowKit Go.Lin Go.Lin.Kp

theorem clone62_any (b n : Nat) (S : Nat → Option Int) (w : World) (h : NMap w Tryz.prog 3 3 b n S) :
    Calls Tryz.prog 62 #[.map (some b)] w fun e w' => e = .returned (.map (some w.heap.size)) ∧ NMap w' Tryz.prog 3 3 w.heap.size n S ∧ Grew w w' ∧ w.heap.size < w'.heap.size := by
  obtain ⟨D, hD, h1, h2⟩ := h
  refine (AnyW.maps_Clone_owns Tryz.cloneM 3 (plainElem Tryz.prog 3) b n D w hD).mono fun e w' ⟨he, ho, _, hB⟩ => ?_
  exact ⟨he, ⟨D, ho, h1, h2⟩, hB, ho.lt⟩

theorem block_made (w : World) (c : Array Value) (t : TypeId) : ∃ W0, w.alloc (.cells c t) = W0 ∧ Grew w W0 ∧ W0.heap[w.heap.size]? = some (.cells c t (0, 0)) ∧ W0.heap.size = w.heap.size + 1 :=
  ⟨_, rfl, grew_alloc (grew_refl w) _, heap_alloc_new w _, by simp⟩

theorem row_grew {w w' : World} {b n : Nat} {t : TypeId} {f : Nat → Value} (h : w.rowIs b t n f) (hg : Grew w w') : w'.rowIs b t n f := by
  obtain ⟨c, h1, h2, h3⟩ := h
  exact ⟨c, (hg.block _ (lt_of_obj h1)).trans h1, h2, h3⟩

theorem grew_setB {w w' : World} (hg : Grew w w') {b : Nat} (hb : w.heap.size ≤ b) (i : Nat) (v : Value) : Grew w (w'.setCell ⟨b, i, none⟩ v) := by
  have hk : Keeps (fun k _ => k = b) w' (w'.setCell ⟨b, i, none⟩ v) := keeps_set1 _ _ (fun _ => rfl)
  exact grew_b hg (hk.below hg.size (fun k _ e => by rw [e]; exact hb))

theorem zero89_size : Tryz.zeroCells89.size = 135 := by kernel_rfl

set_option maxHeartbeats 4000000 in
set_option maxRecDepth 20000 in
theorem copy29_mem (bm : Nat) (M : Mem) (F : Nat → Prop) (w : World) (h : IsMem w bm M F) (hok : Ok M) :
    Calls Tryz.prog 29 #[ptr bm] w fun e w' => ∃ bm' F', e = .returned (ptr bm') ∧ IsMem w' bm' M F' ∧ (∀ k, F' k → w.heap.size ≤ k) ∧ Grew w w' := by
  have HN := hid (none57_mem bm M F w h)
  obtain ⟨bn, sv, h⟩ := h
  obtain ⟨sa, sc, rfl⟩ : ∃ sa sc, sv = .slice sa M.early.length sc := by obtain ⟨a, c, e, _⟩ := h.early; exact ⟨a, c, e⟩
  have HH := hid h
  have hbm : bm < w.heap.size := h.row.lt
  have hra := rangeAt_row h.row 0 135 (by omega) (memAt M bn (.slice sa M.early.length sc)) (fun j _ => by rw [Nat.zero_add])
  obtain ⟨cs, hcs⟩ : ∃ cs, (List.range 135).map (memAt M bn (.slice sa M.early.length sc)) = cs := ⟨_, rfl⟩
  rw [hcs] at hra
  have hl : cs.length = 135 := by rw [← hcs]; simp
  have h1 : ∀ v ∈ cs, v.oneCell' = true := by
    intro v hv
    rw [← hcs] at hv
    obtain ⟨i, _, rfl⟩ := List.mem_map.1 hv
    unfold memAt
    repeat' split
    all_goals rfl
  have HCS := hid hcs; have HL := hid hl; have H1 := hid h1
  have hsz : (Tryz.prog.info? 89).map (·.size) = some cs.length := by rw [hl]; kernel_rfl
  have hsz2 : (Tryz.prog.info? 89).map (·.size) = some cs.toArray.size := by rw [List.size_toArray, hl]; kernel_rfl
  have HSZ := hid hsz; have HSZ2 := hid hsz2
  have HRA := hid hra
  obtain ⟨W1, hW1, g1, ho1, hz1⟩ := block_made w Tryz.zeroCells89 89
  have hrow1 : W1.rowIs w.heap.size 89 135 (fun i => Tryz.zeroCells89.getD i undef) := ⟨_, ho1, zero89_size, fun i hi => by simp [Array.getD, hi]⟩
  have HTH := hid (there_row hrow1 0 cs.toArray.size (by rw [List.size_toArray, hl]; omega))
  obtain ⟨W2, hW2⟩ : ∃ W, W1.setCells w.heap.size 0 cs = W := ⟨_, rfl⟩
  have hk2 : Keeps (fun k _ => k = w.heap.size) W1 W2 := by rw [← hW2]; exact keeps_setCells _ cs (fun _ => rfl)
  have hg2 : Grew w W2 := grew_b g1 (hk2.below g1.size (fun k _ e => by rw [e]; exact Nat.le_refl _))
  have hr2 : W2.rowIs w.heap.size 89 135 (memAt M bn (.slice sa M.early.length sc)) := by
    rw [← hW2]
    refine (Go.Lin.Kp.rowIs_setCells cs 0 hrow1).congr fun i hi => ?_
    rw [if_pos (Nat.zero_le _), ← hcs, Nat.sub_zero, List.getD_eq_getElem?_getD, List.getElem?_map, List.getElem?_range hi, Option.map_some, Option.getD_some]
  have hz2 : w.heap.size < W2.heap.size := hr2.lt
  have HW2 := hid hW2; have HR2 := hid hr2; have HG2 := hid hg2
  have hm2 := h.grew hg2
  have HM2 := hid hm2
  have HCL := hid (clone62_any bn M.steps M.notes W2 hm2.notes)
  have h3 := HH.out
  clear h hra hcs hl h1 hsz hsz2 ho1 hz1 hrow1 g1 hk2 hm2 hr2 hg2 hW2 h3
  have HCI := hid (fun (W : World) (hg : Grew w W) => clone_ints (.slice sa M.early.length sc) M.early.length M.early W rfl (by have := hok.early; unfold areEarly at this; rw [Bool.and_eq_true, decide_eq_true_eq] at this; omega) (HH.out.grew hg).early.any)
  have c129 : W2.cell? ⟨bm, 129, none⟩ = some (.map (some bn)) := by
    have := HM2.out.row.cell (i := 129) (by omega); exact this
  have d129 : W2.cell? ⟨w.heap.size, 129, none⟩ = some (.map (some bn)) := HR2.out.cell (i := 129) (by omega)
  go_enter Tryz.func29, Tryz.ntmps29
  go_wp2_with (first
    | (go_at_call 57; (with_reducible refine HN.out.mono ?_); rintro e w1 ⟨rfl, rfl⟩)
    | (refine wpList_load_mid rfl 89 _ rfl bm 0 rfl _ _ HRA.out Tryz.underlying89 rfl HSZ.out ?_)
    | (refine wpList_store_mid rfl 89 _ _ rfl w.heap.size 0 _ rfl rfl HTH.out HSZ2.out (all_oneCell_toArray H1.out) ?_; rw [HW2.out])
    | (go_at_call 62; go_loud (
      (with_reducible refine HCL.out.mono ?_); rintro e w3 ⟨rfl, hn3, hg3, hz3⟩; have HN3 := hid hn3; have HG3 := hid hg3; have hr3 := row_grew HR2.out hg3; have HR3 := hid hr3; have e129 : w3.cell? ⟨w.heap.size, 129, none⟩ = some (.map (some bn)) := hr3.cell (i := 129) (by omega); have f129 := hr3.frozen 129; have hm3 := HM2.out.grew hg3; have c132 : w3.cell? ⟨bm, 132, none⟩ = some (.slice sa M.early.length sc) := hm3.row.cell (i := 132) (by omega); have hb3 := Nat.ne_of_lt (HH.out.row.lt); have HI4 := hid (HCI.out (w3.setCell ⟨w.heap.size, 129, none⟩ (.map (some W2.heap.size))) (grew_setB (grew_trans HG2.out hg3) (Nat.le_refl _) _ _)); clear hn3 hg3 hr3 hm3))
    | (go_at_call 52; (with_reducible refine HI4.out.mono ?_); rintro e w5 ⟨u, rfl, hs5, hg5⟩; obtain ⟨ua, uc, rfl, _⟩ := hs5.shape; have HS5 := hid hs5; have HG5 := hid hg5; have hr5 := row_grew (HR3.out.set 129 (.map (some W2.heap.size))) hg5; have HR5 := hid hr5; have e132 : w5.cell? ⟨w.heap.size, 132, none⟩ = some (.slice sa M.early.length sc) := hr5.cell (i := 132) (by omega); have f132 := hr5.frozen 132; clear hs5 hg5 hr5))
  go_ret
  have hz2 := HG2.out.size
  have hz3 := HG3.out.size
  have hn := HN3.out
  have hlt3 : W2.heap.size < w3.heap.size := hn.lt
  have hg6 : Grew w w5 := grew_trans (grew_setB (grew_trans HG2.out HG3.out) (Nat.le_refl _) _ _) HG5.out
  have hz5 := HG5.out.size
  rw [World.size_setCell] at hz5
  have hn5 : NMap w5 Tryz.prog 3 3 W2.heap.size M.steps M.notes := (hn.setOther (by dsimp only; have := HR2.out.lt; omega) _).of_block (HG5.out.block _ (by rw [World.size_setCell]; omega))
  refine ⟨w.heap.size, fun k => w.heap.size ≤ k ∧ k < w5.heap.size, rfl, ⟨W2.heap.size, .slice ua M.early.length uc, (HR5.out.set 132 (.slice ua M.early.length uc)).congr fun i hi => ?_, hn5.setOther (by dsimp only; have := HR2.out.lt; omega) _, ?_, ⟨Nat.le_refl _, by omega⟩, ⟨by omega, by omega⟩, fun k hk => by rw [World.size_setCell]; exact hk.2⟩, fun k hk => hk.1, grew_setB hg6 (Nat.le_refl _) _ _⟩
  · by_cases h132 : i = 132
    · subst h132; rfl
    · rw [if_neg h132]
      by_cases h129 : i = 129
      · subst h129; rfl
      · rw [if_neg h129]
        unfold memAt
        simp only [h129, h132, if_false]
  · have hk : Keeps (fun k _ => k = w.heap.size) w5 (w5.setCell ⟨w.heap.size, 132, none⟩ (.slice ua M.early.length uc)) := keeps_set1 _ _ (fun _ => rfl)
    obtain ⟨a, cap, e, hm, hc⟩ := HS5.out.isInts
    refine ⟨a, cap, e, hm, fun i hi => ?_⟩
    obtain ⟨b, off, o, q1, q2, q3, q4⟩ := hc i hi
    have q5 := q3.1
    rw [World.size_setCell] at q5
    have q6 := lt_of_obj q2
    refine ⟨b, off, o, q1, hk.obj _ _ q2 (fun e => by omega), ⟨⟨by omega, q6⟩, by omega, by omega⟩, ?_⟩
    rw [World.cell?_setCell_other _ _ _ _ (by simp only [ne_eq, Addr.mk.injEq, not_and]; intro e2; omega)]
    exact q4

end Go.Proofs.YtmohnddglmolgaaGreatDoor
