/- Walk: what a flag answers to the entries: says (86) of the book; Ask (44) whole. -/
import Derived.Test.YtmohnddglmolgaaGreatDoorKpSize
import Derived.Test.YtmohnddglmolgaaGreatDoorKsA
import Derived.Deep.RegionLaw
namespace Go.Lin.Kp
open Go Go.Lin

def flagS : Sp.RSpec := ⟨2, 2, [[1, 0], [1, 1]], [[0, 0], [0, 1]]⟩
def saysL (l : List Int) : List Int := Sp.runL flagS 0 (l.map (· % 2))
def saysA (l : List Int) : List UInt8 × Int := (joinM 32 (saysL l), 0)

theorem mod2_bits (l : List Int) : ∀ z ∈ l.map (· % 2), 0 ≤ z ∧ z < 2 := fun z hz => by
  obtain ⟨y, _, rfl⟩ := List.mem_map.1 hz
  exact ⟨Int.emod_nonneg _ (by decide), Int.emod_lt_of_pos y (by decide)⟩

theorem flag_runs {l : List Int} (h : l.length ≤ 20) : Sp.runE flagS 0 (l.map (· % 2)) = 0 := by
  have hv : Sp.validM flagS = true := by decide
  have hi : Sp.inM flagS.st 0 = true := by decide
  have hw : Sp.isWordM flagS.ops (l.map (· % 2)) = true := by
    unfold Sp.isWordM
    rw [Bool.and_eq_true, decide_eq_true_eq, List.all_eq_true, List.length_map]
    refine ⟨fun z hz => ?_, h⟩
    have := mod2_bits l z hz
    unfold Sp.inM
    rw [decide_eq_true_eq]; exact this
  unfold Sp.runE
  rw [hv, hi, hw]; rfl

theorem flag_sy (i j : Nat) : 0 ≤ (Sp.machOf flagS).sy i j ∧ (Sp.machOf flagS).sy i j ≤ 1 := by
  show 0 ≤ nth (Sp.nthL [[0, 0], [0, 1]] i) j ∧ nth (Sp.nthL [[0, 0], [0, 1]] i) j ≤ 1
  rcases i with _ | _ | i <;> rcases j with _ | _ | j <;> simp [Sp.nthL, nth]

theorem anM_bits : ∀ (ws : List Nat) (s : Nat), ∀ x ∈ Sp.anM (Sp.machOf flagS) s ws, 0 ≤ x ∧ x ≤ 1
  | [], _, x, hx => by cases hx
  | o :: ws, s, x, hx => by
    unfold Sp.anM at hx
    rcases List.mem_cons.1 hx with rfl | hx
    · exact flag_sy s o
    · exact anM_bits ws _ x hx

theorem anM_len (M : Sp.Mach) : ∀ (ws : List Nat) (s : Nat), (Sp.anM M s ws).length = ws.length
  | [], _ => rfl
  | o :: ws, s => by unfold Sp.anM; rw [List.length_cons, List.length_cons, anM_len M ws]

theorem saysL_bits (l : List Int) : ∀ x ∈ saysL l, 0 ≤ x ∧ x ≤ 100000 := fun x hx => by
  unfold saysL Sp.runL at hx
  split at hx
  · have := anM_bits _ _ x hx; omega
  · cases hx

theorem saysL_len {l : List Int} (h : l.length ≤ 20) : (saysL l).length ≤ 1000 := by
  unfold saysL Sp.runL
  split
  · rw [anM_len]; unfold Sp.toN; rw [List.length_map, List.length_map]; omega
  · simp

/-- What a book answers. -/
def askA (b : Bk) (s : List UInt8) : List UInt8 × Int :=
  if s = [115, 105, 122, 101] then sizeA b.list else if s = [115, 97, 121, 115] then saysA b.list else if s = [99, 111, 117, 110, 116] then (Lib.itoa (b.list.length : Int), 0) else ([], 100)

end Go.Lin.Kp
namespace Go.Proofs.YtmohnddglmolgaaGreatDoor
open Go Go.RowKit Go.Lin Go.Lin.Kp

theorem ints2 {w : World} {q : Nat} {a b : Int} (h : w.heap[q]? = some (.cells #[.int .i64 a, .int .i64 b] 3 (0, 0))) : IsInts Any w (.slice (some ⟨q, 0, none⟩) 2 2) [a, b] := by
  refine ⟨_, _, rfl, by simp, fun i hi => ?_⟩
  have c0 := cell_of_row w q 0 _ _ _ h
  have c1 := cell_of_row w q 1 _ _ _ h
  have hi' : i < 2 := hi
  rcases (show i = 0 ∨ i = 1 by omega) with rfl | rfl
  · exact ⟨q, 0, _, rfl, h, trivial, by simpa [nth] using c0⟩
  · exact ⟨q, 0, _, rfl, h, trivial, by simpa [nth] using c1⟩

theorem rows2 {w : World} {q : Nat} {u v : Value} {xs ys : List Int} (h : w.heap[q]? = some (.cells #[u, v] 39 (0, 0))) (hu : IsInts Any w u xs) (hv : IsInts Any w v ys) : Sp.IsRows Any w (.slice (some ⟨q, 0, none⟩) 2 2) [xs, ys] := by
  refine ⟨fun i => if i = 0 then u else v, ⟨_, _, rfl, by simp, fun i hi => ?_⟩, fun i hi => ?_⟩
  · have c0 := cell_of_row w q 0 _ _ _ h
    have c1 := cell_of_row w q 1 _ _ _ h
    have hi' : i < 2 := hi
    rcases (show i = 0 ∨ i = 1 by omega) with rfl | rfl
    · exact ⟨q, 0, _, rfl, h, trivial, by simpa using c0⟩
    · exact ⟨q, 0, _, rfl, h, trivial, by simpa using c1⟩
  · have hi' : i < 2 := hi
    rcases (show i = 0 ∨ i = 1 by omega) with rfl | rfl
    · simpa [Sp.nthL] using hu
    · simpa [Sp.nthL] using hv

/-- A block of four cells is written anew. -/
theorem store4 {w : World} {q : Nat} {c0 c1 c2 c3 : Value} {t : TypeId} (h : w.heap[q]? = some (.cells #[c0, c1, c2, c3] t (0, 0))) (a0 a1 a2 a3 : Value) :
    ∃ W, (((w.setCell ⟨q, 0, none⟩ a0).setCell ⟨q, 1, none⟩ a1).setCell ⟨q, 2, none⟩ a2).setCell ⟨q, 3, none⟩ a3 = W ∧ W.heap[q]? = some (.cells #[a0, a1, a2, a3] t (0, 0)) ∧ Keeps (fun k _ => k = q) w W := by
  have hk : ∀ (i : Nat) (u : Value) (x : World), Keeps (fun k _ => k = q) x (x.setCell ⟨q, i, none⟩ u) := fun i u x => keeps_set1 u _ (fun _ => rfl)
  have h1 := heap_setCell_same w q 0 _ _ a0 h
  have h2 := heap_setCell_same _ q 1 _ _ a1 h1
  have h3 := heap_setCell_same _ q 2 _ _ a2 h2
  have h4 := heap_setCell_same _ q 3 _ _ a3 h3
  exact ⟨_, rfl, by simpa using h4, (((hk _ _ _).trans (hk _ _ _)).trans (hk _ _ _)).trans (hk _ _ _)⟩

set_option maxHeartbeats 4000000 in
set_option maxRecDepth 20000 in
theorem says86_any (bb bm : Nat) (b : Bk) (G : Nat → Prop) (w : World) (h : IsBook w bb bm b G) (hb : BkOk b) (hL : Lay w) :
    Calls Tryz.prog 86 #[ptr bb] w fun e w' => e = .returned (.tuple #[.string ⟨(saysA b.list).1.toArray⟩, .int .i64 (saysA b.list).2]) ∧ Grew w w' := by
  have HB := hid h; have HLA := hid hL
  have HMD := hid (fun (W : World) (h : IsBook W bb bm b G) => modulo113_any bb bm b G 2 W h hb (by decide))
  have hl20 := hb.1
  unfold saysA
  obtain ⟨l, hl⟩ : ∃ l, b.list = l := ⟨_, rfl⟩
  rw [hl] at HMD hl20 ⊢
  obtain ⟨V1, hV1, g1, o1, z1⟩ := block_made w #[.int .i64 1, .int .i64 0] 3
  obtain ⟨V2, hV2, g2, o2, z2⟩ := block_made V1 #[.int .i64 1, .int .i64 1] 3
  obtain ⟨V3, hV3, g3, o3, z3⟩ := block_made V2 #[.slice (some ⟨w.heap.size, 0, none⟩) 2 2, .slice (some ⟨V1.heap.size, 0, none⟩) 2 2] 39
  obtain ⟨V4, hV4, g4, o4, z4⟩ := block_made V3 #[.int .i64 0, .int .i64 0] 3
  obtain ⟨V5, hV5, g5, o5, z5⟩ := block_made V4 #[.int .i64 0, .int .i64 1] 3
  obtain ⟨V6, hV6, g6, o6, z6⟩ := block_made V5 #[.slice (some ⟨V3.heap.size, 0, none⟩) 2 2, .slice (some ⟨V4.heap.size, 0, none⟩) 2 2] 39
  obtain ⟨V7, hV7, g7, o7, z7⟩ := block_made V6 #[.int .i64 0, .int .i64 0, .slice none 0 0, .slice none 0 0] 166
  have g16 := grew_trans g1 (grew_trans g2 (grew_trans g3 (grew_trans g4 (grew_trans g5 (grew_trans g6 g7)))))
  obtain ⟨VS, hVS, oS, kS⟩ := store4 o7 (.int .i64 2) (.int .i64 2) (.slice (some ⟨V2.heap.size, 0, none⟩) 2 2) (.slice (some ⟨V5.heap.size, 0, none⟩) 2 2)
  have hmono : w.heap.size ≤ V6.heap.size := by omega
  have gS : Grew w VS := grew_b g16 (kS.below g16.size (fun k _ e => by rw [e]; exact hmono))
  have keep : ∀ (q : Nat) (o : Obj) (V : World), Grew V V7 → V.heap[q]? = some o → q < V6.heap.size → VS.heap[q]? = some o := fun q o V hg ho hq => kS.obj _ _ ((hg.block _ (lt_of_obj ho)).trans ho) (fun e => by omega)
  have p1 := keep _ _ V1 (grew_trans g2 (grew_trans g3 (grew_trans g4 (grew_trans g5 (grew_trans g6 g7))))) o1 (by omega)
  have p2 := keep _ _ V2 (grew_trans g3 (grew_trans g4 (grew_trans g5 (grew_trans g6 g7)))) o2 (by omega)
  have p3 := keep _ _ V3 (grew_trans g4 (grew_trans g5 (grew_trans g6 g7))) o3 (by omega)
  have p4 := keep _ _ V4 (grew_trans g5 (grew_trans g6 g7)) o4 (by omega)
  have p5 := keep _ _ V5 (grew_trans g6 g7) o5 (by omega)
  have p6 := keep _ _ V6 g7 o6 (by omega)
  have hspec : Sp.IsSpec VS (.agg #[.int .i64 2, .int .i64 2, .slice (some ⟨V2.heap.size, 0, none⟩) 2 2, .slice (some ⟨V5.heap.size, 0, none⟩) 2 2]) flagS :=
    ⟨_, _, rfl, rows2 p3 (ints2 p1) (ints2 p2), rows2 p6 (ints2 p4) (ints2 p5)⟩
  have HSP := hid hspec; have HGS := hid gS
  have HRUN := hid (fun (W : World) (u : Value) (hs : Sp.IsSpec W (.agg #[.int .i64 2, .int .i64 2, .slice (some ⟨V2.heap.size, 0, none⟩) 2 2, .slice (some ⟨V5.heap.size, 0, none⟩) 2 2]) flagS) (hx : IsInts Any W u (l.map (· % 2))) => (by
    have := Ks.runOf_any flagS 0 (l.map (· % 2)) _ u W hs hx
    rw [flag_runs hl20] at this; exact this))
  have HJ := hid (fun (W : World) (u : Value) (hu : IsInts Any W u (saysL l)) (hg : Grew w W) => joined115_any u (saysL l) 32 W hu (saysL_len hl20) (saysL_bits l) (HLA.out.grew hg))
  have t0 := cell_of_row V7 V6.heap.size 0 _ _ _ o7; have t1 := cell_of_row V7 V6.heap.size 1 _ _ _ o7; have t2 := cell_of_row V7 V6.heap.size 2 _ _ _ o7; have t3 := cell_of_row V7 V6.heap.size 3 _ _ _ o7
  have u0 := cell_of_row VS V6.heap.size 0 _ _ _ oS; have u1 := cell_of_row VS V6.heap.size 1 _ _ _ oS; have u2 := cell_of_row VS V6.heap.size 2 _ _ _ oS; have u3 := cell_of_row VS V6.heap.size 3 _ _ _ oS
  simp only [List.getElem?_toArray, List.getElem?_cons_zero, List.getElem?_cons_succ] at t0 t1 t2 t3 u0 u1 u2 u3
  have fz0 := frozen_of_row V7 V6.heap.size 0 _ _ o7; have fz1 := frozen_of_row V7 V6.heap.size 1 _ _ o7; have fz2 := frozen_of_row V7 V6.heap.size 2 _ _ o7; have fz3 := frozen_of_row V7 V6.heap.size 3 _ _ o7
  have HOS := hid oS
  clear g1 g2 g3 g4 g5 g6 g7 o1 o2 o3 o4 o5 o6 o7 z1 z2 z3 z4 z5 z6 z7 g16 oS kS hmono gS keep p1 p2 p3 p4 p5 p6 hspec hl hb h hL
  go_enter Tryz.func86, Tryz.ntmps86
  go_wp2
  have HGD := hid (grew_drew HGS.out)
  have HSPD := hid (HSP.out.grew (grew_drew (grew_refl VS)))
  go_region_law (first
    | (go_simp; go_at_call 113; (with_reducible refine (HMD.out _ (HB.out.grew HGD.out)).mono ?_); rintro e w2 ⟨u, rfl, hs, hg⟩; have HG2 := hid (grew_trans HGD.out hg); have HSP2 := hid (HSPD.out.grew hg); have HI2 := hid hs.isInts.any; have y0 := (hg.cell (p := ⟨V6.heap.size, 0, none⟩) (World.block_lt_of_cell? VS _ u0)).trans u0; have y1 := (hg.cell (p := ⟨V6.heap.size, 1, none⟩) (World.block_lt_of_cell? VS _ u1)).trans u1; have y2 := (hg.cell (p := ⟨V6.heap.size, 2, none⟩) (World.block_lt_of_cell? VS _ u2)).trans u2; have y3 := (hg.cell (p := ⟨V6.heap.size, 3, none⟩) (World.block_lt_of_cell? VS _ u3)).trans u3; clear hs hg)
    | (go_simp; go_at_call 114; (with_reducible refine (HRUN.out _ _ HSP2.out HI2.out).mono ?_); rintro e w3 ⟨u3, rfl, hi3, hg3⟩; obtain ⟨ua3, uc3, rfl, _⟩ := id hi3; have HI3 := hid (show IsInts Any w3 _ (saysL l) from hi3); have HG3 := hid (grew_trans HG2.out hg3); clear hi3 hg3))
  all_goals (
    go_wp2_with (go_at_call 115; (with_reducible refine (HJ.out _ _ HI3.out HG3.out).mono ?_); rintro e w4 ⟨rfl, hg⟩; have HG4 := hid (grew_trans HG3.out hg); clear hg)
    go_ret2
    exact ⟨rfl, HG4.out⟩)

theorem ask_eq (s : ByteArray) (l : List UInt8) : (s.toList == l) = decide (s.data.toList = l) := by
  rw [ByteArray.toList_eq]
  by_cases h : s.data.toList = l
  · rw [decide_eq_true h, h]; exact beq_self_eq_true _
  · rw [decide_eq_false h, beq_eq_false_iff_ne]; exact h

set_option maxHeartbeats 2000000 in
set_option maxRecDepth 20000 in
theorem askOk : AskOk askA := fun bb bm b G s w h hb _ hL => by
  have HNO := hid (none51_book bb bm b G w h)
  have HSZ := hid (size85_any bb bm b G w h hb hL)
  have HSY := hid (says86_any bb bm b G w h hb hL)
  have hl20 := hb.1
  obtain ⟨v, hbi⟩ := id h
  have c2 := hbi.c2
  have hlt := lt_of_obj hbi.obj
  obtain ⟨va, vc, rfl, _⟩ := hbi.list.shape
  have HIT := hid (itoa47_any (b.list.length : Int) (by omega) (by omega) w hL)
  have f1 := ask_eq s [115, 105, 122, 101]
  have f2 := ask_eq s [115, 97, 121, 115]
  have f3 := ask_eq s [99, 111, 117, 110, 116]
  unfold askA
  obtain ⟨sl, hsl⟩ : ∃ l, s.data.toList = l := ⟨_, rfl⟩
  rw [hsl] at f1 f2 f3 ⊢
  obtain ⟨n, hn⟩ : ∃ n, b.list.length = n := ⟨_, rfl⟩
  rw [hn] at c2 HIT hl20 ⊢
  obtain ⟨zA, hzA⟩ : ∃ z, sizeA b.list = z := ⟨_, rfl⟩
  obtain ⟨yA, hyA⟩ : ∃ z, saysA b.list = z := ⟨_, rfl⟩
  rw [hzA] at HSZ ⊢
  rw [hyA] at HSY ⊢
  clear hzA hyA hn hsl hbi hb hL h
  by_cases e1 : sl = [115, 105, 122, 101]
  · rw [decide_eq_true e1] at f1
    rw [if_pos e1]
    clear f2 f3 e1
    go_enter Tryz.func44, Tryz.ntmps44
    go_wp2_with (first
      | (go_at_call 51; (with_reducible refine HNO.out.mono ?_); rintro e w1 ⟨rfl, rfl⟩)
      | (go_at_call 85; (with_reducible refine HSZ.out.mono ?_); rintro e w2 ⟨rfl, hg⟩; have HG := hid hg; clear hg))
    go_ret2
    exact ⟨rfl, HG.out⟩
  · rw [decide_eq_false e1] at f1
    rw [if_neg e1]
    by_cases e2 : sl = [115, 97, 121, 115]
    · rw [decide_eq_true e2] at f2
      rw [if_pos e2]
      clear f3 e1 e2
      go_enter Tryz.func44, Tryz.ntmps44
      go_wp2_with (first
        | (go_at_call 51; (with_reducible refine HNO.out.mono ?_); rintro e w1 ⟨rfl, rfl⟩)
        | (go_at_call 86; (with_reducible refine HSY.out.mono ?_); rintro e w2 ⟨rfl, hg⟩; have HG := hid hg; clear hg))
      go_ret2
      exact ⟨rfl, HG.out⟩
    · rw [decide_eq_false e2] at f2
      rw [if_neg e2]
      by_cases e3 : sl = [99, 111, 117, 110, 116]
      · rw [decide_eq_true e3] at f3
        rw [if_pos e3]
        clear e1 e2 e3
        go_enter Tryz.func44, Tryz.ntmps44
        go_wp2_with (first
          | (go_at_call 51; (with_reducible refine HNO.out.mono ?_); rintro e w1 ⟨rfl, rfl⟩)
          | (go_at_call 47; (with_reducible refine HIT.out.mono ?_); rintro e w2 ⟨rfl, hg⟩; have HG := hid hg; clear hg))
        go_ret2
        exact ⟨rfl, HG.out⟩
      · rw [decide_eq_false e3] at f3
        rw [if_neg e3]
        clear e1 e2 e3
        go_enter Tryz.func44, Tryz.ntmps44
        go_wp2_with (go_at_call 51; (with_reducible refine HNO.out.mono ?_); rintro e w1 ⟨rfl, rfl⟩)
        go_ret2
        exact ⟨rfl, grew_refl _⟩

end Go.Proofs.YtmohnddglmolgaaGreatDoor
