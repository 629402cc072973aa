/- Walk: in how many ways the entries can be woven: size (85) of the book. -/
import Derived.Test.YtmohnddglmolgaaGreatDoorKpMod
import Derived.Test.YtmohnddglmolgaaGreatDoorKpDeskA
import Derived.Test.YtmohnddglmolgaaGreatDoorKwB
namespace Go.Lin.Kp
open Go Go.Lin

def lt4 : Wv.Lt := ⟨4, [(0, 1), (2, 3)]⟩
def sizeV (l : List Int) : Nat := Wv.sizeM (Wv.dep lt4) 4 (l.map (· % 4))
def sizeA (l : List Int) : List UInt8 × Int := if 10 < l.length then ([], 4) else (Lib.itoa (sizeV l), 0)

theorem mod4_letters (l : List Int) : ∀ z ∈ l.map (· % 4), 0 ≤ z ∧ z < 4 := fun z hz => by
  obtain ⟨y, _, rfl⟩ := List.mem_map.1 hz
  exact ⟨Int.emod_nonneg _ (by decide), Int.emod_lt_of_pos y (by decide)⟩

theorem wrong4 {l : List Int} (h : l.length ≤ 10) : Wv.wrong lt4 [l.map (· % 4)] = 0 := by
  have hv : Wv.valid lt4 = true := by decide
  have hw : Wv.isW lt4 (l.map (· % 4)) = true := by
    unfold Wv.isW
    rw [List.length_map, Bool.and_eq_true, decide_eq_true_eq, List.all_eq_true]
    refine ⟨h, fun z hz => ?_⟩
    have := mod4_letters l z hz
    unfold Wv.isL
    rw [Bool.and_eq_true, decide_eq_true_eq, decide_eq_true_eq]
    exact ⟨this.1, by show z ≤ 4 - 1; omega⟩
  unfold Wv.wrong
  rw [hv, if_pos rfl, List.all_cons, hw]
  rfl

theorem sizeV_le {l : List Int} (h : l.length ≤ 10) : sizeV l ≤ 60466176 := Wv.sizeM_le (by decide) (by rw [List.length_map]; exact h)

end Go.Lin.Kp
namespace Go.Proofs.YtmohnddglmolgaaGreatDoor
open Go Go.RowKit Go.Lin Go.Lin.Kp

theorem lt4_at {w : World} {q : Nat} (h : w.heap[q]? = some (.cells #[.int .i64 0, .int .i64 1, .int .i64 2, .int .i64 3] 170 (0, 0))) : Kw.IsLt w (.agg #[.int .i64 4, .slice (some ⟨q, 0, none⟩) 2 2]) lt4 := by
  refine ⟨_, rfl, some ⟨q, 0, none⟩, 2, rfl, ⟨by decide, by decide⟩, fun i x hx => ?_⟩
  have hi : i < 2 := (List.getElem?_eq_some_iff.1 hx).1
  have hl := lt_of_obj h
  have c0 := cell_of_row w q 0 _ _ _ h
  have c1 := cell_of_row w q 1 _ _ _ h
  have c2 := cell_of_row w q 2 _ _ _ h
  have c3 := cell_of_row w q 3 _ _ _ h
  rcases (show i = 0 ∨ i = 1 by omega) with rfl | rfl
  · cases hx; exact ⟨q, 0, rfl, hl, by simpa using c0, by simpa using c1⟩
  · cases hx; exact ⟨q, 0, rfl, hl, by simpa using c2, by simpa using c3⟩

set_option maxHeartbeats 2000000 in
set_option maxRecDepth 20000 in
theorem size85_any (bb bm : Nat) (b : Bk) (G : Nat → Prop) (w : World) (h : IsBook w bb bm b G) (hb : BkOk b) (hL : Lay w) :
    Calls Tryz.prog 85 #[ptr bb] w fun e w' => e = .returned (.tuple #[.string ⟨(sizeA b.list).1.toArray⟩, .int .i64 (sizeA b.list).2]) ∧ Grew w w' := by
  have HB := hid h; have HLA := hid hL
  obtain ⟨v, hbi⟩ := id h
  have c2 := hbi.c2
  obtain ⟨va, vc, rfl, _⟩ := hbi.list.shape
  unfold sizeA
  obtain ⟨l, hl⟩ : ∃ l, b.list = l := ⟨_, rfl⟩
  have hlt := lt_of_obj hbi.obj
  have HMD := hid (fun (W : World) (h : IsBook W bb bm b G) => modulo113_any bb bm b G 4 W h hb (by decide))
  have hl20 := hb.1
  rw [hl] at c2 HMD hl20 ⊢
  obtain ⟨n, hn⟩ : ∃ n, l.length = n := ⟨_, rfl⟩
  rw [hn] at c2 HMD hl20 ⊢
  have HN := hid hn
  clear hl hn hbi hb hL h
  by_cases h10 : 10 < n
  · rw [if_pos h10]
    have d : decide ((10 : Int) < (n : Int)) = true := by simp; omega
    clear h10
    go_enter Tryz.func85, Tryz.ntmps85
    go_wp2
    go_ret2
    exact ⟨rfl, grew_refl _⟩
  · rw [if_neg h10]
    have d : decide ((10 : Int) < (n : Int)) = false := by simp; omega
    have hn10 : n ≤ 10 := by omega
    obtain ⟨W1, hW1, g1, o1, z1⟩ := block_made w #[.int .i64 0, .int .i64 1, .int .i64 2, .int .i64 3] 170
    have hsz : l.length ≤ 10 := by rw [HN.out]; exact hn10
    have HSZ := hid (fun (W : World) (u : Value) (hu : Kw.IsLt W (.agg #[.int .i64 4, .slice (some ⟨w.heap.size, 0, none⟩) 2 2]) lt4) (hx : Kw.IsWd W u (l.map (· % 4))) => (by
      have := Kw.size48_any _ lt4 u (l.map (· % 4)) W (by decide) hu hx
      rw [wrong4 hsz, if_pos rfl] at this; exact this : Calls Tryz.prog 112 #[.agg #[.int .i64 4, .slice (some ⟨w.heap.size, 0, none⟩) 2 2], u] W fun e w' => e = .returned (.tuple #[.int .i64 (sizeV l : Int), .int .i64 0]) ∧ Grew W w'))
    have hle := sizeV_le hsz
    obtain ⟨sz, hsv⟩ : ∃ s, sizeV l = s := ⟨_, rfl⟩
    rw [hsv] at HSZ hle ⊢
    have HIT := hid (fun (W : World) (h : Grew w W) => itoa47_any (sz : Int) (by omega) (by omega) W (HLA.out.grew h))
    have HG1 := hid g1; have HO1 := hid o1
    clear h10 hn10 hsz hle hsv g1 o1 z1
    go_enter Tryz.func85, Tryz.ntmps85
    go_wp2_with (first
      | (go_at_call 113; (with_reducible refine (HMD.out _ (HB.out.grew HG1.out)).mono ?_); rintro e w2 ⟨u, rfl, hs, hg⟩; have HG2 := hid (grew_trans HG1.out hg); have HL2 := hid (lt4_at ((hg.block _ (lt_of_obj HO1.out)).trans HO1.out)); have HW2 := hid (Kw.IsWd.of_seg hs); clear hs hg)
      | (go_at_call 112; (with_reducible refine (HSZ.out _ _ HL2.out HW2.out).mono ?_); rintro e w3 ⟨rfl, hg⟩; have HG3 := hid (grew_trans HG2.out hg); clear hg)
      | (go_at_call 47; (with_reducible refine (HIT.out _ HG3.out).mono ?_); rintro e w4 ⟨rfl, hg⟩; have HG4 := hid (grew_trans HG3.out hg); clear hg))
    go_ret2
    exact ⟨rfl, HG4.out⟩

end Go.Proofs.YtmohnddglmolgaaGreatDoor
