/- The key types of this program's maps: pairs of ints, words as arrays. Walk: the program's Valid. Walk: newLoom. Walk: newLoom. -/
import Derived.Test.YtddnpooffcjhnaaWvP
import Derived.Test.YtddnpooffcjhnaaMaps
import Derived.DeepKeys4
import Derived.Laws.Rows
import Derived.Deep.RegionHeld3
namespace Go.Proofs.Ytddnpooffcjhnaa
open Go.RowKit Go.Lin Go.Lin.Wv Go.Maps

theorem Try.laidOut : laidOutB Try.prog = true := by kernel_rfl
theorem keyed57 : Keyed Try.prog 57 := Keyed.of_law (deep_law_laid Try.laidOut (m := 3) (by decide) (of_decide_eq_true (by kernel_rfl)) (by kernel_rfl) (by kernel_rfl))
theorem zero4 (w : World) : (zeroValue 4).run Try.prog w = .ok (.bool false) w := by kernel_rfl

/-- A pair as a key. -/
def encQ (x : Int × Int) : Value := .agg #[.int .i64 x.1, .int .i64 x.2]
theorem encQ_inj (x y : Int × Int) (h : encQ x = encQ y) : x = y := by
  unfold encQ at h
  simp at h
  exact Prod.ext h.1 h.2

theorem key57 (x : Int × Int) (k1 : (Lit.int .i64 x.1).wf = true) (k2 : (Lit.int .i64 x.2).wf = true) : ∃ l, keyOf Try.prog 57 (encQ x) = some l := by
  have u98 := Try.underlying57
  have u3 := Try.underlying3
  have c98 : Try.prog.cellsOf 57 = 2 := by kernel_rfl
  have c3 : Try.prog.cellsOf 3 = 1 := by kernel_rfl
  have kt : Try.prog.keyType 57 = true := by kernel_rfl
  have hsz : ∃ m, Try.prog.types.size + 1 = m + 2 := ⟨Try.prog.types.size - 1, by have : 1 ≤ Try.prog.types.size := of_decide_eq_true (by kernel_rfl); omega⟩
  obtain ⟨m, hm⟩ := hsz
  have e1 : Try.prog.keyLits (m + 1) 3 [.int .i64 x.1] = some [.int .i64 x.1] := by
    unfold Program.keyLits; rw [u3]; simp only [k1, and_self, if_true]
  have e2 : Try.prog.keyLits (m + 1) 3 [.int .i64 x.2] = some [.int .i64 x.2] := by
    unfold Program.keyLits; rw [u3]; simp only [k2, and_self, if_true]
  have e3 : Try.prog.keyLits (m + 2) 57 [.int .i64 x.1, .int .i64 x.2] = some [.int .i64 x.1, .int .i64 x.2] := by
    unfold Program.keyLits; rw [u98]
    simp only [c98, c3, List.length_cons, List.length_nil, if_true]
    rw [show List.range 2 = [0, 1] from rfl]
    simp only [List.mapM_cons, List.mapM_nil, Nat.zero_mul, Nat.one_mul, List.drop_zero, List.drop_succ_cons, List.take_succ_cons, List.take_zero, e1, e2]
    rfl
  have hf : (encQ x).formed Try.prog 57 = true := by
    unfold encQ Value.formed; rw [u98]; simp only [c98]; rfl
  refine ⟨.string (keyBytes [.int .i64 x.1, .int .i64 x.2]), ?_⟩
  unfold keyOf
  rw [u98]
  simp only [kt, hf, Bool.and_self, if_true, hm]
  unfold encQ
  simp only [Value.cells]
  rw [e3]
  rfl

end Go.Proofs.Ytddnpooffcjhnaa
namespace Go.Lin.Wv

theorem pairsOk_drop {n : Int} {s ps : List (Int × Int)} {j : Nat} {x : Int × Int} (h : ps[j]? = some x) : pairsOk n s (ps.drop j) = (pairOk n x && !s.contains x && pairsOk n (s ++ [x]) (ps.drop (j + 1))) := by
  have : ps.drop j = x :: ps.drop (j + 1) := by
    obtain ⟨h1, h2⟩ := List.getElem?_eq_some_iff.1 h
    rw [← h2]
    exact List.drop_eq_getElem_cons h1
  rw [this]
  rfl

theorem take_add_get {α : Type} {l : List α} {j : Nat} {x : α} (h : l[j]? = some x) : l.take (j + 1) = l.take j ++ [x] := by
  rw [List.take_add_one, h]; rfl

end Go.Lin.Wv
namespace Go.Proofs.Ytddnpooffcjhnaa
open Go.RowKit Go.Lin Go.Lin.Wv Go.Maps

set_option maxHeartbeats 8000000 in
set_option maxRecDepth 20000 in
theorem valid_any (v : Value) (L : Lt) (w : World) (hn : L.n ≤ 9223372036854775807) (hv : IsLt w v L) : Calls Try.prog 37 #[v] w fun e w' => e = .returned (.bool (valid L)) ∧ Grew w w' := by
  obtain ⟨N, ps⟩ := L
  obtain ⟨s, rfl, va, vc, rfl, hm, hdd⟩ := hv
  simp only at hn hm hdd ⊢
  obtain ⟨m, hmm⟩ : ∃ m, ps.length = m := ⟨_, rfl⟩
  obtain ⟨W0, hW0, g0, k0, k1, hz⟩ := box2 w (.int .i64 N) (.slice va m vc) 24
  rw [hmm] at hm ⊢
  obtain ⟨R, hR⟩ : ∃ R, valid ⟨N, ps⟩ = R := ⟨_, rfl⟩
  rw [hR]
  have HR := hid (show R = (pairsOk N (ps.take 0) (ps.drop 0) && (decide (1 ≤ N) && decide (N ≤ 6))) from by rw [← hR]; rfl)
  have HM := hid hmm
  have HDD := hid hdd
  have hg := g0
  have hz0 := hz
  have hmk := FMap.made W0 Try.prog 57 4 encQ Lit.bool false
  have HMAP0 := hid (hmk.congr (S' := fun x => (ps.take 0).contains x) (fun x => by simp))
  have hrm := @run_makeMap Try.prog
  clear hmm hdd hR hmk
  go_enter Try.func37, Try.ntmps37
  go_wp2
  go_loopg [2, 5, 10] m (fun k res bx i wr => ∃ j : Nat, j ≤ m ∧ i = .int .i64 j ∧ k = m - j ∧ Hid (R = (pairsOk N (ps.take j) (ps.drop j) && (decide (1 ≤ N) && decide (N ≤ 6)))) ∧ Hid (FMap wr Try.prog 57 4 W0.heap.size j encQ Lit.bool false (fun x => (ps.take j).contains x)) ∧ Hid (Below W0.heap.size W0 wr))
  case atStart => exact ⟨0, by omega, rfl, rfl, HR, HMAP0, hid (grew_alloc (grew_refl _) _)⟩
  case round =>
    obtain ⟨j, hj, rfl, hk, HRR, HMAP, HG⟩ := hrel
    have HK := hid hk; clear hk
    rename World => wr
    have kw0 := (HG.out.cell (p := ⟨w.heap.size, 0, none⟩) hz).trans k0
    have kw1 := (HG.out.cell (p := ⟨w.heap.size, 1, none⟩) hz).trans k1
    have hzw := Nat.lt_of_lt_of_le hz HG.out.size
    by_cases hlt : j < m
    · obtain ⟨x, hx⟩ : ∃ x, ps[j]? = some x := ⟨_, List.getElem?_eq_getElem (by rw [HM.out]; exact hlt)⟩
      obtain ⟨bb, off, rfl, hpa⟩ := HDD.out j x hx
      have hpa' := (hpa.grew hpa.lt g0)
      have hpa2 := (hpa'.grew hpa'.lt HG.out)
      have c0 := hpa2.c0
      have c1 := hpa2.c1
      have hlt2 := hpa2.lt
      have hsucc := pairsOk_drop (n := N) (s := ps.take j) hx
      rw [← take_add_get hx] at hsucc
      have HTK := hid (take_add_get hx)
      obtain ⟨x1, x2⟩ := x
      simp only at c0 c1
      obtain ⟨W1, hW1, g1, l0, l1, hz1⟩ := box2 wr (.int .i64 x1) (.int .i64 x2) 57
      have hg1 := HG.out.trans (g1.mono (by have := HG.out.size; exact this))
      have HG1 := hid hg1
      have kx0 := (g1.cell (p := ⟨w.heap.size, 0, none⟩) hzw).trans kw0
      have hzx := Nat.lt_of_lt_of_le hzw g1.size
      obtain ⟨p1, hp1⟩ : ∃ q, decide (x1 < 0) = q := ⟨_, rfl⟩
      obtain ⟨p2, hp2⟩ : ∃ q, decide (x1 ≥ x2) = q := ⟨_, rfl⟩
      obtain ⟨p3, hp3⟩ : ∃ q, decide (x2 ≥ N) = q := ⟨_, rfl⟩
      have hpo : pairOk N (x1, x2) = !(p1 || p2 || p3) := by
        unfold pairOk; rw [← hp1, ← hp2, ← hp3]
      rw [hpo] at hsucc
      clear hpo
      have hbad : (p1 || p2 || p3) = true → R = false := fun h => by rw [HRR.out, hsucc, h]; rfl
      cases p1 <;> cases p2 <;> cases p3
      all_goals (
        first
        | (have hrn := hbad rfl
           have HRN := hid hrn
           clear hbad hrn hsucc hx hpa hpa' hpa2
           go_wp2
           go_ret
           exact ⟨by rw [HRN.out]; rfl, grew_trans g0 (HG1.out.mono (by omega))⟩)
        | skip)
      have hp1' : ¬ x1 < 0 := of_decide_eq_false hp1
      have hp2' : ¬ x1 ≥ x2 := of_decide_eq_false hp2
      have hp3' : ¬ x2 ≥ N := of_decide_eq_false hp3
      have k1' : (Lit.int .i64 x1).wf = true := WalkArith.wf_i64 (by omega)
      have k2' : (Lit.int .i64 x2).wf = true := WalkArith.wf_i64 (by omega)
      obtain ⟨kl, hkl⟩ := key57 (x1, x2) k1' k2'
      have hM1 := HMAP.out.grew g1
      have hlk := hM1.lookup_bool keyed57 Try.underlying84 Try.underlying4 (zero4 W1) hkl
      obtain ⟨q, hq⟩ : ∃ q, (ps.take j).contains (x1, x2) = q := ⟨_, rfl⟩
      simp only [hq, encQ] at hlk
      rw [hq] at hsucc
      cases q
      · have HSC := hid hsucc
        have HM1 := hid hM1
        have HKL := hid hkl
        have HQ := hid hq
        clear hbad hsucc hx hpa hpa' hpa2 hM1 hkl hq hp1' hp2' hp3' k1' k2'
        go_wp2_with (refine wpList_update_f rfl _ _ _ 84 (.inl rfl) keyed57 Try.underlying84 rfl HM1.out (by unfold maxLen; omega) (x1, x2) rfl HKL.out (fun u h => encQ_inj _ _ h) (.bool true) rfl (e := true) (plainElem_bool Try.underlying4 true) (fun x => (ps.take (j + 1)).contains x) (by rw [HTK.out]; simp) (fun u hu => by
          rw [HTK.out, List.contains_eq_any_beq, List.contains_eq_any_beq, List.any_append]
          have : (u == (x1, x2)) = false := by simpa using hu
          simp [this]) ?_; intro w2 hmap2 hgr2; have HMAP2 := hid hmap2; have HGR2 := hid hgr2; clear hmap2 hgr2)
        go_roundg (m - (j + 1))
        case measure => have := HK.out; omega
        case rel => exact ⟨j + 1, by omega, by go_num, rfl, hid (by rw [HRR.out, HSC.out]; rfl), HMAP2, hid (HG1.out.grown HGR2.out HG1.out.size (fun k e => by cases e; exact Nat.le_refl _))⟩
      · have hrn : R = false := by rw [HRR.out, hsucc]; rfl
        have HRN := hid hrn
        clear hbad hrn hsucc hx hpa hpa' hpa2 hM1 hkl hq hp1' hp2' hp3' k1' k2'
        go_wp2
        go_ret
        exact ⟨by rw [HRN.out]; rfl, grew_trans g0 (HG1.out.mono (by omega))⟩
    · obtain rfl : m = j := by omega
      have hrn : R = (decide (1 ≤ N) && decide (N ≤ 6)) := by
        rw [HRR.out, List.drop_of_length_le (by rw [HM.out]; exact Nat.le_refl _)]; rfl
      have HB := hid (between_any 1 N 6 wr)
      rw [← hrn] at HB
      clear hrn
      go_wp2_with (go_at_call 61; (with_reducible refine HB.out.mono ?_); rintro e w1 ⟨rfl, hx⟩; have HX := hid hx; clear hx)
      go_ret
      exact ⟨rfl, grew_trans g0 (HG.out.trans (HX.out.mono HG.out.size))⟩

end Go.Proofs.Ytddnpooffcjhnaa
namespace Go.Lin.Wv

theorem pairsOk_all {n : Int} : ∀ {ps s : List (Int × Int)}, pairsOk n s ps = true → ∀ p ∈ ps, 0 ≤ p.1 ∧ p.1 < p.2 ∧ p.2 < n
  | [], _, _, p, hp => by cases hp
  | x :: ps, s, h, p, hp => by
    simp only [pairsOk, Bool.and_eq_true] at h
    rcases List.mem_cons.1 hp with rfl | hp
    · have := h.1.1
      simp [pairOk] at this
      omega
    · exact pairsOk_all h.2 p hp

theorem valid_iff {L : Lt} (h : valid L = true) : (1 ≤ L.n ∧ L.n ≤ 6) ∧ ∀ p ∈ L.ps, 0 ≤ p.1 ∧ p.1 < p.2 ∧ p.2 < L.n := by
  unfold valid at h
  simp only [Bool.and_eq_true, decide_eq_true_eq] at h
  exact ⟨h.2, pairsOk_all h.1⟩

/-- What depends by the diagonal up to i and the first j pairs. -/
def dpt (ps : List (Int × Int)) (i j : Nat) (a b : Nat) : Bool := (a == b && decide (a < i)) || (ps.take j).any (hits a b)

theorem dpt_diag {ps : List (Int × Int)} {i : Nat} (a b : Nat) : dpt ps (i + 1) 0 a b = (dpt ps i 0 a b || (a == i && b == i)) := by
  unfold dpt
  simp only [List.take_zero, List.any_nil, Bool.or_false]
  rw [Bool.eq_iff_iff]
  simp
  omega

theorem dpt_pair {ps : List (Int × Int)} {n j : Nat} {x y : Nat} (h : ps[j]? = some ((x : Int), (y : Int))) (a b : Nat) : dpt ps n (j + 1) a b = ((dpt ps n j a b || (a == x && b == y)) || (a == y && b == x)) := by
  unfold dpt
  rw [take_add_get h, List.any_append]
  have e : ∀ u v : Nat, ((u : Int) == (v : Int)) = (v == u) := fun u v => by rw [Bool.eq_iff_iff]; simp; omega
  simp only [List.any_cons, List.any_nil, Bool.or_false, hits, e, Bool.or_assoc]
  rw [Bool.and_comm (b == x) (a == y)]

theorem dpt_dep {L : Lt} {N : Nat} (a b : Nat) (ha : a < N) : dpt L.ps N L.ps.length a b = dep L a b := by
  unfold dpt dep
  rw [List.take_length]
  congr 1
  rw [Bool.eq_iff_iff]
  simp
  omega

end Go.Lin.Wv
namespace Go.Lin

theorem cell_off_set {W w : World} {B o : Nat} {v : Value} (h : ∀ b o, b ≠ B → w.cell? ⟨b, o, none⟩ = W.cell? ⟨b, o, none⟩) : ∀ b o', b ≠ B → (w.setCell ⟨B, o, none⟩ v).cell? ⟨b, o', none⟩ = W.cell? ⟨b, o', none⟩ := by
  intro b o' hb
  rw [World.cell?_setCell_other _ _ _ _ (fun e => hb (congrArg Addr.block e).symm)]
  exact h b o' hb

end Go.Lin
namespace Go.Proofs.Ytddnpooffcjhnaa
open Go.RowKit Go.Lin Go.Lin.Wv Go.Maps

/-- A loom that is being made. -/
structure LoomF (w : World) (B N : Nat) (f : Nat → Nat → Bool) : Prop where
  obj : ∃ cs : Array Value, w.heap[B]? = some (.cells cs 76 (0, 0)) ∧ cs.size = 37 ∧ cs[0]? = some (.int .i64 (N : Int)) ∧ ∀ a b, a < 6 → b < 6 → cs[1 + a * 6 + b]? = some (.bool (f a b))

theorem LoomF.lt {w : World} {B N : Nat} {f : Nat → Nat → Bool} (h : LoomF w B N f) : B < w.heap.size := by
  obtain ⟨cs, h1, _⟩ := h.obj
  exact lt_of_obj h1

theorem LoomF.cell {w : World} {B N : Nat} {f : Nat → Nat → Bool} (h : LoomF w B N f) {a b : Nat} (ha : a < 6) (hb : b < 6) : w.cell? ⟨B, 1 + a * 6 + b, none⟩ = some (.bool (f a b)) := by
  obtain ⟨cs, h1, h2, h3, h4⟩ := h.obj
  rw [cell_of_row w B _ _ _ _ h1]; exact h4 a b ha hb

theorem LoomF.head {w : World} {B N : Nat} {f : Nat → Nat → Bool} (h : LoomF w B N f) : w.cell? ⟨B, 0, none⟩ = some (.int .i64 (N : Int)) := by
  obtain ⟨cs, h1, h2, h3, h4⟩ := h.obj
  rw [cell_of_row w B _ _ _ _ h1]; exact h3

theorem LoomF.frozen {w : World} {B N : Nat} {f : Nat → Nat → Bool} (h : LoomF w B N f) (j : Nat) : w.frozen? ⟨B, j, none⟩ = false := by
  obtain ⟨cs, h1, _⟩ := h.obj
  exact frozen_of_row _ _ _ _ _ h1

theorem LoomF.keeps {w w' : World} {B N : Nat} {f : Nat → Nat → Bool} {may : Nat → Obj → Prop} (h : LoomF w B N f) (hk : Keeps may w w') (hm : ∀ o, ¬ may B o) : LoomF w' B N f := by
  obtain ⟨cs, h1, h2⟩ := h.obj
  exact ⟨cs, hk.obj _ _ h1 (hm _), h2⟩

theorem LoomF.grew {w w' : World} {B N : Nat} {f : Nat → Nat → Bool} (h : LoomF w B N f) (hg : Grew w w') : LoomF w' B N f := h.keeps (may := fun _ _ => False) hg.keeps (fun _ h => h)

theorem LoomF.set {w : World} {B N : Nat} {f g : Nat → Nat → Bool} (h : LoomF w B N f) {a b : Nat} (ha : a < 6) (hb : b < 6) (hg : ∀ x y, g x y = (f x y || (x == a && y == b))) : LoomF (w.setCell ⟨B, 1 + a * 6 + b, none⟩ (.bool true)) B N g := by
  obtain ⟨cs, h1, h2, h3, h4⟩ := h.obj
  refine ⟨_, heap_setCell_same _ _ _ _ _ _ h1, by simpa using h2, ?_, fun x y hx hy => ?_⟩
  · rw [Array.getElem?_setIfInBounds_ne (by omega)]; exact h3
  · by_cases he : 1 + a * 6 + b = 1 + x * 6 + y
    · obtain ⟨rfl, rfl⟩ : x = a ∧ y = b := by omega
      rw [Array.getElem?_setIfInBounds_self_of_lt (by omega), hg]
      simp
    · rw [Array.getElem?_setIfInBounds_ne he, h4 x y hx hy, hg]
      have : (x == a && y == b) = false := by
        rw [Bool.eq_false_iff]
        intro h
        simp at h
        obtain ⟨rfl, rfl⟩ := h
        exact he rfl
      rw [this, Bool.or_false]

theorem LoomF.loom {w : World} {B N : Nat} {f : Nat → Nat → Bool} {D : Int → Int → Bool} (h : LoomF w B N f) (hN : N ≤ 6) (hf : ∀ a b : Nat, a < N → b < N → f a b = D a b) : Loom w B D N :=
  ⟨h.lt, h.head, fun a b ha hb => by rw [h.cell (by omega) (by omega), hf a b ha hb]⟩

theorem bad_says {D : Int → Int → Bool} (B N c : Nat) (a : Int) (w : World) (hN : N ≤ 6) (hL : Loom w B D N) (hc : w.cell? ⟨c, 0, none⟩ = some (.pointer (some ⟨B, 0, none⟩))) :
    Says 96 #[.pointer (some ⟨c, 0, none⟩)] (.int .i64 a) (!(decide (0 ≤ a) && decide (a ≤ (N : Int) - 1))) w := by
  intro w' hw
  exact bad_any B N c a w' hN (hL.grew hw) ((hw.cell (p := ⟨c, 0, none⟩) (World.block_lt_of_cell? w _ hc)).trans hc)

theorem entered96 : Entered 96 := fun _ _ => by kernel_rfl

end Go.Proofs.Ytddnpooffcjhnaa
namespace Go.Proofs.Ytddnpooffcjhnaa
open Go.RowKit Go.Lin Go.Lin.Wv Go.Maps

theorem loom_made' (w : World) (N : Nat) (ps : List (Int × Int)) (cs : Array Value) (h : cs = #[.int .i64 (N : Int)] ++ (List.replicate 36 (.bool false)).toArray) : LoomF (w.alloc (.cells cs 76)) w.heap.size N (dpt ps 0 0) := by
  subst h
  refine ⟨_, heap_alloc_new w _, by simp, by simp, fun a b ha hb => ?_⟩
  rw [Array.getElem?_append_right (by simp; omega)]
  simp only [List.size_toArray, List.length_cons, List.length_nil, List.getElem?_toArray]
  rw [List.getElem?_replicate, if_pos (by omega)]
  simp [dpt]

theorem loom_cells (N : Nat) : (#[.int .i64 (N : Int), .bool false, .bool false, .bool false, .bool false, .bool false, .bool false, .bool false, .bool false, .bool false, .bool false, .bool false, .bool false, .bool false, .bool false, .bool false, .bool false, .bool false, .bool false, .bool false, .bool false, .bool false, .bool false, .bool false, .bool false, .bool false, .bool false, .bool false, .bool false, .bool false, .bool false, .bool false, .bool false, .bool false, .bool false, .bool false, .bool false] : Array Value) = #[.int .i64 (N : Int)] ++ (List.replicate 36 (.bool false)).toArray := by
  simp only [List.replicate_succ, List.replicate_zero, List.append_toArray, List.cons_append, List.nil_append]

theorem keeps_at {w w' : World} {B : Nat} (h : Keeps (fun k _ => k = B) w w') {k : Nat} (hk : k < w.heap.size) (hne : k ≠ B) (o : Nat) : w'.cell? ⟨k, o, none⟩ = w.cell? ⟨k, o, none⟩ := by
  have h1 := h.obj k _ (Array.getElem?_eq_getElem hk) hne
  rw [World.cell?_of_block (w := w) (a := ⟨k, o, none⟩)]
  rw [h1, Array.getElem?_eq_getElem hk]

theorem keeps_setB (w : World) (B o : Nat) (u : Value) : Keeps (fun k _ => k = B) w (w.setCell ⟨B, o, none⟩ u) :=
  ⟨rfl, rfl, rfl, by simp, fun k o h hn => by rw [heap_setCell_other _ _ _ _ hn]; exact h⟩

set_option maxHeartbeats 16000000 in
set_option maxRecDepth 20000 in
theorem newLoom_any (v : Value) (L : Lt) (wv : Value) (ws : List (List Int)) (w : World) (hn : L.n ≤ 9223372036854775807) (hv : IsLt w v L) (hw : IsRows Any w wv ws) :
    Calls Try.prog 60 #[v, wv] w fun e w' => Grew w w' ∧ ((wrong L ws = 0 ∧ ∃ (B N : Nat), L.n = N ∧ 1 ≤ N ∧ N ≤ 6 ∧ e = .returned (.tuple #[.pointer (some ⟨B, 0, none⟩), .int .i64 0]) ∧ w.heap.size ≤ B ∧ Loom w' B (dep L) N) ∨
      (wrong L ws ≠ 0 ∧ e = .returned (.tuple #[.pointer none, .int .i64 (wrong L ws)]))) := by
  have HVA := hid (fun (y : World) (hy : Grew w y) => valid_any v L y hn (hv.grew hy))
  obtain ⟨s, rfl, hps⟩ := hv
  obtain ⟨W0, hW0, g0, k0, k1, hz⟩ := box2 w (.int .i64 L.n) s 24
  have HVA0 := hid (HVA.out W0 g0)
  have HW := hid hw
  cases hvl : valid L with
  | false =>
    have he : wrong L ws = 30 := by unfold wrong; rw [hvl]; rfl
    have HE := hid he
    rw [hvl] at HVA0
    clear he hvl
    have hg := g0
    go_enter Try.func60, Try.ntmps60
    go_wp2_with (go_at_call 37; (with_reducible refine HVA0.out.mono ?_); rintro e w1 ⟨rfl, hx⟩; have HX := hid hx; clear hx)
    go_ret2
    exact ⟨grew_trans g0 HX.out, .inr ⟨by rw [HE.out]; decide, by rw [HE.out]; rfl⟩⟩
  | true =>
    obtain ⟨⟨h1, h6⟩, hall⟩ := valid_iff hvl
    obtain ⟨N, hN⟩ : ∃ N : Nat, L.n = N := ⟨L.n.toNat, by omega⟩
    have hN6 : N ≤ 6 := by omega
    have hN1 : 1 ≤ N := by omega
    obtain ⟨pa, pc, rfl, hpm, hpc⟩ := hps
    obtain ⟨m, hm⟩ : ∃ m, L.ps.length = m := ⟨_, rfl⟩
    rw [hvl] at HVA0
    rw [hN] at hW0 k0 HVA0 ⊢
    rw [hm] at hW0 k1 hpm HVA0 ⊢
    have HWR := hid (show wrong L ws = if ws.all (isW L) then 0 else 31 from by unfold wrong; rw [hvl]; rfl)
    have HN := hid hN
    have HM := hid hm
    have HALL := hid hall
    have HPC := hid hpc
    obtain ⟨V, ⟨wa, wc, rfl, hwm, hwc⟩, hrows⟩ := hw
    have HWC := hid hwc
    have HROWS := hid hrows
    obtain ⟨q, hq⟩ : ∃ q, ws.length = q := ⟨_, rfl⟩
    rw [hq] at hwm HWC ⊢
    have HQ := hid hq
    clear hvl h1 h6 hall hn hN hm hpc hwc hrows hq HVA HW
    have hg := g0
    go_enter Try.func60, Try.ntmps60
    go_wp2_with (go_at_call 37; (with_reducible refine HVA0.out.mono ?_); rintro e w1 ⟨rfl, hx⟩; have HX := hid hx; have kx0 := (hx.cell (p := ⟨w.heap.size, 0, none⟩) hz).trans k0; have kx1 := (hx.cell (p := ⟨w.heap.size, 1, none⟩) hz).trans k1; have hzx := Nat.lt_of_lt_of_le hz hx.size; clear hx)
    obtain ⟨W1, hW1⟩ : ∃ W1, w1.alloc (.cells #[.int .i64 (N : Int), .bool false, .bool false, .bool false, .bool false, .bool false, .bool false, .bool false, .bool false, .bool false, .bool false, .bool false, .bool false, .bool false, .bool false, .bool false, .bool false, .bool false, .bool false, .bool false, .bool false, .bool false, .bool false, .bool false, .bool false, .bool false, .bool false, .bool false, .bool false, .bool false, .bool false, .bool false, .bool false, .bool false, .bool false, .bool false, .bool false] 76) = W1 := ⟨_, rfl⟩
    have hL1 : LoomF W1 w1.heap.size N (dpt L.ps 0 0) := by rw [← hW1]; exact loom_made' w1 N L.ps _ (loom_cells N)
    have g1 : Grew w1 W1 := by rw [← hW1]; exact grew_alloc (grew_refl _) _
    obtain ⟨W2, hW2, g2, p0, hz2⟩ := box1 W1 (.pointer (some ⟨w1.heap.size, 0, none⟩)) 58
    have hs1 : W1.heap.size = w1.heap.size + 1 := by rw [← hW1]; simp
    rw [hW1, ← hs1, hW2]
    generalize Value.agg #[.int .i64 (N : Int), .bool false, .bool false, .bool false, .bool false, .bool false, .bool false, .bool false, .bool false, .bool false, .bool false, .bool false, .bool false, .bool false, .bool false, .bool false, .bool false, .bool false, .bool false, .bool false, .bool false, .bool false, .bool false, .bool false, .bool false, .bool false, .bool false, .bool false, .bool false, .bool false, .bool false, .bool false, .bool false, .bool false, .bool false, .bool false, .bool false] = A
    obtain ⟨B, hB⟩ : ∃ B, w1.heap.size = B := ⟨_, rfl⟩
    obtain ⟨C, hC⟩ : ∃ C, W1.heap.size = C := ⟨_, rfl⟩
    rw [hC] at p0 hz2 ⊢
    rw [hB] at hL1 p0
    have hBC : C = B + 1 := by omega
    have g02 : Grew w1 W2 := grew_trans g1 g2
    have kw0 := (g02.cell (p := ⟨w.heap.size, 0, none⟩) hzx).trans kx0
    have kw1 := (g02.cell (p := ⟨w.heap.size, 1, none⟩) hzx).trans kx1
    have hzw := Nat.lt_of_lt_of_le hzx g02.size
    have HL2 := hid (hL1.grew g2)
    have hBw : w.heap.size < B := by omega
    have H02 := hid (grew_trans g0 (grew_trans HX.out g02))
    have hwB : w.heap.size ≤ B := by omega
    have HB := hid hB
    have hCB : C ≠ B := by omega
    have hwB2 : w.heap.size ≠ B := by omega
    have HBC := hid hBC
    clear hBC hC hW1 hW2 g1 g2 hs1 hL1 kx0 kx1 hzx hW0 k0 k1 hg g02 HVA0 hB
    -- the diagonal
    go_loopg [7, 21] N (fun k _ i wr => ∃ j : Nat, j ≤ N ∧ i = .int .i64 j ∧ k = N - j ∧ Hid (LoomF wr B N (dpt L.ps j 0)) ∧ Hid (Keeps (fun k _ => k = B) W2 wr))
    case atStart => exact ⟨0, by omega, rfl, rfl, HL2, hid (Keeps.refl _ _)⟩
    case round =>
      obtain ⟨j, hj, rfl, hk, HL, HG⟩ := hrel
      have HK := hid hk; clear hk
      rename World => wr
      have qp0 : wr.cell? ⟨C, 0, none⟩ = some (.pointer (some ⟨B, 0, none⟩)) := (keeps_at HG.out hz2 hCB 0).trans p0
      have qw0 := (keeps_at HG.out hzw hwB2 0).trans kw0
      have qw1 := (keeps_at HG.out hzw hwB2 1).trans kw1
      have hBl := HL.out.lt
      by_cases hlt : j < N
      · have hj6 : j < 6 := by omega
        have qc := HL.out.cell hj6 hj6
        have qf := HL.out.frozen (1 + j * 6 + j)
        go_wp2
        go_roundg (N - (j + 1))
        case measure => have := HK.out; omega
        case rel => exact ⟨j + 1, by omega, by go_num, rfl, hid (HL.out.set hj6 hj6 (fun a b => dpt_diag a b)), hid (HG.out.trans (keeps_setB _ _ _ _))⟩
      · obtain rfl : N = j := by omega
        have HBW := hid hBw
        have HL2' := HL2
        clear HL2
        go_wp2
        -- the pairs
        go_loopg [9, 35] m (fun k _ i ws => ∃ j : Nat, j ≤ m ∧ i = .int .i64 j ∧ k = m - j ∧ Hid (LoomF ws B N (dpt L.ps N j)) ∧ Hid (Keeps (fun k _ => k = B) W2 ws))
        case atStart => exact ⟨0, by omega, rfl, rfl, HL, HG⟩
        case round =>
          clear HL HG qp0 qw0 qw1 hBl HK hj hlt
          obtain ⟨j, hj, rfl, hk, HL, HG⟩ := hrel
          have HK := hid hk; clear hk
          rename World => wr
          have qp0 : wr.cell? ⟨C, 0, none⟩ = some (.pointer (some ⟨B, 0, none⟩)) := (keeps_at HG.out hz2 hCB 0).trans p0
          have qw0 := (keeps_at HG.out hzw hwB2 0).trans kw0
          have qw1 := (keeps_at HG.out hzw hwB2 1).trans kw1
          have hBl := HL.out.lt
          by_cases hlt : j < m
          · obtain ⟨x, hx⟩ : ∃ x, L.ps[j]? = some x := ⟨_, List.getElem?_eq_getElem (by rw [HM.out]; exact hlt)⟩
            obtain ⟨hx0, hx1, hx2⟩ := HALL.out x (List.mem_of_getElem? hx)
            rw [HN.out] at hx2
            obtain ⟨x1, x2⟩ := x
            simp only at hx0 hx1 hx2
            obtain ⟨a, rfl⟩ : ∃ a : Nat, x1 = a := ⟨x1.toNat, by omega⟩
            obtain ⟨b, rfl⟩ : ∃ b : Nat, x2 = b := ⟨x2.toNat, by omega⟩
            obtain ⟨bb, off, rfl, hpa⟩ := HPC.out j _ hx
            have hbb := hpa.lt
            have hbbB : bb ≠ B := by omega
            have hbb2 := Nat.lt_of_lt_of_le hbb H02.out.size
            have c0 := (keeps_at HG.out hbb2 hbbB _).trans ((H02.out.cell (p := ⟨bb, off + j * 2, none⟩) hbb).trans hpa.c0)
            have c1 := (keeps_at HG.out hbb2 hbbB _).trans ((H02.out.cell (p := ⟨bb, off + j * 2 + 1, none⟩) hbb).trans hpa.c1)
            have hbb3 := Nat.lt_of_lt_of_le hbb2 HG.out.size
            simp only at c0 c1
            have ha6 : a < 6 := by omega
            have hb6 : b < 6 := by omega
            have ia0 : (0 : Int) ≤ (a : Int) := by omega
            have ia6 : (a : Int) < 6 := by omega
            have ib0 : (0 : Int) ≤ (b : Int) := by omega
            have ib6 : (b : Int) < 6 := by omega
            have HPP := hid (fun (u v : Nat) => dpt_pair (n := N) hx u v)
            have hne1 : ¬ (1 + a * 6 + b = 1 + b * 6 + a) := by omega
            have hne2 : ¬ (1 + b * 6 + a = 1 + a * 6 + b) := by omega
            obtain ⟨W3, hW3, g3, l0, l1, hz3⟩ := box2 wr (.int .i64 (a : Int)) (.int .i64 (b : Int)) 57
            have HL3 := hid (HL.out.grew g3)
            have HG3 := hid (HG.out.trans g3.keeps)
            have rp0 := (g3.cell (p := ⟨C, 0, none⟩) (Nat.lt_of_lt_of_le hz2 HG.out.size)).trans qp0
            have q1 := HL3.out.cell ha6 hb6
            have q2 := HL3.out.cell hb6 ha6
            have f1 := HL3.out.frozen (1 + a * 6 + b)
            have f2 := HL3.out.frozen (1 + b * 6 + a)
            have hBw3 : wr.heap.size ≠ B := by omega
            have hB3 := HL3.out.lt
            have HX2 := hid hx2
            have HX1 := hid hx1
            clear hx hpa hx0 hx1 hx2
            go_wp2
            go_region_held3 (fun w' => ∀ b o, b ≠ B → w'.cell? ⟨b, o, none⟩ = W3.cell? ⟨b, o, none⟩) (first | exact cell_off_set (by assumption) | exact cell_off_set (cell_off_set (by assumption)) | (intro b o hb; rfl)) (fail)
            all_goals (
              go_wp2
              go_roundg (m - (j + 1))
              case measure => have := HK.out; omega
              case rel => exact ⟨j + 1, by omega, by go_num, rfl, hid (((HL3.out.set ha6 hb6 (fun _ _ => rfl)).set hb6 ha6 (fun u v => HPP.out u v)).grew (grew_drew (grew_refl _))), hid (((HG3.out.trans (keeps_setB _ _ _ _)).trans (keeps_setB _ _ _ _)).drew)⟩)
          · obtain rfl : m = j := by omega
            have hLm := HL.out.loom (D := dep L) hN6 (fun a b ha _ => by rw [← HM.out]; exact dpt_dep a b ha)
            have HLM := hid hLm
            have H03 := hid (H02.out.trans (HG.out.below (B := w.heap.size) (Nat.le_trans hwB (by have := HL2'.out.lt; omega)) (fun k o e => by omega)))
            clear hLm
            go_wp2
            go_loopg [11, 60] q (fun k _ i wt => ∃ j : Nat, j ≤ q ∧ i = .int .i64 j ∧ k = q - j ∧ Hid ((ws.take j).all (isW L) = true) ∧ Hid (Grew wr wt))
            case atStart => exact ⟨0, by omega, rfl, rfl, hid rfl, hid (grew_refl _)⟩
            case round =>
              clear HL HG HK hj hlt qw0 qw1
              obtain ⟨j, hj, rfl, hk, HA, HG⟩ := hrel
              have HK := hid hk; clear hk
              rename World => wt
              have tp0 : wt.cell? ⟨C, 0, none⟩ = some (.pointer (some ⟨B, 0, none⟩)) := (HG.out.cell (p := ⟨C, 0, none⟩) (World.block_lt_of_cell? wr _ qp0)).trans qp0
              by_cases hlt : j < q
              · obtain ⟨wb, wof, wo, hwa, hwob, -, hwcc⟩ := HWC.out j hlt
                subst hwa
                have hjw : j < ws.length := by rw [HQ.out]; exact hlt
                have hin := HROWS.out j (by rw [HQ.out]; exact hlt)
                obtain ⟨va, vc, hVj⟩ : ∃ va vc, V j = .slice va (nthL ws j).length vc := by obtain ⟨va, vc, h, _⟩ := hin; exact ⟨va, vc, h⟩
                have htk := take_succ_nthL hjw
                have hmem : nthL ws j ∈ ws := by rw [nthL_lt hjw]; exact List.getElem_mem _
                obtain ⟨x, hx⟩ : ∃ x, nthL ws j = x := ⟨_, rfl⟩
                rw [hx] at hin hVj htk hmem
                rw [hVj] at hwcc hin
                have hwl := lt_of_obj hwob
                have hg := H03.out.trans (HG.out.mono (by have := H03.out.size; omega))
                have hcw := (hg.cell (p := ⟨wb, wof + j, none⟩) hwl).trans hwcc
                have hwl2 := Nat.lt_of_lt_of_le hwl hg.size
                have hxl : x.length ≤ 9223372036854775807 := by obtain ⟨_, _, _, h, _⟩ := hin; exact h
                have hcf := containsFunc_any 96 #[.pointer (some ⟨C, 0, none⟩)] (fun a => !(decide (0 ≤ a) && decide (a ≤ (N : Int) - 1))) _ x wt entered96 (Reads.grew hin hg) (fun i hi => bad_says B N C (nth x i) wt hN6 (HLM.out.grew HG.out) tp0)
                have hiw : isW L x = (decide (x.length ≤ 10) && !x.any (fun a => !(decide (0 ≤ a) && decide (a ≤ (N : Int) - 1)))) := by
                  unfold isW
                  congr 1
                  rw [List.all_eq_not_any_not]
                  unfold isL
                  rw [HN.out]
                obtain ⟨r, hr⟩ : ∃ r, x.any (fun a => !(decide (0 ≤ a) && decide (a ≤ (N : Int) - 1))) = r := ⟨_, rfl⟩
                rw [hr] at hcf hiw
                have HCF := hid hcf
                have HTK := hid htk
                have hbadw : isW L x = false → wrong L ws = 31 := fun h => by
                  rw [HWR.out, show ws.all (isW L) = false from List.all_eq_false.2 ⟨x, hmem, by rw [h]; simp⟩]; rfl
                have HGW := hid hg
                obtain ⟨xl, hxl2⟩ : ∃ xl, x.length = xl := ⟨_, rfl⟩
                rw [hxl2] at hiw hcw hxl HCF
                clear hin hVj htk hmem hx hwcc hwob hcf hr hjw hxl2
                by_cases h10 : xl ≤ 10
                · have h10' : ¬ (10 : Int) < (xl : Int) := by omega
                  cases r
                  · have HIW := hid (show isW L x = true by rw [hiw]; simpa using h10)
                    clear hiw hbadw
                    go_wp2_with (go_at_call 70; (with_reducible refine HCF.out.mono ?_); rintro e w5 ⟨rfl, hx5⟩; have HX5 := hid hx5; clear hx5)
                    go_roundg (q - (j + 1))
                    case measure => have := HK.out; omega
                    case rel => exact ⟨j + 1, by omega, by go_num, rfl, hid (by rw [HTK.out, List.all_append, HA.out]; simp [HIW.out]), hid (grew_trans HG.out HX5.out)⟩
                  · have HIW := hid (hbadw (by rw [hiw]; simp))
                    clear hiw hbadw
                    go_wp2_with (go_at_call 70; (with_reducible refine HCF.out.mono ?_); rintro e w5 ⟨rfl, hx5⟩; have HX5 := hid hx5; clear hx5)
                    go_ret2
                    exact ⟨HGW.out.trans (HX5.out.mono HGW.out.size), .inr ⟨by rw [HIW.out]; decide, by rw [HIW.out]; rfl⟩⟩
                · have h10' : (10 : Int) < (xl : Int) := by omega
                  have HIW := hid (hbadw (by rw [hiw]; simp; omega))
                  clear hiw hbadw
                  go_wp2
                  go_ret2
                  exact ⟨HGW.out, .inr ⟨by rw [HIW.out]; decide, by rw [HIW.out]; rfl⟩⟩
              · obtain rfl : q = j := by omega
                have HWZ := hid (show wrong L ws = 0 by
                  have h := HA.out
                  rw [List.take_of_length_le (by rw [HQ.out]; exact Nat.le_refl _)] at h
                  rw [HWR.out, h]; rfl)
                go_wp2
                go_ret2
                exact ⟨H03.out.trans (HG.out.mono (by have := H03.out.size; omega)), .inl ⟨HWZ.out, B, N, rfl, hN1, hN6, rfl, hwB, HLM.out.grew HG.out⟩⟩

end Go.Proofs.Ytddnpooffcjhnaa
