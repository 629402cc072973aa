/- Words as keys of a map; what the known sizes say. Walk: size. Walk: size. Walks: Size, Awake. -/
import Derived.Test.YtddnpooffcjhnaaWvI
import Derived.Test.YtddnpooffcjhnaaOMaps
import Derived.Test.YtddnpooffcjhnaaRoundHeld
namespace Go.Proofs.Ytddnpooffcjhnaa
open Go Go.RowKit Go.Lin Go.Lin.Wv Go.Maps
attribute [local go_sem] Oper.semAt_some

theorem keyed98 : Keyed Try.prog 98 := Keyed.of_law (deep_law_laid Try.laidOut (m := 3) (by decide) (of_decide_eq_true (by kernel_rfl)) (by kernel_rfl) (by kernel_rfl))
theorem zero3 (w : World) : (zeroValue 3).run Try.prog w = .ok (.int .i64 0) w := by kernel_rfl

theorem key98 (xs : List Int) (hlen : xs.length ≤ 10) (hw : ∀ z ∈ xs, 0 ≤ z ∧ z < 6) : ∃ l, keyOf Try.prog 98 (keyV xs) = some l := by
  obtain ⟨a0, a1, a2, a3, a4, a5, a6, a7, a8, a9, hl, ha⟩ := keyCells_ints hlen
  have u98 := Try.underlying98
  have u3 := Try.underlying3
  have c98 : Try.prog.cellsOf 98 = 10 := by kernel_rfl
  have c3 : Try.prog.cellsOf 3 = 1 := by kernel_rfl
  have kt : Try.prog.keyType 98 = true := by kernel_rfl
  have hsz : ∃ m, Try.prog.types.size + 1 = m + 2 := ⟨Try.prog.types.size - 1, by have : 1 ≤ Try.prog.types.size := of_decide_eq_true (by kernel_rfl); omega⟩
  obtain ⟨m, hm⟩ := hsz
  have wf : ∀ a ∈ [a0, a1, a2, a3, a4, a5, a6, a7, a8, a9], (Lit.int .i64 a).wf = true := fun a h => WalkArith.wf_i64 (by
    rcases ha a h with rfl | ⟨z, hz, rfl⟩
    · omega
    · have := hw z hz; omega)
  have e1 : ∀ a ∈ [a0, a1, a2, a3, a4, a5, a6, a7, a8, a9], Try.prog.keyLits (m + 1) 3 [.int .i64 a] = some [.int .i64 a] := fun a h => by
    unfold Program.keyLits; rw [u3]; simp only [wf a h, and_self, if_true]
  have e3 : ∃ ls, Try.prog.keyLits (m + 2) 98 [.int .i64 a0, .int .i64 a1, .int .i64 a2, .int .i64 a3, .int .i64 a4, .int .i64 a5, .int .i64 a6, .int .i64 a7, .int .i64 a8, .int .i64 a9] = some ls := by
    refine ⟨[.int .i64 a0, .int .i64 a1, .int .i64 a2, .int .i64 a3, .int .i64 a4, .int .i64 a5, .int .i64 a6, .int .i64 a7, .int .i64 a8, .int .i64 a9], ?_⟩
    unfold Program.keyLits; rw [u98]
    simp only [c98, c3, List.length_cons, List.length_nil, if_true]
    rw [show List.range 10 = [0, 1, 2, 3, 4, 5, 6, 7, 8, 9] from rfl]
    simp only [List.mapM_cons, List.mapM_nil, Nat.mul_one, List.drop_zero, List.drop_succ_cons, List.take_succ_cons, List.take_zero]
    rw [e1 a0 (by simp), e1 a1 (by simp), e1 a2 (by simp), e1 a3 (by simp), e1 a4 (by simp), e1 a5 (by simp), e1 a6 (by simp), e1 a7 (by simp), e1 a8 (by simp), e1 a9 (by simp)]
    rfl
  obtain ⟨ls, e3⟩ := e3
  have hf : (keyV xs).formed Try.prog 98 = true := by
    unfold keyV Value.formed; rw [u98, hl]; simp only [c98]; rfl
  refine ⟨.string (keyBytes ls), ?_⟩
  unfold keyOf
  rw [u98]
  simp only [kt, hf, Bool.and_self, if_true, hm]
  unfold keyV
  rw [hl]
  simp only [Value.cells]
  rw [e3]
  rfl

/-- What is known is right. -/
def Known (D : Int → Int → Bool) (N : Nat) (S : Value → Option Nat) : Prop := ∀ k v, S k = some v → ∃ ys : List Int, k = keyV ys ∧ ys.length ≤ 10 ∧ (∀ z ∈ ys, 0 ≤ z ∧ z < (N : Int)) ∧ v = sizeM D N ys

theorem Known.at' {D : Int → Int → Bool} {N : Nat} {S : Value → Option Nat} (h : Known D N S) {xs : List Int} (hw : ∀ z ∈ xs, 0 ≤ z ∧ z < (N : Int)) {v : Nat} (hS : S (keyV xs) = some v) : v = sizeM D N xs := by
  obtain ⟨ys, h1, h2, h3, h4⟩ := h _ _ hS
  unfold keyV at h1
  simp only [Value.agg.injEq] at h1
  have h5 : keyCells xs = keyCells ys := by have := congrArg Array.toList h1; simpa using this
  rw [h4, ← keyCells_inj (fun z hz => (hw z hz).1) (fun z hz => (h3 z hz).1) h5]

/-- One key more. -/
noncomputable def putS (S : Value → Option Nat) (k0 : Value) (v : Nat) : Value → Option Nat := fun k => @ite _ (k = k0) (Classical.propDecidable _) (some v) (S k)

theorem putS_same (S : Value → Option Nat) (k0 : Value) (v : Nat) : putS S k0 v k0 = some v := by unfold putS; rw [if_pos rfl]
theorem putS_other (S : Value → Option Nat) (k0 : Value) (v : Nat) {k : Value} (h : k ≠ k0) : putS S k0 v k = S k := by unfold putS; rw [if_neg h]

theorem Known.put {D : Int → Int → Bool} {N : Nat} {S : Value → Option Nat} (h : Known D N S) {xs : List Int} (hl : xs.length ≤ 10) (hw : ∀ z ∈ xs, 0 ≤ z ∧ z < (N : Int)) : Known D N (putS S (keyV xs) (sizeM D N xs)) := by
  intro k v hk
  by_cases e : k = keyV xs
  · subst e
    rw [putS_same] at hk
    cases hk
    exact ⟨xs, rfl, hl, hw, rfl⟩
  · rw [putS_other _ _ _ e] at hk
    exact h k v hk

end Go.Proofs.Ytddnpooffcjhnaa
namespace Go.Proofs.Ytddnpooffcjhnaa
open Go Go.RowKit Go.Lin Go.Lin.Wv Go.Maps
attribute [local go_sem] Oper.semAt_some

theorem wd_off {w : World} {v : Value} {xs : List Int} {may : Nat → Obj → Prop} (h : IsWd w v xs) (hm : ∀ b o off x, w.heap[b]? = some o → w.cell? ⟨b, off, none⟩ = some x → ¬ may b o) : WdOff (fun k o => ¬ may k o) w v xs := by
  obtain ⟨a, c, h1, h2, a', c', h3, h4, h5⟩ := h
  refine ⟨⟨a, c, h1, h2⟩, a', c', h3, h4, fun i hi => ?_⟩
  obtain ⟨b, off, o, e1, e2, _, e4⟩ := h5 i hi
  exact ⟨b, off, o, e1, e2, hm _ _ _ _ e2 e4, e4⟩

/-- A block that is a map has no cells. -/
theorem not_map {w : World} {b : Nat} {o : Obj} {off : Nat} {x : Value} (h : w.heap[b]? = some o) (hc : w.cell? ⟨b, off, none⟩ = some x) : ¬ ∃ es c, o = .map es c := by
  rintro ⟨es, c, rfl⟩
  unfold World.cell? at hc
  simp only [h] at hc
  cases hc

theorem keeps_old {may : Nat → Obj → Prop} {w W : World} (h : Keeps (fun i o => w.heap.size ≤ i ∨ may i o) w W) : Keeps may w W :=
  ⟨h.os, h.tape, h.output, h.size, fun k o ho hn => h.obj k o ho (fun hm => by
    rcases hm with hm | hm
    · have := lt_of_obj ho; omega
    · exact hn hm)⟩

/-- How many words are behind the first letters that have come. -/
def sumS (D : Int → Int → Bool) (N : Nat) (xs : List Int) (l : List Int) : Nat := (l.map fun a => sizeM D N (rem D xs a)).sum

theorem sumS_snoc {D : Int → Int → Bool} {N : Nat} {xs l : List Int} {a : Int} : sumS D N xs (l ++ [a]) = sumS D N xs l + sizeM D N (rem D xs a) := by
  unfold sumS; simp

def MapAt (bm : Nat) : Nat → Obj → Prop := fun i o => i = bm ∧ ∃ es c, o = .map es c

/-- What the loop keeps. -/
structure ZI (D : Int → Int → Bool) (N : Nat) (xs : List Int) (bm c8 n0 K : Nat) (wl : World) (pre : List SX) (T : Nat → Prop) (W : World) : Prop where
  num : W.heap[c8]? = some (.cells #[.int .i64 (sumS D N xs (pre.map (·.1)) : Nat)] 3 (0, 0))
  map : ∃ nn S', OMap W Try.prog 98 3 bm nn id S' ∧ Known D N S' ∧ nn ≤ n0 + pre.length * K
  keep : Keeps (fun i o => i = c8 ∨ MapAt bm i o) wl W
  far : ∀ t, T t → wl.heap.size ≤ t
  pref : pre.map (·.1) = (starts D N xs).take pre.length

theorem ZI.keeps {D : Int → Int → Bool} {N : Nat} {xs : List Int} {bm c8 n0 K : Nat} {wl : World} {pre : List SX} {T T' : Nat → Prop} {W W' : World} (h : ZI D N xs bm c8 n0 K wl pre T W) (h8 : c8 < wl.heap.size) (hb : bm < wl.heap.size)
    (hk : Keeps (fun k o => T k ∨ (wl.heap.size ≤ k ∧ o.isCells = false)) W W') (hT : ∀ k, T' k → T k ∨ W.heap.size ≤ k) : ZI D N xs bm c8 n0 K wl pre T' W' := by
  have hb' : Below wl.heap.size W W' := hk.below h.keep.size (fun k o hm => hm.elim (h.far k) (fun h => h.1))
  refine ⟨(hb'.block _ h8).trans h.num, ?_, ?_, fun t ht => ?_, h.pref⟩
  · obtain ⟨nn, S', h1, h2, h3⟩ := h.map
    exact ⟨nn, S', h1.keeps hk (fun es c hm => by rcases hm with hm | hm; have := h.far _ hm; omega; omega), h2, h3⟩
  · refine ⟨hb'.os.trans h.keep.os, hb'.tape.trans h.keep.tape, hb'.output.trans h.keep.output, Nat.le_trans h.keep.size hb'.size, fun k o ho hn => (hb'.block k (lt_of_obj ho)).trans (h.keep.obj k o ho hn)⟩
  · rcases hT t ht with h2 | h2
    · exact h.far t h2
    · have := h.keep.size; omega

theorem sumS_le {D : Int → Int → Bool} {N : Nat} (hN : N ≤ 6) {xs : List Int} (hx : xs.length ≤ 10) (l : List Int) : sumS D N xs l ≤ l.length * 60466176 := by
  unfold sumS
  have h := sum_le (l := l.map fun a => sizeM D N (rem D xs a)) (b := 60466176) (fun y hy => by
    obtain ⟨a, _, rfl⟩ := List.mem_map.1 hy
    refine sizeM_le hN ?_
    unfold rem
    split
    · rw [List.length_eraseIdx]; split <;> omega
    · exact hx)
  rwa [List.length_map] at h

set_option maxHeartbeats 8000000 in
set_option maxRecDepth 100000 in
theorem size_any (D : Int → Int → Bool) (hr : ∀ a, D a a = true) (hsym : ∀ a b, D a b = D b a) (B N bm : Nat) (hN : N ≤ 6) : ∀ (k : Nat) (xs : List Int) (wv : Value) (w : World) (n : Nat) (S : Value → Option Nat), xs.length = k → k ≤ 10 → n + 7 ^ k ≤ 1000000000000 →
    (∀ z ∈ xs, 0 ≤ z ∧ z < (N : Int)) → Loom w B D N → IsWd w wv xs → OMap w Try.prog 98 3 bm n id S → Known D N S →
    Calls Try.prog 89 #[.pointer (some ⟨B, 0, none⟩), wv, .map (some bm)] w fun e w' => e = .returned (.int .i64 (sizeM D N xs : Nat)) ∧ ∃ n' S', n' ≤ n + 7 ^ k ∧ OMap w' Try.prog 98 3 bm n' id S' ∧ Known D N S' ∧ Keeps (MapAt bm) w w' := by
  intro k
  induction k with
  | zero =>
    intro xs wv w n S hk hk10 hn hw hL hx hm hS
    obtain rfl : xs = [] := List.length_eq_zero_iff.1 hk
    obtain ⟨xa, xc, rfl, _, _⟩ := hx
    obtain ⟨W0, hW0, g0, k0, hz⟩ := box1 w (.pointer (some ⟨B, 0, none⟩)) 58
    obtain ⟨W1, hW1, g1, k1, hz1⟩ := box1 W0 (.map (some bm)) 90
    have HG := hid (grew_trans g0 g1)
    have HM := hid hm; have HS := hid hS
    clear hm hS hL hw
    go_enter Try.func89, Try.ntmps89
    go_wp2
    go_ret
    exact ⟨by rw [sizeM_nil]; rfl, n, S, by omega, HM.out.grew HG.out, HS.out, HG.out.keeps⟩
  | succ k ih =>
    intro xs wv w n S hk hk10 hn hw hL hx hm hS
    obtain ⟨m, hmk⟩ : ∃ m, m = k + 1 := ⟨_, rfl⟩
    rw [← hmk] at hk hk10 hn ⊢
    have hm0 : 0 < m := by omega
    have hmz : ((m : Int) == 0) = false := by simp; omega
    have HMK := hid hmk
    obtain ⟨xa, xc, rfl, hxc, hxi⟩ := hx
    obtain ⟨a0, a1, a2, a3, a4, a5, a6, a7, a8, a9, hl, -⟩ := keyCells_ints (xs := xs) (by omega)
    have hkv : keyV xs = .agg #[.int .i64 a0, .int .i64 a1, .int .i64 a2, .int .i64 a3, .int .i64 a4, .int .i64 a5, .int .i64 a6, .int .i64 a7, .int .i64 a8, .int .i64 a9] := by unfold keyV; rw [hl]
    have hw6 : ∀ z ∈ xs, 0 ≤ z ∧ z < 6 := fun z hz => by have := hw z hz; omega
    obtain ⟨kl, hkl⟩ := key98 xs (by omega) hw6
    have HKL := hid hkl; have HW := hid hw; have HW6 := hid hw6; have HX := hid hxi
    have HM := hid hm; have HS := hid hS; have HL := hid hL; have IH := hid ih
    obtain ⟨W0, hW0, g0, k0, hz⟩ := box1 w (.pointer (some ⟨B, 0, none⟩)) 58
    obtain ⟨W1, hW1, g1, k1, hz1⟩ := box1 W0 (.map (some bm)) 90
    have g01 := grew_trans g0 g1
    have HG01 := hid g01
    have hkey := keyOf_any (.slice xa xs.length xc) xs W1 (by omega) hw6 (Reads.grew hxi g01)
    rw [hkv, hk] at hkey
    have HKEY := hid hkey
    have HKV := hid hkv
    have q0 := (g1.cell (p := ⟨w.heap.size, 0, none⟩) hz).trans k0
    have HKX := hid hk
    have HXW := hid (show IsWd w (.slice xa m xc) xs from ⟨xa, xc, by rw [hk], hxc, by rw [← hk]; exact hxi⟩)
    have hsz0 := g0.size
    rw [hk]
    rw [hk] at hxc
    clear hkl hw hw6 hm hS hL ih hl hkey hkv g0 k0 hmk hk hxi g01
    refine (callsIn_wide (n := 9)).1 ?_
    refine callsIn_of_wp_marks Try.func89 rfl trivial ?_ rfl
    simp only [Try.ntmps89, List.size_toArray, List.length_cons, List.length_nil, Nat.reduceAdd, Nat.reduceSub, Array.replicate_succ, Array.replicate_zero, List.push_toArray, List.append_toArray, List.nil_append, List.cons_append]
    cases hq : S (keyV xs) with
    | some v =>
      have HQ := hid hq
      have HV := hid (HS.out.at' HW.out hq)
      clear hq
      gi_wp2_with (refine ⟨trivial, ?_⟩; gi_at_call 103; refine (callsIn_wide.2 HKEY.out).mono ?_; rintro e w1 ⟨rfl, hx1⟩; obtain ⟨W2, hW2⟩ : ∃ W2, w1.alloc (.cells #[.int .i64 a0, .int .i64 a1, .int .i64 a2, .int .i64 a3, .int .i64 a4, .int .i64 a5, .int .i64 a6, .int .i64 a7, .int .i64 a8, .int .i64 a9] 98) = W2 := ⟨_, rfl⟩; have g2 : Grew w1 W2 := (by rw [← hW2]; exact grew_alloc (grew_refl _) _); have hg12 := grew_trans hx1 g2; have j0 := (hg12.cell (p := ⟨w.heap.size, 0, none⟩) (Nat.lt_of_lt_of_le hz g1.size)).trans q0; have j1 := (hg12.cell (p := ⟨W0.heap.size, 0, none⟩) hz1).trans k1; have od : W2.heap[w1.heap.size]? = some (.cells #[.int .i64 a0, .int .i64 a1, .int .i64 a2, .int .i64 a3, .int .i64 a4, .int .i64 a5, .int .i64 a6, .int .i64 a7, .int .i64 a8, .int .i64 a9] 98 (0, 0)) := (by rw [← hW2]; exact heap_alloc_new w1 _); have dd : ∀ i, W2.cell? ⟨w1.heap.size, i, none⟩ = (#[.int .i64 a0, .int .i64 a1, .int .i64 a2, .int .i64 a3, .int .i64 a4, .int .i64 a5, .int .i64 a6, .int .i64 a7, .int .i64 a8, .int .i64 a9] : Array Value)[i]? := fun i => cell_of_row _ _ _ _ _ _ od; have d0 := dd 0; have d1 := dd 1; have d2 := dd 2; have d3 := dd 3; have d4 := dd 4; have d5 := dd 5; have d6 := dd 6; have d7 := dd 7; have d8 := dd 8; have d9 := dd 9; simp only [List.getElem?_toArray, List.getElem?_cons_zero, List.getElem?_cons_succ] at d0 d1 d2 d3 d4 d5 d6 d7 d8 d9; clear dd; have hlk := (HM.out.grew (grew_trans HG01.out hg12)).look_ok (x := keyV xs) keyed98 Try.underlying90 Try.underlying3 (zero3 W2) HKL.out; rw [HQ.out] at hlk; simp only [id] at hlk; rw [HKV.out] at hlk; simp only [Option.getD_some, Option.isSome_some] at hlk; have HX1 := hid hx1; have G2 := hid hg12; have OD := hid od; clear hx1 g2 hg12 od)
      refine leaves_marks w.heap.size [] _ (fun _ h => (by cases h)) List.nodup_nil (fun W' hkk => ⟨_, results_tmp rfl _ _ _, ?_⟩)
      have hg : Grew w (W2.alloc (.cells #[.int .i64 (v : Int)] 3)) := grew_alloc (grew_trans HG01.out G2.out) _
      have hkp := (Grew.keeps (may := fun k o => w.heap.size ≤ k ∧ o.isCells = false) hg).trans hkk
      refine ⟨by rw [← HV.out]; rfl, n, S, Nat.le_add_right _ _, HM.out.keeps hkp (fun es c hm => by have := HM.out.lt; omega), HS.out, ?_⟩
      have hb := hkp.below (B := w.heap.size) (Nat.le_refl _) (fun k o hm => hm.1)
      exact Grew.keeps hb
    | none =>
      have HQ := hid hq
      clear hq
      gi_wp2_with (first
        | (refine ⟨trivial, ?_⟩; gi_at_call 103; refine (callsIn_wide.2 HKEY.out).mono ?_; rintro e w1 ⟨rfl, hx1⟩; obtain ⟨W2, hW2⟩ : ∃ W2, w1.alloc (.cells #[.int .i64 a0, .int .i64 a1, .int .i64 a2, .int .i64 a3, .int .i64 a4, .int .i64 a5, .int .i64 a6, .int .i64 a7, .int .i64 a8, .int .i64 a9] 98) = W2 := ⟨_, rfl⟩; have g2 : Grew w1 W2 := (by rw [← hW2]; exact grew_alloc (grew_refl _) _); have hg12 := grew_trans hx1 g2; have j0 := (hg12.cell (p := ⟨w.heap.size, 0, none⟩) (Nat.lt_of_lt_of_le hz g1.size)).trans q0; have j1 := (hg12.cell (p := ⟨W0.heap.size, 0, none⟩) hz1).trans k1; have od : W2.heap[w1.heap.size]? = some (.cells #[.int .i64 a0, .int .i64 a1, .int .i64 a2, .int .i64 a3, .int .i64 a4, .int .i64 a5, .int .i64 a6, .int .i64 a7, .int .i64 a8, .int .i64 a9] 98 (0, 0)) := (by rw [← hW2]; exact heap_alloc_new w1 _); have dd : ∀ i, W2.cell? ⟨w1.heap.size, i, none⟩ = (#[.int .i64 a0, .int .i64 a1, .int .i64 a2, .int .i64 a3, .int .i64 a4, .int .i64 a5, .int .i64 a6, .int .i64 a7, .int .i64 a8, .int .i64 a9] : Array Value)[i]? := fun i => cell_of_row _ _ _ _ _ _ od; have d0 := dd 0; have d1 := dd 1; have d2 := dd 2; have d3 := dd 3; have d4 := dd 4; have d5 := dd 5; have d6 := dd 6; have d7 := dd 7; have d8 := dd 8; have d9 := dd 9; simp only [List.getElem?_toArray, List.getElem?_cons_zero, List.getElem?_cons_succ] at d0 d1 d2 d3 d4 d5 d6 d7 d8 d9; clear dd; have hlk := (HM.out.grew (grew_trans HG01.out hg12)).look_ok (x := keyV xs) keyed98 Try.underlying90 Try.underlying3 (zero3 W2) HKL.out; rw [HQ.out] at hlk; simp only [id] at hlk; rw [HKV.out] at hlk; simp only [Option.getD_none, Option.isSome_none] at hlk; have hzz := Nat.lt_of_lt_of_le (Nat.lt_of_lt_of_le hz g1.size) hg12.size; have hzz1 := Nat.lt_of_lt_of_le hz1 hg12.size; have OD := hid od; have G2 := hid hg12; have hw12 := hx1.size; have hw23 := g2.size; have HJ0 := hid j0; have HJ1 := hid j1; clear hx1 g2 hg12 od)
        | (refine ⟨trivial, ?_⟩; gi_at_call 90; refine (callsIn_wide.2 (starts90_any B xa m xc _)).mono ?_; rintro e w4 ⟨rfl, hx4, hb1, hb2⟩; have HX4 := hid hx4; have HB1 := hid hb1; have HB2 := hid hb2; clear hx4 hb1 hb2))
      have hg24 : Grew W2 w4 := (grew_alloc (grew_refl W2) (.cells #[.int .i64 0] 3)).trans (HX4.out.mono (by simp))
      have b1 : w4.cell? ⟨W2.heap.size + 1, 0, none⟩ = some (.pointer (some ⟨B, 0, none⟩)) := by have h := HB1.out; rw [World.size_alloc] at h; exact h
      have b2 : w4.cell? ⟨W2.heap.size + 1 + 1, 0, none⟩ = some (.slice xa m xc) := by have h := HB2.out; rw [World.size_alloc] at h; exact h
      have o8 : w4.heap[W2.heap.size]? = some (.cells #[.int .i64 0] 3 (0, 0)) := (HX4.out.block _ (by simp)).trans (heap_alloc_new W2 _)
      have hgw : Grew w w4 := grew_trans HG01.out (grew_trans G2.out hg24)
      have hs4 : W2.heap.size + 1 ≤ w4.heap.size := by have := HX4.out.size; simpa using this
      have hwW2 : w.heap.size < W2.heap.size := hzz
      have hBw := HL.out.lt
      have hbm := HM.out.lt
      have j04 := (hg24.cell (p := ⟨w.heap.size, 0, none⟩) hzz).trans HJ0.out
      have j14 := (hg24.cell (p := ⟨W0.heap.size, 0, none⟩) hzz1).trans HJ1.out
      have HGW := hid hgw; have HJ04 := hid j04; have HJ14 := hid j14
      have OD4 := hid ((hg24.block _ (lt_of_obj OD.out)).trans OD.out)
      have hw1l := lt_of_obj OD4.out
      have hmobj := hid ((HM.out.grew hgw).obj)
      have hseq := starts_stops D B N xs (W2.heap.size + 1) (W2.heap.size + 1 + 1) (.slice xa m xc) w4 8 (by decide) hN HW.out (by rw [HKX.out]; omega) (HL.out.grew hgw) b1 b2
        (fun i o => i = W2.heap.size ∨ MapAt bm i o ∨ w4.heap.size ≤ i) (fun o ho h => by
          rcases h with h | ⟨_, h⟩ | h
          · omega
          · exact not_map ho (HL.out.grew hgw).c0 h
          · omega) (fun o ho h => by
          rcases h with h | ⟨h, _⟩ | h
          · omega
          · omega
          · have := lt_of_obj ho; omega) (fun o ho h => by
          rcases h with h | ⟨h, _⟩ | h
          · omega
          · omega
          · have := lt_of_obj ho; omega)
        (WdOff.grew (wd_off HXW.out (fun b o off x e1 e2 h => by
          have hlt := lt_of_obj e1
          rcases h with h | ⟨_, h⟩ | h
          · omega
          · exact not_map e1 e2 h
          · have := hgw.size; omega)) hgw)
      have HSEQ := hid hseq
      have h8l : W2.heap.size < w4.heap.size := by omega
      have hbl : bm < w4.heap.size := by have := hgw.size; omega
      have O8 := hid o8
      clear hseq o8 b1 b2 hg24 j04 j14
      refine wpIn_rangeFunc_sep (P := Try.prog) rfl (by decide) (gf := 104) (fa := #[]) rfl trivial (enters_of Try.func104 (by kernel_rfl) rfl) HSEQ.out (grew_refl w4) (fun _ _ h => .inr (.inr h)) (fun _ => rfl)
        (fun pre T W => ZI D N xs bm W2.heap.size n (7 ^ k) w4 pre T W)
        (fun _ _ _ => False)
        (fun pre T W W' h hk T' hT => h.keeps h8l hbl hk hT) (fun _ _ _ _ h _ => h.elim) (fun pre x W W' hh hk => hh.keeps hk (fun k c fr hm => by cases hm.2.2))
        ⟨O8.out, ⟨n, S, HM.out.grew hgw, HS.out, by simp⟩, Keeps.refl _ _, fun _ h => h.elim, rfl⟩
        (fun x => { tmps := #[.pointer (some ⟨B, 0, none⟩), .slice xa m xc, .map (some bm), .pointer (some ⟨w.heap.size, 0, none⟩), undef, .pointer (some ⟨W0.heap.size, 0, none⟩), .int .i64 0, .pointer (some ⟨w1.heap.size, 0, none⟩), .pointer (some ⟨W2.heap.size, 0, none⟩), .bool false, undef, x.2, .slice xa m xc, .int .i64 (m : Int), .bool false, .slice xa m xc, .agg #[.int .i64 a0, .int .i64 a1, .int .i64 a2, .int .i64 a3, .int .i64 a4, .int .i64 a5, .int .i64 a6, .int .i64 a7, .int .i64 a8, .int .i64 a9], .tuple #[.int .i64 0, .bool false], .map (some bm), .agg #[.int .i64 a0, .int .i64 a1, .int .i64 a2, .int .i64 a3, .int .i64 a4, .int .i64 a5, .int .i64 a6, .int .i64 a7, .int .i64 a8, .int .i64 a9], .tuple #[.int .i64 0, .bool false], .int .i64 0, .bool false, .bool false, .bool true, .pointer (some ⟨B, 0, none⟩), .slice xa m xc, .func (.func 104) #[] #[.pointer (some ⟨W2.heap.size + 1, 0, none⟩), .pointer (some ⟨W2.heap.size + 1 + 1, 0, none⟩)], .int .i64 x.1, x.2, undef, undef, undef, undef, undef, undef, undef, undef, undef, undef, undef, undef], defers := [] })
        ?assign ?body ?done (fun _ _ _ _ _ h _ => h.elim)
      case assign =>
        rintro l ⟨a, xv⟩ W K hK
        dsimp only [encS]
        gi_wp2
        exact hK
      case body =>
        rintro l pre T ⟨a, xv⟩ W hI hh hT hlt
        have hfs := (mem_starts.1 hh.mem).2
        have hrl := rem_length hfs
        rw [HKX.out] at hrl
        simp only at hfs hrl
        have hat := hh.at'
        simp only at hat
        have hpl : pre.length < 6 := by
          have h1 := congrArg List.length hat
          have h2 := starts_length (D := D) N xs
          simp at h1
          omega
        obtain ⟨s, hs⟩ : ∃ s, sumS D N xs (pre.map (·.1)) = s := ⟨_, rfl⟩
        have hsle := sumS_le (D := D) hN (xs := xs) (by rw [HKX.out]; omega) (pre.map (·.1))
        rw [List.length_map, hs] at hsle
        have hnum := hI.num
        rw [hs] at hnum
        have c8 : W.cell? ⟨W2.heap.size, 0, none⟩ = some (.int .i64 (s : Int)) := cell_of_row _ _ _ _ _ _ hnum
        have f8 := frozen_obj hnum 0
        have l8 := lt_of_obj hnum
        have c3 : W.cell? ⟨w.heap.size, 0, none⟩ = some (.pointer (some ⟨B, 0, none⟩)) := cell_keeps hI.keep (fun o ho h => by
          rcases h with h | ⟨_, h⟩
          · omega
          · exact not_map ho HJ04.out h) HJ04.out
        have c5 : W.cell? ⟨W0.heap.size, 0, none⟩ = some (.map (some bm)) := cell_keeps hI.keep (fun o ho h => by
          rcases h with h | ⟨_, h⟩
          · omega
          · exact not_map ho HJ14.out h) HJ14.out
        have hLW : Loom W B D N := (HL.out.grew HGW.out).keeps hI.keep (fun o ho h => by
          rcases h with h | ⟨_, h⟩
          · omega
          · exact not_map ho (HL.out.grew HGW.out).c0 h)
        have hleft := hh.left.wd
        simp only at hleft
        obtain ⟨nn, S', hm1, hm2, hm3⟩ := hI.map
        have hmx : Try.prog.follows .mixedOrders = true := by kernel_rfl
        have HI := hid hI; have HAT := hid hat; have HLF := hid hleft; have HS1 := hid hs; have HM1 := hid hm1; have HK2 := hid hm2; have HLW := hid hLW; have HNUM := hid hnum
        clear hI hh hat hfs hleft hs hm1 hm2 hLW hnum
        gi_wp2
        refine wpIn_region_gate (fun w' => w'.cell? ⟨W2.heap.size, 0, none⟩ = some (.int .i64 (s : Int)) ∧ w'.cell? ⟨w.heap.size, 0, none⟩ = some (.pointer (some ⟨B, 0, none⟩)) ∧ w'.cell? ⟨W0.heap.size, 0, none⟩ = some (.map (some bm))) 8 hmx ?_
        have hS0 : W.drew.cell? ⟨W2.heap.size, 0, none⟩ = some (.int .i64 (s : Int)) ∧ W.drew.cell? ⟨w.heap.size, 0, none⟩ = some (.pointer (some ⟨B, 0, none⟩)) ∧ W.drew.cell? ⟨W0.heap.size, 0, none⟩ = some (.map (some bm)) := ⟨c8, c3, c5⟩
        refine wpAnyG_take (i := 0) [7] rfl (by kernel_rfl) (by kernel_rfl) (by kernel_rfl) (by kernel_rfl) (by kernel_rfl) (by kernel_rfl) (fun _ _ _ h => h) (fun _ => rfl) (v := .int .i64 (s : Int)) (fun w' h => ?_) (fun _ => rfl) (by assumption) ?_
        · (obtain ⟨h1, h2, h3⟩ := h; go_simp)
        simp only [Act.put, List.setIfInBounds_toArray, List.set_cons_zero, List.set_cons_succ]
        refine wpAnyG_take (i := 1) [7, 6] rfl (by kernel_rfl) (by kernel_rfl) (by kernel_rfl) (by kernel_rfl) (by kernel_rfl) (by kernel_rfl) (fun _ _ _ h => h) (fun _ => rfl) (v := .pointer (some ⟨B, 0, none⟩)) (fun w' h => ?_) (fun _ => rfl) (by assumption) ?_
        · (obtain ⟨h1, h2, h3⟩ := h; go_simp)
        simp only [Act.put, List.setIfInBounds_toArray, List.set_cons_zero, List.set_cons_succ]
        refine wpAnyG_take (i := 2) [7, 6, 4] rfl (by kernel_rfl) (by kernel_rfl) (by kernel_rfl) (by kernel_rfl) (by kernel_rfl) (by kernel_rfl) (fun _ _ _ h => h) (fun _ => rfl) (v := .pointer (some ⟨B, 0, none⟩)) (fun w' h => ?_) (fun _ => rfl) (by assumption) ?_
        · (obtain ⟨h1, h2, h3⟩ := h; go_simp)
        simp only [Act.put, List.setIfInBounds_toArray, List.set_cons_zero, List.set_cons_succ]
        refine wpAnyG_take (i := 3) [7, 6, 4] rfl (by kernel_rfl) (by kernel_rfl) (by kernel_rfl) (by kernel_rfl) (by kernel_rfl) (by kernel_rfl) (fun _ _ _ h => h) (fun _ => rfl) (v := xv) (fun w' h => ?_) (fun _ => rfl) (by assumption) ?_
        · (go_simp)
        simp only [Act.put, List.setIfInBounds_toArray, List.set_cons_zero, List.set_cons_succ]
        refine wpAnyG_take (i := 5) [7, 6] rfl (by kernel_rfl) (by kernel_rfl) (by kernel_rfl) (by kernel_rfl) (by kernel_rfl) (by kernel_rfl) (fun _ _ _ h => h) (fun _ => rfl) (v := .map (some bm)) (fun w' h => ?_) (fun _ => rfl) (by assumption) ?_
        · (obtain ⟨h1, h2, h3⟩ := h; go_simp)
        simp only [Act.put, List.setIfInBounds_toArray, List.set_cons_zero, List.set_cons_succ]
        have hfirst := first_any D B N (rem D xs a) xv W.drew hN (fun z hz => HW.out z (rem_sub hz)) (by omega) (HLW.out.grew (grew_drew (grew_refl _))) (HLF.out.grew (grew_drew (grew_refl _)))
        have HF := hid hfirst
        clear hfirst
        refine wpAnyG_one (i := 4) rfl (by kernel_rfl) ?_
        obtain ⟨left, hleft⟩ : ∃ left, rem D xs a = left := ⟨_, rfl⟩
        have HLEFT := hid hleft
        have hlw : ∀ z ∈ left, 0 ≤ z ∧ z < (N : Int) := fun z hz => HW.out z (rem_sub (hleft ▸ hz))
        rw [hleft] at HF hrl
        have hal := alike_first hsym hlw
        have hfl : (first D N left).length = k := by rw [← hal.length hr]; have := HMK.out; omega
        have hfw : ∀ z ∈ first D N left, 0 ≤ z ∧ z < (N : Int) := fun z hz => hlw z ((hal.perm hr).mem_iff.2 hz)
        have hsz : sizeM D N (first D N left) = sizeM D N left := (sizeM_alike hr hsym N hal).symm
        have hzle : sizeM D N left ≤ 60466176 := sizeM_le hN (by omega)
        obtain ⟨P, hP⟩ : ∃ P, 7 ^ k = P := ⟨_, rfl⟩
        have hmP : 7 ^ m = 7 * P := by rw [HMK.out, Nat.pow_succ, hP, Nat.mul_comm]
        have hpP : pre.length * P ≤ 5 * P := Nat.mul_le_mul_right _ (by omega)
        rw [hP] at hm3
        rw [hmP] at hn
        have hnn : nn + 7 ^ k ≤ 1000000000000 := by rw [hP]; omega
        obtain ⟨z, hz⟩ : ∃ z, sizeM D N left = z := ⟨_, rfl⟩
        rw [hz] at hzle hsz
        have hwr : IntKind.i64.wrap ((s : Int) + (z : Int)) = (s : Int) + (z : Int) := IntWalk.i64_in _ (by omega)
        have l3 := World.block_lt_of_cell? W _ c3
        have l5 := World.block_lt_of_cell? W _ c5
        simp only at l3 l5
        have HFL := hid hfl; have HFW := hid hfw; have HSZ := hid hsz; have HZ := hid hz; have HNN := hid hnn
        have hc8b : W2.heap.size ≠ bm := by omega
        clear hal hfl hfw hlw hsz hleft hz hnn
        gi_wp2_with (refine ⟨trivial, ?_⟩; gi_at_call 67; refine (CallsIn.inRound l (callsIn_wide.2 HF.out)).mono ?_; rintro e w6 ⟨uv, rfl, hs6, hx6⟩; have HS6 := hid hs6; have HX6 := hid (grew_trans (grew_drew (grew_refl W)) hx6); clear hs6 hx6)
        have d8 := (HX6.out.cell (p := ⟨W2.heap.size, 0, none⟩) l8).trans c8
        have d3 := (HX6.out.cell (p := ⟨w.heap.size, 0, none⟩) l3).trans c3
        have d5 := (HX6.out.cell (p := ⟨W0.heap.size, 0, none⟩) l5).trans c5
        refine ⟨fun _ => ⟨d8, d3, d5⟩, ?_⟩
        have hrec := IH.out (first D N left) uv w6 nn S' HFL.out (by have := HMK.out; omega) HNN.out HFW.out (HLW.out.grew HX6.out) (IsWd.of_seg HS6.out) (HM1.out.grew HX6.out) HK2.out
        rw [HSZ.out] at hrec
        have HREC := hid hrec
        clear hrec
        refine wpAnyG_one (i := 6) rfl (by kernel_rfl) ?_
        gi_wp2_with (refine ⟨trivial, ?_⟩; gi_at_call 89; refine (CallsIn.inRound l (callsIn_wide.2 HREC.out)).mono ?_; rintro e w7 ⟨rfl, n7, S7, hn7, hm7, hk7, hkp7⟩; have HN7 := hid hn7; have HM7 := hid hm7; have HK7 := hid hk7; have HKP7 := hid hkp7; clear hn7 hm7 hk7 hkp7)
        have hob6 := (HX6.out.block _ l8).trans HNUM.out
        have hob7 := HKP7.out.obj _ _ hob6 (fun h => hc8b h.1)
        have e8 : w7.cell? ⟨W2.heap.size, 0, none⟩ = some (.int .i64 (s : Int)) := cell_of_row _ _ _ _ _ _ hob7
        have e3 : w7.cell? ⟨w.heap.size, 0, none⟩ = some (.pointer (some ⟨B, 0, none⟩)) := cell_keeps HKP7.out (fun o ho h => not_map ho d3 h.2) d3
        have e5 : w7.cell? ⟨W0.heap.size, 0, none⟩ = some (.map (some bm)) := cell_keeps HKP7.out (fun o ho h => not_map ho d5 h.2) d5
        have g8 := frozen_obj hob7 0
        have HOB7 := hid hob7
        clear hob6 hob7
        refine ⟨fun _ => ⟨e8, e3, e5⟩, ?_⟩
        refine wpAnyG_one (i := 7) rfl (by kernel_rfl) ?_
        gi_wp2
        refine ⟨fun _ => ⟨e8, e3, e5⟩, ?_⟩
        refine wpAnyG_one (i := 8) rfl (by kernel_rfl) ?_
        gi_wp2
        refine ⟨gate_done (by kernel_rfl), ?_⟩
        refine wpAnyG_done (by kernel_rfl) ?_ _
        simp only [NoP]
        gi_wp2
        have hmT : ¬ T bm := fun h => by have := HI.out.far _ h; omega
        have h8T : ¬ T W2.heap.size := fun h => by have := HI.out.far _ h; omega
        have hks := keeps_setCell (may := fun k o => k = W2.heap.size) w7 W2.heap.size (.int .i64 ((s : Int) + (z : Int))) (fun _ _ => rfl)
        have hkall : Keeps (fun i o => i = W2.heap.size ∨ MapAt bm i o) W (w7.setCell ⟨W2.heap.size, 0, none⟩ (.int .i64 ((s : Int) + (z : Int)))) := (HX6.out.keeps.trans (HKP7.out.mono (fun _ _ h => .inr h))).trans (hks.mono (fun _ _ h => .inl h))
        refine ⟨hkall.mono (fun i o h => ?_), ?_, ?_, HI.out.keep.trans hkall, HI.out.far, ?_⟩
        · rcases h with rfl | h
          · exact ⟨h8T, .inl rfl, .inl h8l⟩
          · exact ⟨fun hT => hmT (h.1 ▸ hT), .inr (.inl h), .inl (by rw [h.1]; exact hbl)⟩
        · rw [heap_setCell_same _ _ _ _ _ _ HOB7.out, List.map_append, List.map_cons, List.map_nil, sumS_snoc, HS1.out, HLEFT.out, HZ.out]
          simp
        · refine ⟨n7, S7, HM7.out.keeps hks (fun es c h => hc8b h.symm), HK7.out, ?_⟩
          have h1 := HN7.out
          rw [hP] at h1 ⊢
          rw [List.length_append, List.length_singleton, Nat.add_mul, Nat.one_mul]
          omega
        · have h1 := HAT.out
          rw [List.map_append, List.length_append, List.length_singleton, List.map_cons, List.map_nil, h1]
          rw [List.take_append, List.take_of_length_le (by simp), List.length_map, show pre.length + 1 - pre.length = 1 by omega]
          rfl
      case done =>
        rintro D' xs' T W hD hS' hI hK'
        have hnum := hI.num
        have hsum : sumS D N xs (xs'.map (·.1)) = sizeM D N xs := by
          have hne : xs ≠ [] := by intro e; have := HKX.out; rw [e] at this; simp at this; omega
          rw [hS', sizeM_step hne]; rfl
        rw [hsum] at hnum
        have hzle : sizeM D N xs ≤ 60466176 := sizeM_le hN (by rw [HKX.out]; omega)
        obtain ⟨z, hz⟩ : ∃ z, sizeM D N xs = z := ⟨_, rfl⟩
        rw [hz] at hnum hzle
        have c8 : W.cell? ⟨W2.heap.size, 0, none⟩ = some (.int .i64 (z : Int)) := cell_of_row _ _ _ _ _ _ hnum
        have c5 : W.cell? ⟨W0.heap.size, 0, none⟩ = some (.map (some bm)) := cell_keeps hI.keep (fun o ho h => by
          rcases h with h | ⟨_, h⟩
          · omega
          · exact not_map ho HJ14.out h) HJ14.out
        have hw1W2 := lt_of_obj OD.out
        have od : W.heap[w1.heap.size]? = some (.cells #[.int .i64 a0, .int .i64 a1, .int .i64 a2, .int .i64 a3, .int .i64 a4, .int .i64 a5, .int .i64 a6, .int .i64 a7, .int .i64 a8, .int .i64 a9] 98 (0, 0)) := hI.keep.obj _ _ OD4.out (fun h => by
          rcases h with h | ⟨_, es, c, h⟩
          · omega
          · cases h)
        have dd : ∀ i, W.cell? ⟨w1.heap.size, i, none⟩ = (#[.int .i64 a0, .int .i64 a1, .int .i64 a2, .int .i64 a3, .int .i64 a4, .int .i64 a5, .int .i64 a6, .int .i64 a7, .int .i64 a8, .int .i64 a9] : Array Value)[i]? := fun i => cell_of_row _ _ _ _ _ _ od
        have d0 := dd 0
        have d1 := dd 1
        have d2 := dd 2
        have d3 := dd 3
        have d4 := dd 4
        have d5 := dd 5
        have d6 := dd 6
        have d7 := dd 7
        have d8 := dd 8
        have d9 := dd 9
        simp only [List.getElem?_toArray, List.getElem?_cons_zero, List.getElem?_cons_succ] at d0 d1 d2 d3 d4 d5 d6 d7 d8 d9
        obtain ⟨nn, S', hm1, hm2, hm3⟩ := hI.map
        have hpl : xs'.length ≤ 6 := by
          have h1 := congrArg List.length hS'
          have h2 := starts_length (D := D) N xs
          rw [List.length_map] at h1
          omega
        obtain ⟨P, hP⟩ : ∃ P, 7 ^ k = P := ⟨_, rfl⟩
        have hmP : 7 ^ m = 7 * P := by rw [HMK.out, Nat.pow_succ, hP, Nat.mul_comm]
        have hP1 : 1 ≤ P := by rw [← hP]; exact Nat.pow_pos (by omega)
        have hpP : xs'.length * P ≤ 6 * P := Nat.mul_le_mul_right _ hpl
        rw [hP] at hm3
        rw [hmP] at hn
        have HMP := hid hmP
        obtain ⟨W', hupd, hmap', hgrow'⟩ := hm1.update keyed98 (t := 90) Try.underlying90 Try.underlying3 (by unfold maxLen; omega) (x := keyV xs) HKL.out (fun y h => h) (e := z) (by omega) (S' := putS S' (keyV xs) z) (putS_same _ _ _) (fun y hy => putS_other _ _ _ hy)
        simp only [id] at hupd
        rw [HKV.out] at hupd
        have hkw : Keeps (MapAt bm) W W' := by
          obtain ⟨es, c, hobj⟩ := hm1.obj
          exact (Keeps.refl _ W).grown hgrow' (fun k o e ho => by cases e; rw [hobj] at ho; cases ho; exact ⟨rfl, _, _, rfl⟩)
        have e8 : W'.cell? ⟨W2.heap.size, 0, none⟩ = some (.int .i64 (z : Int)) := cell_keeps hkw (fun o ho h => not_map ho c8 h.2) c8
        have hK2 := hkw.obj _ _ hK' (fun h => by obtain ⟨_, es, c, h⟩ := h; cases h)
        have HMM := hid hmap'; have HKN := hid (hm2.put (xs := xs) (by rw [HKX.out]; omega) HW.out)
        have HKW := hid hkw; have HIK := hid hI.keep
        have hl8 := lt_of_obj hnum
        have HZZ := hid hz
        have hD0 : w.heap.size ≤ D' := by have := HGW.out.size; omega
        clear hmap' hm1 hm2 hI od dd hS' hnum hK' hgrow' hkw hz hsum
        gi_wp2
        refine leaves_marks w.heap.size [D'] W' (fun D2 h => by obtain rfl := List.mem_singleton.1 h; exact ⟨hD0, hK2⟩) (by simp) (fun W9 hkk => ⟨_, results_tmp rfl _ _ _, by rw [HZZ.out]; rfl, nn + 1, putS S' (keyV xs) z, by rw [HMP.out]; omega, HMM.out.keeps hkk (fun es c hm => by have := hm.1; omega), by rw [← HZZ.out]; exact HKN.out, ?_⟩)
        refine keeps_old ((HGW.out.keeps.trans (HIK.out.mono (fun i o h => ?_))).trans ((HKW.out.mono (fun i o h => .inr h)).trans (hkk.mono (fun i o h => .inl h.1))))
        rcases h with rfl | h
        · exact .inl (by omega)
        · exact .inr h

end Go.Proofs.Ytddnpooffcjhnaa
namespace Go.Proofs.Ytddnpooffcjhnaa
open Go Go.RowKit Go.Lin Go.Lin.Wv Go.Maps
attribute [local go_sem] Oper.semAt_some

theorem isWd_slice {w : World} {v : Value} {xs : List Int} (h : IsWd w v xs) : ∃ a c, v = .slice a xs.length c := let ⟨a, c, h, _⟩ := h; ⟨a, c, h⟩

/-- One word, laid as the list of words. -/
theorem rows_one {w : World} {v : Value} {xs : List Int} (h : IsInts Any w v xs) (ty : TypeId) : IsRows Any (w.alloc (.cells #[v] ty)) (.slice (some ⟨w.heap.size, 0, none⟩) 1 1) [xs] := by
  refine ⟨fun _ => v, ⟨_, _, rfl, by simp, fun i hi => ?_⟩, fun i hi => ?_⟩
  · obtain rfl : i = 0 := by simp at hi; omega
    exact ⟨_, _, _, rfl, heap_alloc_new w _, trivial, by simp⟩
  · obtain rfl : i = 0 := by simp at hi; omega
    exact Reads.grew h (grew_alloc (grew_refl w) _)

theorem rows_two {w : World} {v u : Value} {xs ys : List Int} (h : IsInts Any w v xs) (h2 : IsInts Any w u ys) (ty : TypeId) : IsRows Any (w.alloc (.cells #[v, u] ty)) (.slice (some ⟨w.heap.size, 0, none⟩) 2 2) [xs, ys] :=
  two_rows (by simp) (by simp) (Reads.grew h (grew_alloc (grew_refl w) _)) (Reads.grew h2 (grew_alloc (grew_refl w) _))

theorem rows_none (w : World) : IsRows Any w (.slice none 0 0) [] := ⟨fun _ => undef, Reads.nil _ _ _ _ _, fun i hi => by simp at hi⟩

theorem wrong_one {L : Lt} {xs : List Int} (h : wrong L [xs] = 0) : valid L = true ∧ isW L xs = true := by
  unfold wrong at h
  split at h
  · split at h
    · rename_i h1 h2; exact ⟨h1, by simpa using h2⟩
    · cases h
  · cases h

theorem wrong_two {L : Lt} {xs ys : List Int} (h : wrong L [xs, ys] = 0) : valid L = true ∧ isW L xs = true ∧ isW L ys = true := by
  unfold wrong at h
  split at h
  · split at h
    · rename_i h1 h2; simp at h2; exact ⟨h1, h2⟩
    · cases h
  · cases h

theorem isW_iff {L : Lt} {N : Nat} (hN : L.n = N) {xs : List Int} (h : isW L xs = true) : xs.length ≤ 10 ∧ ∀ z ∈ xs, 0 ≤ z ∧ z < (N : Int) := by
  unfold isW at h
  simp only [Bool.and_eq_true, decide_eq_true_eq, List.all_eq_true] at h
  refine ⟨h.1, fun z hz => ?_⟩
  have := h.2 z hz
  unfold isL at this
  simp only [Bool.and_eq_true, decide_eq_true_eq] at this
  omega

theorem known_none (D : Int → Int → Bool) (N : Nat) : Known D N (fun _ => none) := fun k v h => by cases h

theorem newLoom_ok (v : Value) (L : Lt) (wv : Value) (ws : List (List Int)) (w : World) (hn : L.n ≤ 9223372036854775807) (hv : IsLt w v L) (hw : IsRows Any w wv ws) (h0 : wrong L ws = 0) :
    Calls Try.prog 60 #[v, wv] w fun e w' => ∃ (B N : Nat), L.n = N ∧ 1 ≤ N ∧ N ≤ 6 ∧ e = .returned (.tuple #[.pointer (some ⟨B, 0, none⟩), .int .i64 0]) ∧ w.heap.size ≤ B ∧ Loom w' B (dep L) N ∧ Grew w w' :=
  (newLoom_any v L wv ws w hn hv hw).mono fun e w' ⟨hg, h⟩ => by
    rcases h with ⟨_, B, N, h1, h2, h3, h4, h5, h6⟩ | ⟨h, _⟩
    · exact ⟨B, N, h1, h2, h3, h4, h5, h6, hg⟩
    · exact absurd h0 h

theorem newLoom_bad (v : Value) (L : Lt) (wv : Value) (ws : List (List Int)) (w : World) (hn : L.n ≤ 9223372036854775807) (hv : IsLt w v L) (hw : IsRows Any w wv ws) (h0 : wrong L ws ≠ 0) :
    Calls Try.prog 60 #[v, wv] w fun e w' => e = .returned (.tuple #[.pointer none, .int .i64 (wrong L ws)]) ∧ Grew w w' :=
  (newLoom_any v L wv ws w hn hv hw).mono fun e w' ⟨hg, h⟩ => by
    rcases h with ⟨h, _⟩ | ⟨_, h⟩
    · exact absurd h h0
    · exact ⟨h, hg⟩

set_option maxHeartbeats 4000000 in
set_option maxRecDepth 20000 in
theorem size48_any (v : Value) (L : Lt) (wv : Value) (xs : List Int) (w : World) (hn : L.n ≤ 9223372036854775807) (hv : IsLt w v L) (hx : IsWd w wv xs) :
    Calls Try.prog 48 #[v, wv] w fun e w' => e = .returned (.tuple #[.int .i64 (if wrong L [xs] = 0 then (sizeM (dep L) L.n.toNat xs : Nat) else 0), .int .i64 (wrong L [xs])]) ∧ Grew w w' := by
  have HV := hid hv
  obtain ⟨s, rfl, hps⟩ := hv
  obtain ⟨xa, xc, rfl⟩ := isWd_slice hx
  obtain ⟨W0, hW0, g0, k0, k1, hz⟩ := box2 w (.int .i64 L.n) s 24
  obtain ⟨W1, hW1⟩ : ∃ W1, W0.alloc (.cells #[.slice xa xs.length xc] 25) = W1 := ⟨_, rfl⟩
  have g1 : Grew W0 W1 := by rw [← hW1]; exact grew_alloc (grew_refl _) _
  have g01 := grew_trans g0 g1
  obtain ⟨m, hm⟩ : ∃ m, xs.length = m := ⟨_, rfl⟩
  obtain ⟨r, hr⟩ : ∃ r, wrong L [xs] = r := ⟨_, rfl⟩
  rw [hr]
  have HM := hid hm; have HR := hid hr
  by_cases hr0 : r = 0
  · subst hr0
    obtain ⟨hv1, hw1⟩ := wrong_one hr
    have hok := newLoom_ok _ L _ [xs] W1 hn (HV.out.grew g01) (by rw [← hW1]; exact rows_one (Reads.grew hx.ints g0) 25) hr
    have HOK := hid hok; have HX := hid hx; have HG01 := hid g01; have HW1 := hid hw1
    rw [hm] at hW1 ⊢
    clear hps hr hx hm hok hv1 hw1
    have hrm := @run_makeMap Try.prog
    go_enter Try.func48, Try.ntmps48
    go_wp2_with (first
      | (go_at_call 60; (with_reducible refine HOK.out.mono ?_); go_loud (rintro e w1 ⟨B, N, hN, hN1, hN6, rfl, hB, hL, hg1⟩; have HL := hid hL; have HN := hid hN; have HG1 := hid hg1; obtain ⟨hl10, hlw⟩ := isW_iff hN HW1.out; have HLW := hid hlw; have HF := hid (first_any (dep L) B N xs _ w1 hN6 hlw (by omega) hL ((HX.out.grew HG01.out).grew hg1)); rw [HM.out] at HF; clear hN hL hg1 hlw))
      | (go_at_call 67; (with_reducible refine HF.out.mono ?_); rintro e w2 ⟨u, rfl, hs2, hg2⟩; have HS2 := hid hs2; have HG2 := hid hg2; clear hs2 hg2)
      | (go_at_call 89; go_loud (
          have hal := alike_first (dep_comm L) HLW.out
          have hlen : (first (dep L) N xs).length = m := by rw [← hal.length (dep_refl L), HM.out]
          have hfw : ∀ z ∈ first (dep L) N xs, 0 ≤ z ∧ z < (N : Int) := fun z hz => HLW.out z ((hal.perm (dep_refl L)).mem_iff.2 hz)
          have hm10 : m ≤ 10 := by rw [← HM.out]; exact hl10
          have h7 : (7 : Nat) ^ m ≤ 282475249 := Nat.le_trans (Nat.pow_le_pow_right (by decide) hm10) (by decide)
          refine (size_any (dep L) (dep_refl L) (dep_comm L) B N w2.heap.size hN6 m (first (dep L) N xs) u (w2.alloc (.map #[] 0)) 0 (fun _ => none) hlen hm10 (by omega) hfw ((HL.out.grew HG2.out).grew (grew_alloc (grew_refl _) _)) ((IsWd.of_seg HS2.out).grew (grew_alloc (grew_refl _) _)) (OMap.made w2 Try.prog 98 3 id) (known_none _ _)).mono ?_
          rintro e w3 ⟨rfl, n', S', hn', hm', hk', hkp⟩
          have HKP := hid (show Grew w2 w3 from (grew_alloc (grew_refl w2) (.map #[] 0)).trans (hkp.below (by simp) (fun k o hm => by have := hm.1; omega)))
          obtain ⟨z, hz⟩ : ∃ z, sizeM (dep L) N (first (dep L) N xs) = z := ⟨_, rfl⟩
          rw [hz]
          have HZ := hid (show sizeM (dep L) L.n.toNat xs = z by rw [HN.out, Int.toNat_natCast, sizeM_alike (dep_refl L) (dep_comm L) N hal, hz])
          clear hal hlen hfw h7 hn' hm' hk' hkp hz)))
    go_ret2
    exact ⟨by rw [HZ.out]; rfl, grew_trans HG01.out (grew_trans HG1.out (grew_trans HG2.out HKP.out))⟩
  · have hbad := newLoom_bad _ L _ [xs] W1 hn (HV.out.grew g01) (by rw [← hW1]; exact rows_one (Reads.grew hx.ints g0) 25) (by rw [hr]; exact hr0)
    rw [hr] at hbad
    have hne : (r != 0) = true := by simpa using hr0
    have HB := hid hbad; have HG01 := hid g01; have HR0 := hid hr0
    rw [hm] at hW1 ⊢
    clear hps hr hx hm hbad hr0
    go_enter Try.func48, Try.ntmps48
    go_wp2_with (go_at_call 60; (with_reducible refine HB.out.mono ?_); rintro e w1 ⟨rfl, hg1⟩; have HG1 := hid hg1; clear hg1)
    go_ret2
    exact ⟨by first | rfl | (rw [if_neg HR0.out]; rfl), grew_trans HG01.out HG1.out⟩

theorem awake_L : wrong ⟨3, [(0, 1)]⟩ [[2, 0, 1]] = 0 ∧ sizeM (dep ⟨3, [(0, 1)]⟩) 3 [2, 0, 1] = 3 := by decide

set_option maxHeartbeats 4000000 in
theorem awake_any (w : World) : Calls Try.prog 17 #[] w fun e w' => e = .returned (.bool true) ∧ Grew w w' := by
  obtain ⟨W0, hW0, g0, k0, k1, hz⟩ := box2 w (.int .i64 0) (.int .i64 1) 57
  obtain ⟨W1, hW1, g1, e0, e1, e2, hz1⟩ := box3 W0 (.int .i64 2) (.int .i64 0) (.int .i64 1) 3
  have hps : IsPairs W0 (.slice (some ⟨w.heap.size, 0, none⟩) 1 1) [(0, 1)] := ⟨_, _, rfl, by simp, fun i x hx => by
    rcases i with _ | i
    · simp at hx; subst hx; exact ⟨_, _, rfl, hz, k0, k1⟩
    · simp at hx⟩
  have hlt : IsLt W1 (.agg #[.int .i64 3, .slice (some ⟨w.heap.size, 0, none⟩) 1 1]) ⟨3, [(0, 1)]⟩ := ⟨_, rfl, hps.grew g1⟩
  have hxs : IsWd W1 (.slice (some ⟨W0.heap.size, 0, none⟩) 3 3) [2, 0, 1] := by
    refine ⟨_, _, rfl, by simp, _, _, rfl, by simp, fun i hi => ?_⟩
    have hi' : i = 0 ∨ i = 1 ∨ i = 2 := by simp at hi; omega
    rcases hi' with rfl | rfl | rfl
    · exact ⟨_, _, _, rfl, Array.getElem?_eq_getElem hz1, trivial, by simpa [nth] using e0⟩
    · exact ⟨_, _, _, rfl, Array.getElem?_eq_getElem hz1, trivial, by simpa [nth] using e1⟩
    · exact ⟨_, _, _, rfl, Array.getElem?_eq_getElem hz1, trivial, by simpa [nth] using e2⟩
  have hs := size48_any _ _ _ _ W1 (by decide) hlt hxs
  rw [if_pos awake_L.1, awake_L.1, show (3 : Int).toNat = 3 from rfl, awake_L.2] at hs
  have HS := hid hs; have HG := hid (grew_trans g0 g1)
  clear hs hps hlt hxs
  go_enter Try.func17, Try.ntmps17
  go_wp2_with (go_at_call 48; (with_reducible refine HS.out.mono ?_); rintro e w1 ⟨rfl, hg1⟩; have HG1 := hid hg1; clear hg1)
  go_ret
  exact ⟨rfl, grew_trans HG.out HG1.out⟩

end Go.Proofs.Ytddnpooffcjhnaa
