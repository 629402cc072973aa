/- Walks: the table of the shortest words' lengths, of the reference's text. -/
import Derived.Test.YtnebpcpihldllaaFar
import Derived.Test.YtnebpcpihldllaaWBegun
import Derived.Deep.OwnRows
import Derived.IntWalk
namespace Go.Lin

/-- The table in the round r + 1: entries ahead of (a, b) are done, x stands at (a, b). -/
def tabAt (M K : Mach) (r a b x : Nat) : Nat → Nat → Nat := fun i j => if i < a ∨ (i = a ∧ j < b) then lev M K (r + 1) i j else if i = a ∧ j = b then x else lev M K r i j

/-- What stands at (a, b) once the calls below op are tried. -/
def xAt (M K : Mach) (r a b op : Nat) : Nat := if (List.range op).any (hitM M K (lev M K r) r a b) then r + 1 else 0

theorem xAt_zero (M K : Mach) (r a b : Nat) : xAt M K r a b 0 = 0 := rfl

theorem xAt_all {M K : Mach} {r a b : Nat} (h : ¬ 0 < lev M K r a b) : xAt M K r a b M.k = lev M K (r + 1) a b := by
  show _ = if 0 < lev M K r a b then lev M K r a b else if (List.range M.k).any (hitM M K (lev M K r) r a b) then r + 1 else 0
  rw [if_neg h]; rfl

theorem xAt_or (M K : Mach) (r a b op : Nat) : xAt M K r a b op = 0 ∨ xAt M K r a b op = r + 1 := by
  unfold xAt
  split
  · exact .inr rfl
  · exact .inl rfl

theorem xAt_hit {M K : Mach} {r a b op : Nat} (h : hitM M K (lev M K r) r a b op = true) : xAt M K r a b (op + 1) = r + 1 := by
  unfold xAt
  rw [List.range_succ, List.any_append]
  simp [h]

theorem xAt_no {M K : Mach} {r a b op : Nat} (h : hitM M K (lev M K r) r a b op = false) : xAt M K r a b (op + 1) = xAt M K r a b op := by
  unfold xAt
  rw [List.range_succ, List.any_append]
  simp [h]

theorem hit_tab {M K : Mach} {r a b x op v : Nat} (h0 : ¬ 0 < lev M K r a b) (hx : x = 0 ∨ x = r + 1) (hv : tabAt M K r a b x (M.nx a op) (K.nx b op) = v) :
    hitM M K (lev M K r) r a b op = (decide (M.sy a op ≠ K.sy b op) || (decide (0 < v) && decide (v = r))) := by
  have h : v = lev M K r (M.nx a op) (K.nx b op) ∨ (lev M K r (M.nx a op) (K.nx b op) = 0 ∧ (v = 0 ∨ v = r + 1)) := by
    unfold tabAt at hv
    split at hv
    · rcases lev_step M K r (M.nx a op) (K.nx b op) with h | ⟨h, h'⟩
      · exact .inl (by rw [← hv, h])
      · exact .inr ⟨h, .inr (by rw [← hv, h'])⟩
    · split at hv
      · rename_i h
        rw [h.1, h.2]
        exact .inr ⟨by omega, by rw [← hv]; exact hx⟩
      · exact .inl hv.symm
  unfold hitM
  congr 1
  rcases h with h | ⟨h, h' | h'⟩
  · rw [h]
  · rw [h, h']
  · rw [h, h']; simp

theorem tab_begin (M K : Mach) (r i j : Nat) : lev M K r i j = tabAt M K r 0 0 (lev M K r 0 0) i j := by
  unfold tabAt
  rw [if_neg (by omega)]
  split
  · rename_i h; rw [h.1, h.2]
  · rfl

theorem tab_here {M K : Mach} {r a b : Nat} : tabAt M K r a b (lev M K r a b) a b = lev M K r a b := by
  unfold tabAt
  rw [if_neg (by omega), if_pos ⟨rfl, rfl⟩]

theorem tab_skip {M K : Mach} {r a b x i j : Nat} (h : x = lev M K (r + 1) a b) : tabAt M K r a b x i j = tabAt M K r a (b + 1) (lev M K r a (b + 1)) i j := by
  unfold tabAt
  by_cases h1 : i < a ∨ (i = a ∧ j < b)
  · rw [if_pos h1, if_pos (by omega)]
  · rw [if_neg h1]
    by_cases h2 : i = a ∧ j = b
    · rw [if_pos h2, if_pos (by omega), h, h2.1, h2.2]
    · rw [if_neg h2, if_neg (by omega)]
      split
      · rename_i h3; rw [h3.1, h3.2]
      · rfl

theorem tab_row {M K : Mach} {r a b x i j : Nat} (hj : j < b) : tabAt M K r a b x i j = tabAt M K r (a + 1) 0 (lev M K r (a + 1) 0) i j := by
  unfold tabAt
  by_cases h1 : i < a ∨ (i = a ∧ j < b)
  · rw [if_pos h1, if_pos (by omega)]
  · rw [if_neg h1, if_neg (by omega), if_neg (by omega)]
    split
    · rename_i h3; rw [h3.1, h3.2]
    · rfl

theorem tab_end {M K : Mach} {r a x i j : Nat} (hi : i < a) : tabAt M K r a 0 x i j = lev M K (r + 1) i j := by
  unfold tabAt
  rw [if_pos (.inl hi)]

theorem tab_put {M K : Mach} {r a b x y i j : Nat} : (if i = a ∧ j = b then y else tabAt M K r a b x i j) = tabAt M K r a b y i j := by
  unfold tabAt
  by_cases h : i = a ∧ j = b
  · rw [if_pos h, if_neg (by omega), if_pos h]
  · rw [if_neg h]
    by_cases h1 : i < a ∨ (i = a ∧ j < b)
    · rw [if_pos h1, if_pos h1]
    · rw [if_neg h1, if_neg h1, if_neg h, if_neg h]

theorem lev_stay {M K : Mach} {r a b : Nat} (h : 0 < lev M K r a b) : lev M K r a b = lev M K (r + 1) a b := by
  rcases lev_step M K r a b with h1 | ⟨h1, _⟩
  · exact h1.symm
  · omega

/-! ### A table that the call itself makes -/

/-- The block B is a slice of n rows; the row i lies in the block B + 1 + i and has the m numbers f i. -/
structure OwnTab (w : World) (B n m : Nat) (f : Nat → Nat → Nat) : Prop where
  top : w.rowIs B 34 n (fun i => .slice (some ⟨B + 1 + i, 0, none⟩) m m)
  row : ∀ i, i < n → w.rowIs (B + 1 + i) 3 m (fun j => .int .i64 (f i j : Int))

theorem OwnTab.congr {w : World} {B n m : Nat} {f g : Nat → Nat → Nat} (h : OwnTab w B n m f) (hfg : ∀ i, i < n → ∀ j, j < m → f i j = g i j) : OwnTab w B n m g :=
  ⟨h.top, fun i hi => (h.row i hi).congr (fun j hj => by rw [hfg i hi j hj])⟩

theorem OwnTab.set {w : World} {B n m : Nat} {f : Nat → Nat → Nat} (h : OwnTab w B n m f) {i j : Nat} (v : Int) (y : Nat) (hv : v = (y : Int)) :
    OwnTab (w.setCell ⟨B + 1 + i, j, none⟩ (.int .i64 v)) B n m (fun i' j' => if i' = i ∧ j' = j then y else f i' j') := by
  subst hv
  refine ⟨h.top.setOther (by show B ≠ B + 1 + i; omega) _, fun i' hi' => ?_⟩
  by_cases he : i' = i
  · subst he
    exact ((h.row i' hi').set j _).congr (fun j' _ => by by_cases h2 : j' = j <;> simp [h2])
  · exact ((h.row i' hi').setOther (by show B + 1 + i' ≠ B + 1 + i; omega) _).congr (fun j' _ => by rw [if_neg (fun h => he h.1)])

theorem OwnTab.tabAt {w : World} {B n m : Nat} {f : Nat → Nat → Nat} (h : OwnTab w B n m f) : TabAt w B 0 n m (fun i j => (f i j : Int)) :=
  ⟨h.top.lt, fun i hi => ⟨B + 1 + i, 0, m, by rw [Nat.zero_add]; exact h.top.cell hi, (h.row i hi).lt, fun j hj => by rw [Nat.zero_add]; exact (h.row i hi).cell hj⟩⟩

theorem OwnTab.drewN {w : World} {B n m : Nat} {f : Nat → Nat → Nat} (h : OwnTab w B n m f) (q : Nat) : OwnTab (w.drewN q) B n m f := ⟨h.top, h.row⟩

/-- The table while its rows are made. -/
structure Made (W0 wr : World) (n m k : Nat) : Prop where
  grew : Grew W0 wr
  top : wr.rowIs W0.heap.size 34 n (fun i => if i < k then .slice (some ⟨W0.heap.size + 1 + i, 0, none⟩) m m else .slice none 0 0)
  row : ∀ i, i < k → wr.rowIs (W0.heap.size + 1 + i) 3 m (fun _ => .int .i64 0)
  size : wr.heap.size = W0.heap.size + 1 + k

theorem Made.start (W0 : World) (n m : Nat) : Made W0 (W0.alloc (.cells (madeCells #[.slice none 0 0] n) 34)) n m 0 :=
  ⟨grew_alloc (grew_refl _) _, (World.rowIs_made W0 _ n 34).congr (fun i _ => by simp), fun i hi => absurd hi (Nat.not_lt_zero _), by simp⟩

theorem Made.next {W0 wr : World} {n m k : Nat} (h : Made W0 wr n m k) :
    Made W0 ((wr.setCell ⟨W0.heap.size, k, none⟩ (.slice (some ⟨wr.heap.size, 0, none⟩) m m)).alloc (.cells (madeCells #[.int .i64 0] m) 3)) n m (k + 1) := by
  have hs := h.size
  have hz : (wr.setCell ⟨W0.heap.size, k, none⟩ (.slice (some ⟨wr.heap.size, 0, none⟩) m m)).heap.size = wr.heap.size := by simp
  refine ⟨grew_alloc (Go.RowKit.Below.setCell h.grew (Nat.le_refl _) _) _, ?_, fun i hi => ?_, by simp; omega⟩
  · refine ((h.top.set k _).alloc _).congr (fun i _ => ?_)
    by_cases he : i = k
    · subst he; simp [hs]
    · by_cases hlt : i < k
      · simp [he, hlt, show i < k + 1 by omega]
      · simp [he, hlt, show ¬ i < k + 1 by omega]
  · by_cases he : i = k
    · subst he
      have := World.rowIs_made (wr.setCell ⟨W0.heap.size, i, none⟩ (.slice (some ⟨wr.heap.size, 0, none⟩) m m)) (.int .i64 0) m 3
      rw [hz, hs] at this
      rw [hs]; exact this
    · exact ((h.row i (by omega)).setOther (by show W0.heap.size + 1 + i ≠ W0.heap.size; omega) _).alloc _

theorem Made.done {W0 wr : World} {n m : Nat} (h : Made W0 wr n m n) : OwnTab wr W0.heap.size n m (fun _ _ => 0) :=
  ⟨h.top.congr (fun i hi => by rw [if_pos hi]), fun i hi => h.row i hi⟩
end Go.Lin
namespace Go.Proofs.Ytnebpcpihldllaa
open Go.RowKit Go.Lin

set_option maxHeartbeats 4000000 in
set_option maxRecDepth 100000 in
theorem far_any (M K : Mach) (hM : M.WF) (hK : K.WF) (hkk : M.k = K.k) (mv kv : Value) (w : World) (hm : IsMach w mv M) (hk : IsMach w kv K) :
    Calls Try.prog 84 #[mv, kv] w fun e w' => ∃ b off c, e = .returned (.slice (some ⟨b, off, none⟩) M.n c) ∧ TabAt w' b off M.n K.n (fun i j => (dist M K i j : Int)) ∧ Grew w w' := by
  obtain ⟨b1, off1, c1, b2, off2, c2, rfl, t1, t2⟩ := hm
  obtain ⟨b3, off3, c3, b4, off4, c4, rfl, t3, t4⟩ := hk
  obtain ⟨Wa, hWa, ga, k0, k1, k2, k3, hz⟩ := box4 w (.int .i64 M.n) (.int .i64 M.k) (.slice (some ⟨b1, off1, none⟩) M.n c1) (.slice (some ⟨b2, off2, none⟩) M.n c2) 24
  obtain ⟨W0, hW0, gb, l0, l1, l2, l3, hz1⟩ := box4 Wa (.int .i64 K.n) (.int .i64 K.k) (.slice (some ⟨b3, off3, none⟩) K.n c3) (.slice (some ⟨b4, off4, none⟩) K.n c4) 24
  have g0 := grew_trans ga gb
  have hza : w.heap.size < W0.heap.size := Nat.lt_of_lt_of_le hz gb.size
  have m0 := (gb.cell (p := ⟨w.heap.size, 0, none⟩) hz).trans k0
  have m1 := (gb.cell (p := ⟨w.heap.size, 1, none⟩) hz).trans k1
  have m2 := (gb.cell (p := ⟨w.heap.size, 2, none⟩) hz).trans k2
  have m3 := (gb.cell (p := ⟨w.heap.size, 3, none⟩) hz).trans k3
  clear k0 k1 k2 k3
  have T1 := hid (t1.grew g0)
  have T2 := hid (t2.grew g0)
  have T3 := hid (t3.grew g0)
  have T4 := hid (t4.grew g0)
  have hb1 := (T1.out).1
  have hb2 := (T2.out).1
  have hb3 := (T3.out).1
  have hb4 := (T4.out).1
  clear t1 t2 t3 t4
  have HKK := hid hkk; clear hkk
  have n1 := hM.n1
  have n8 := hM.n8
  have k4 := hM.k4
  have n1' := hK.n1
  have n8' := hK.n8
  have hmk22 := run_make_row' (P := Try.prog) 22 34 (.slice none 0 0) 24 Try.underlying22 Try.info34 rfl .i64 .i64 M.n (by omega) (by omega)
  have hmk34 := run_make_row' (P := Try.prog) 34 3 (.int .i64 0) 8 Try.underlying34 Try.info3 rfl .i64 .i64 K.n (by omega) (by omega)
  have HMD := hid (Made.start W0 M.n K.n)
  go_enter Try.func84, Try.ntmps84
  go_wp2
  go_loopg [17] M.n (fun g i wr => ∃ k : Nat, k ≤ M.n ∧ i = .int .i64 (k : Int) ∧ Hid (g = M.n - k) ∧ Made W0 wr M.n K.n k)
  case atStart => exact ⟨0, Nat.zero_le _, rfl, hid rfl, HMD.out⟩
  case round =>
    obtain ⟨k, hkn, rfl, HG, hmade⟩ := hrel
    have hc := (bcell hmade.grew).1
    have hsz := hmade.size
    by_cases hlt : k < M.n
    · have hcl := hmade.top.cell hlt
      have hfr := hmade.top.frozen k
      rw [if_neg (Nat.lt_irrefl _)] at hcl
      have hlt0 : W0.heap.size < wr.heap.size := by omega
      have HSZ := hid hsz; clear hsz
      have HMK := hid hmade; clear hmade HMD
      go_wp2
      go_roundg (M.n - (k + 1))
      case measure => have := HG.out; omega
      case rel => exact ⟨k + 1, by omega, by go_num, hid rfl, HMK.out.next⟩
    · obtain rfl : k = M.n := by omega
      have HT := hid hmade.done
      have hg0 := hmade.grew
      clear hmade HMD hmk22 hmk34 hsz
      go_wp2
      obtain ⟨N, hN⟩ : ∃ N, M.n * K.n = N := ⟨_, rfl⟩
      have hN64 : N ≤ 64 := by rw [← hN]; exact Nat.mul_le_mul n8 n8'
      have hwr : IntKind.i64.wrap ((M.n : Int) * (K.n : Int)) = (N : Int) := by rw [← Int.natCast_mul, hN]; exact IntWalk.i64_in _ (by omega)
      have HN := hid hN; clear hN
      clear hlt hc
      go_loopg [7] N (fun g v7 wi => ∃ r : Nat, r ≤ N ∧ v7 = .int .i64 ((r : Int) + 1) ∧ Hid (g = N - r) ∧ Grew W0 wi ∧ Hid (OwnTab wi W0.heap.size M.n K.n (lev M K r)))
      case atStart => exact ⟨0, Nat.zero_le _, rfl, hid rfl, hg0, HT⟩
      case round =>
        clear HT hg0
        obtain ⟨r, hr, rfl, HG2, hg2, HT2⟩ := hrel
        have hc := (bcell hg2).1
        by_cases hrN : r < N
        · clear HG
          have hdr : decide ((r : Int) + 1 ≤ (N : Int)) = true := decide_eq_true (by omega)
          obtain ⟨wo, rfl⟩ : ∃ wo : World, wo = wr := ⟨_, rfl⟩
          go_wp2
          clear hc
          go_loopg [38] M.n (fun g i wi => ∃ a : Nat, a ≤ M.n ∧ i = .int .i64 (a : Int) ∧ Hid (g = M.n - a) ∧ Grew W0 wi ∧ Hid (OwnTab wi W0.heap.size M.n K.n (tabAt M K r a 0 (lev M K r a 0))))
          case atStart => exact ⟨0, Nat.zero_le _, rfl, hid rfl, hg2, hid (HT2.out.congr (fun i _ j _ => tab_begin M K r i j))⟩
          case round =>
            clear HT2 hg2
            obtain ⟨a, ha, rfl, HG3, hg3, HT3⟩ := hrel
            have hc := (bcell hg3).1
            by_cases han : a < M.n
            · obtain ⟨wp, rfl⟩ : ∃ wp : World, wp = wr := ⟨_, rfl⟩
              have hrow := HT3.out.top.cell han
              have hlt3 := HT3.out.top.lt
              go_wp2
              clear hc hrow hlt3
              go_loopg [46] K.n (fun g i wi => ∃ b : Nat, b ≤ K.n ∧ i = .int .i64 (b : Int) ∧ Hid (g = K.n - b) ∧ Grew W0 wi ∧ Hid (OwnTab wi W0.heap.size M.n K.n (tabAt M K r a b (lev M K r a b))))
              case atStart => exact ⟨0, Nat.zero_le _, rfl, hid rfl, hg3, HT3⟩
              case round =>
                clear HT3 hg3
                obtain ⟨b, hb, rfl, HG4, hg4, HT4⟩ := hrel
                have hc := (bcell hg4).1
                by_cases hbn : b < K.n
                · obtain ⟨wq, rfl⟩ : ∃ wq : World, wq = wr := ⟨_, rfl⟩
                  have hrow := HT4.out.top.cell han
                  have hlt4 := HT4.out.top.lt
                  have hcl := (HT4.out.row a han).cell hbn
                  have hlt5 := (HT4.out.row a han).lt
                  rw [tab_here] at hcl
                  obtain ⟨l, hl⟩ : ∃ l, lev M K r a b = l := ⟨_, rfl⟩
                  rw [hl] at hcl
                  by_cases hl0 : 0 < l
                  · have HL := hid hl; clear hl
                    go_wp2
                    go_roundg (K.n - (b + 1))
                    case measure => have := HG4.out; omega
                    case rel => exact ⟨b + 1, by omega, by go_num, hid rfl, hg4, hid (HT4.out.congr (fun i _ j _ => tab_skip (lev_stay (by rw [HL.out]; exact hl0))))⟩
                  · obtain rfl : l = 0 := by omega
                    have HL := hid hl; clear hl
                    go_wp2
                    clear hc hrow hlt4 hcl hlt5
                    go_loopg [59] M.k (fun g i wi => ∃ op : Nat, op ≤ M.k ∧ i = .int .i64 (op : Int) ∧ Hid (g = M.k - op) ∧ Grew W0 wi ∧ Hid (OwnTab wi W0.heap.size M.n K.n (tabAt M K r a b (xAt M K r a b op))))
                    case atStart => exact ⟨0, Nat.zero_le _, rfl, hid rfl, hg4, hid (by rw [xAt_zero, ← HL.out]; exact HT4.out)⟩
                    case round =>
                      clear HT4 hg4
                      obtain ⟨op, hop, rfl, HG5, hg5, HT5⟩ := hrel
                      have hc := (bcell hg5).1
                      by_cases hopk : op < M.k
                      · obtain ⟨wt, rfl⟩ : ∃ wt : World, wt = wr := ⟨_, rfl⟩
                        have hopk' : op < K.k := by have := HKK.out; omega
                        go_wp2
                        have hx1 := hM.nx a han op hopk
                        have hx2 := hK.nx b hbn op hopk'
                        obtain ⟨v, hv⟩ : ∃ v, tabAt M K r a b (xAt M K r a b op) (M.nx a op) (K.nx b op) = v := ⟨_, rfl⟩
                        have hrow := HT5.out.top.cell hx1
                        have hcl := (HT5.out.row _ hx1).cell hx2
                        rw [hv] at hcl
                        have hlt4 := HT5.out.top.lt
                        have hlt5 := (HT5.out.row _ hx1).lt
                        obtain ⟨p1, o1, s1, r1, r1b, r1c⟩ := T1.out.2 a han
                        obtain ⟨p3, o3, s3, r3, r3b, r3c⟩ := T3.out.2 b hbn
                        have r1d := r1c op hopk
                        have r3d := r3c op hopk'
                        clear r1c r3c
                        have HV := hid hv; clear hv
                        go_wp2
                        go_quiet (fail)
                        obtain ⟨w5, hw5, hg6, HT6⟩ : ∃ w5, wt.drewN nq = w5 ∧ Grew W0 w5 ∧ Hid (OwnTab w5 W0.heap.size M.n K.n (tabAt M K r a b (xAt M K r a b op))) := ⟨_, rfl, grew_drewN hg5 _, ⟨HT5.out.top, HT5.out.row⟩⟩
                        rw [hw5]
                        clear hw5 hc hrow hcl hlt4 hlt5 r1 r1b r1d r3 r3b r3d
                        have hc := (bcell hg6).1
                        obtain ⟨p2, o2, s2, r2, r2b, r2c⟩ := T2.out.2 a han
                        obtain ⟨p4, o4, s4, r4, r4b, r4c⟩ := T4.out.2 b hbn
                        have r2d := r2c op hopk
                        have r4d := r4c op hopk'
                        clear r2c r4c
                        have hht := hit_tab (op := op) (by rw [HL.out]; omega) (xAt_or M K r a b op) HV.out
                        have hrow := HT6.out.top.cell han
                        have hlt4 := HT6.out.top.lt
                        have hcl := (HT6.out.row a han).cell hbn
                        have hfz := (HT6.out.row a han).frozen b
                        have hlt5 := (HT6.out.row a han).lt
                        by_cases hdiff : M.sy a op = K.sy b op
                        · have hd : (M.sy a op != K.sy b op) = false := by simp [hdiff]
                          have HH := hid hht; clear hht
                          have HD := hid hdiff; clear hdiff
                          by_cases hv0 : 0 < v
                          · have e1 : decide (0 < v) = true := decide_eq_true hv0
                            have e2 : decide ((0 : Int) < (v : Int)) = true := decide_eq_true (by omega)
                            by_cases hvr : v = r
                            · have e3 : ((v : Int) == (r : Int)) = true := by simp [hvr]
                              have HVR := hid hvr; clear hvr
                              go_wp2
                              go_quiet (fail)
                              go_wp2
                              go_roundg (M.k - (op + 1))
                              case measure => have := HG5.out; omega
                              case rel => exact ⟨op + 1, by omega, by go_num, hid rfl, Go.RowKit.Below.setCell (grew_drewN hg6 _) (by show W0.heap.size ≤ W0.heap.size + 1 + a; omega) _, hid (((OwnTab.drewN HT6.out _).set (i := a) (j := b) _ (r + 1) (by omega)).congr (fun i _ j _ => by rw [tab_put, xAt_hit (by rw [HH.out, HD.out]; simp [HVR.out]; have := HVR.out; omega)]))⟩
                            · have e3 : ((v : Int) == (r : Int)) = false := beq_false_of_ne (by omega)
                              have HVR := hid hvr; clear hvr
                              go_wp2
                              go_quiet (fail)
                              go_wp2
                              go_roundg (M.k - (op + 1))
                              case measure => have := HG5.out; omega
                              case rel => exact ⟨op + 1, by omega, by go_num, hid rfl, grew_drewN hg6 _, hid (by rw [xAt_no (by rw [HH.out, HD.out]; simp [HVR.out])]; exact OwnTab.drewN HT6.out _)⟩
                          · have e1 : decide (0 < v) = false := decide_eq_false hv0
                            have e2 : decide ((0 : Int) < (v : Int)) = false := decide_eq_false (by omega)
                            go_wp2
                            go_quiet (fail)
                            go_wp2
                            go_roundg (M.k - (op + 1))
                            case measure => have := HG5.out; omega
                            case rel => exact ⟨op + 1, by omega, by go_num, hid rfl, grew_drewN hg6 _, hid (by rw [xAt_no (by rw [HH.out, HD.out]; simp [hv0])]; exact OwnTab.drewN HT6.out _)⟩
                        · have hd : (M.sy a op != K.sy b op) = true := by simpa using hdiff
                          have hht2 : hitM M K (lev M K r) r a b op = true := by rw [hht]; simp [hdiff]
                          have HH := hid hht2; clear hht hht2
                          have HD := hid hdiff; clear hdiff
                          go_wp2
                          go_quiet (fail)
                          go_wp2
                          go_roundg (M.k - (op + 1))
                          case measure => have := HG5.out; omega
                          case rel => exact ⟨op + 1, by omega, by go_num, hid rfl, Go.RowKit.Below.setCell (grew_drewN hg6 _) (by show W0.heap.size ≤ W0.heap.size + 1 + a; omega) _, hid (((OwnTab.drewN HT6.out _).set (i := a) (j := b) _ (r + 1) (by omega)).congr (fun i _ j _ => by rw [tab_put, xAt_hit (by exact HH.out)]))⟩
                      · obtain rfl : op = M.k := by omega
                        go_wp2
                        go_roundg (K.n - (b + 1))
                        case measure => have := HG4.out; omega
                        case rel => exact ⟨b + 1, by omega, by go_num, hid rfl, hg5, hid (HT5.out.congr (fun i _ j _ => tab_skip (xAt_all (by rw [HL.out]; omega))))⟩
                · obtain rfl : b = K.n := by omega
                  go_wp2
                  go_roundg (M.n - (a + 1))
                  case measure => have := HG3.out; omega
                  case rel => exact ⟨a + 1, by omega, by go_num, hid rfl, hg4, hid (HT4.out.congr (fun i _ j hj => tab_row hj))⟩
            · obtain rfl : a = M.n := by omega
              go_wp2
              go_roundg (N - (r + 1))
              case measure => have := HG2.out; omega
              case rel => exact ⟨r + 1, by omega, by go_num, hid rfl, hg3, hid (HT3.out.congr (fun i hi j _ => tab_end hi))⟩
        · obtain rfl : r = N := by omega
          have hdr : decide ((r : Int) + 1 ≤ (r : Int)) = false := decide_eq_false (by omega)
          go_wp2
          go_ret
          exact ⟨W0.heap.size, 0, M.n, rfl, by unfold dist; rw [HN.out]; exact HT2.out.tabAt, grew_trans g0 hg2⟩
end Go.Proofs.Ytnebpcpihldllaa
