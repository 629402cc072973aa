/- Walk: Play (13). Printed by gen_kpplay.py. -/
import Derived.Test.YtmohnddglmolgaaGreatDoorKpRep
import Derived.Handy
namespace Go.Lin.Kp
open Go Go.Lin

def errT (e : Int) : List UInt8 := [101, 114, 114, 111, 114, 32] ++ Lib.itoa e

/-- What a line answers. -/
def lineM (A : Bk → List UInt8 → List UInt8 × Int) (D : Dk) (x : List UInt8) : List UInt8 × Dk := match parseM x with
  | none => (errT 100, D)
  | some c => (if (doM A D c).1.2 = 0 then (doM A D c).1.1 else errT (doM A D c).1.2, (doM A D c).2)

def playR (A : Bk → List UInt8 → List UInt8 × Int) (ls : List (List UInt8)) (D : Dk) : List (List UInt8) × Dk :=
  ls.foldl (fun s x => (s.1 ++ [(lineM A s.2 x).1], (lineM A s.2 x).2)) ([], D)

theorem playR_snoc (A : Bk → List UInt8 → List UInt8 × Int) (ls : List (List UInt8)) (x : List UInt8) (D : Dk) :
    playR A (ls ++ [x]) D = ((playR A ls D).1 ++ [(lineM A (playR A ls D).2 x).1], (lineM A (playR A ls D).2 x).2) := by
  unfold playR; rw [List.foldl_append]; rfl

theorem playR_len (A : Bk → List UInt8 → List UInt8 × Int) (D : Dk) : ∀ ls : List (List UInt8), (playR A ls D).1.length = ls.length := by
  intro ls
  suffices h : ∀ (ls : List (List UInt8)) (s : List (List UInt8) × Dk), (ls.foldl (fun s x => (s.1 ++ [(lineM A s.2 x).1], (lineM A s.2 x).2)) s).1.length = s.1.length + ls.length by
    have := h ls ([], D); simpa [playR] using this
  intro ls
  induction ls with
  | nil => intro s; rfl
  | cons x r ih => intro s; rw [List.foldl_cons, ih]; simp; omega

def Dk.new : Dk := ⟨{ Mem.new with opened := 1 }, ⟨0, 1, []⟩⟩

theorem open_new : Mem.new.open_ = (some ⟨0, 1, []⟩, 0, { Mem.new with opened := 1 }) := by rfl

theorem dkOk_new : DkOk Dk.new := ⟨ok_opened Ok.new 1, ⟨by simp [Dk.new], fun x hx => by simp [Dk.new] at hx⟩⟩

/-- What a script answers. -/
def playM (A : Bk → List UInt8 → List UInt8 × Int) (ls : List (List UInt8)) : List (List UInt8) := (playR A ls Dk.new).1

theorem askW {x w0 : List UInt8} {r : List (List UInt8)} {s : List UInt8} (h : parseW x w0 r = some (.ask s)) : s = x := by
  unfold parseW at h
  split at h
  · split at h
    · cases h
    · injection h with h; injection h
  split at h
  · split at h
    · cases h
    · injection h with h; injection h
  split at h
  · split at h
    · injection h with h; injection h
    · cases h
  split at h
  · split at h
    · injection h with h; injection h
    · cases h
  split at h
  · injection h with h; injection h
  split at h
  · injection h with h; injection h
  · injection h with h; injection h with h; exact h.symm

theorem ask_line {x s : List UInt8} (h : parseM x = some (.ask s)) : s = x := by
  unfold parseM at h
  split at h
  · cases h
  · exact askW h

/-- An error's number is small. -/
def Sm (e : Int) : Prop := 0 ≤ e ∧ e ≤ 1000

theorem sm_done {M : Mem} {r : Bool} {f : Mem → Mem} : Sm (M.done r f).1 := by
  unfold Mem.done Sm
  split
  · split
    · unfold Mem.step; split <;> simp
    · simp
  · simp
theorem sm_owrite {o : Ord} (h : Sm o.1) (c n : Int) : Sm (Ord.write o c n).1 := by unfold Ord.write; split; exact sm_done; exact h
theorem sm_oflush {o : Ord} (h : Sm o.1) (c : Int) : Sm (Ord.flush o c).1 := by unfold Ord.flush; split; exact sm_done; exact h
theorem sm_ofence {o : Ord} (h : Sm o.1) : Sm (Ord.fence o).1 := by unfold Ord.fence; split; exact sm_done; exact h
theorem sm_put {o : Ord} (h : Sm o.1) (c n : Int) : Sm (Ord.put o c n).1 := sm_ofence (sm_oflush (sm_owrite h c n) c)
theorem sm_zero : Sm 0 := by simp [Sm]
theorem sm_asked {M : Mem} {b : Bk} {n : Int} : Sm (askedB M b n) := by unfold askedB Sm; split; simp; split <;> simp
theorem sm_add {M : Mem} {b : Bk} {n : Int} : Sm (M.add b n).1 := by
  unfold Mem.add
  split
  · split
    · simp [Sm]
    · exact sm_put (sm_put (o := (0, M)) sm_zero _ _) _ _
  · exact sm_asked
theorem sm_change {M : Mem} {b : Bk} {i n : Int} : Sm (M.change b i n).1 := by
  unfold Mem.change
  split
  · split
    · exact sm_put (sm_put (sm_put (sm_ofence (sm_oflush (sm_oflush (sm_owrite (sm_owrite (o := (0, M)) sm_zero _ _) _ _) _) _)) _ _) _ _) _ _
    · simp [Sm]
  · exact sm_asked
theorem sm_open {M : Mem} : Sm M.open_.2.1 := by
  unfold Mem.open_
  split
  · simp [Sm]
  · dsimp only
    split
    · exact sm_zero
    · have h1 : Sm (undo M.start).1 := by unfold undo; split; exact sm_put (o := (0, M.start)) sm_zero _ _; exact sm_zero
      unfold unnote
      split
      · exact h1
      · exact sm_put h1 _ _
theorem sm_planned {M : Mem} {k : Int} {l : List Int} : Sm (M.planned k l).1 := by unfold Mem.planned Sm; split; split <;> simp; simp
theorem sm_crash {M : Mem} {l : List Int} : Sm (M.crash l).1 := by unfold Mem.crash Sm; split; split <;> simp; simp
theorem sm_ok {e : Int} (h : Sm e) : Sm (okM e).2 := by unfold okM; split; exact sm_zero; exact h
theorem sm_do {A : Bk → List UInt8 → List UInt8 × Int} {D : Dk} (c : Cmd) (hA : ∀ s, c = .ask s → Sm (A D.b s).2) : Sm (doM A D c).1.2 := by
  cases c with
  | add n => exact sm_ok sm_add
  | change i n => exact sm_ok sm_change
  | fail k l => exact sm_ok sm_planned
  | crash l => exact sm_ok sm_crash
  | open_ => exact sm_ok sm_open
  | list => exact sm_zero
  | ask s => exact hA s rfl

theorem size_play (A : Bk → List UInt8 → List UInt8 × Int) (D : Dk) (x : List UInt8) : (lineM A D x).2.M.size ≤ D.M.size + 14 := by
  unfold lineM
  cases parseM x with
  | none => exact Nat.le_add_right _ _
  | some c => exact size_do D c
theorem dkOk_line {A : Bk → List UInt8 → List UInt8 × Int} {D : Dk} (h : DkOk D) (x : List UInt8) : DkOk (lineM A D x).2 := by
  unfold lineM
  cases parseM x with
  | none => exact h
  | some c => exact dkOk_do h c

end Go.Lin.Kp
namespace Go.Proofs.YtmohnddglmolgaaGreatDoor
open Go Go.RowKit Go.Lin Go.Lin.Kp

theorem bytes_append (l m : List UInt8) : (⟨l.toArray⟩ : ByteArray) ++ ⟨m.toArray⟩ = ⟨(l ++ m).toArray⟩ := by
  apply ByteArray.ext; simp

/-- Texts as cells. -/
def cellsT (l : List (List UInt8)) : List Value := l.map fun x => .string ⟨x.toArray⟩

/-- The answers so far, then errors. -/
def outCells (ans : List (List UInt8)) (k : Nat) : List Value := cellsT ans ++ List.replicate k (.string ⟨(errT 100).toArray⟩)

theorem out_len (ans : List (List UInt8)) (k : Nat) : (outCells ans k).length = ans.length + k := by simp [outCells, cellsT]
theorem out_set (ans : List (List UInt8)) (k : Nat) (x : List UInt8) : (outCells ans (k + 1)).set ans.length (.string ⟨x.toArray⟩) = outCells (ans ++ [x]) k := by
  unfold outCells cellsT
  rw [List.set_append_right _ _ (by simp)]
  simp [List.replicate_succ]
theorem out_skip (ans : List (List UInt8)) (k : Nat) : outCells ans (k + 1) = outCells (ans ++ [errT 100]) k := by
  unfold outCells cellsT
  simp [List.replicate_succ]

theorem line_cell {w : World} {b off : Nat} {ws : List ByteArray} {i : Nat} (hi : i < ws.length) (h : w.cell? ⟨b, off + i, none⟩ = some (.string (ws.getD i ByteArray.empty))) : w.cell? ⟨b, off + i, none⟩ = some (.string ws[i]) := by
  rw [h, List.getD_eq_getElem?_getD, List.getElem?_eq_getElem hi]; rfl
theorem assert_141 (x : Array Value) (W : World) : (Instr.typeAssert (.iface 141 (.agg x)) 109 109 true).run Tryz.prog W = .ok (.tuple #[.iface 141 (.agg x), .bool true]) W := by kernel_rfl
theorem assert_143 (x : Array Value) (W : World) : (Instr.typeAssert (.iface 143 (.agg x)) 109 109 true).run Tryz.prog W = .ok (.tuple #[.iface 143 (.agg x), .bool true]) W := by kernel_rfl
theorem assert_146 (x : Array Value) (W : World) : (Instr.typeAssert (.iface 146 (.agg x)) 109 109 true).run Tryz.prog W = .ok (.tuple #[.iface 146 (.agg x), .bool true]) W := by kernel_rfl
theorem assert_148 (x : Array Value) (W : World) : (Instr.typeAssert (.iface 148 (.agg x)) 109 109 true).run Tryz.prog W = .ok (.tuple #[.iface 148 (.agg x), .bool true]) W := by kernel_rfl
theorem assert_150 (x : Array Value) (W : World) : (Instr.typeAssert (.iface 150 (.agg x)) 109 109 true).run Tryz.prog W = .ok (.tuple #[.iface 150 (.agg x), .bool true]) W := by kernel_rfl
theorem assert_151 (x : Array Value) (W : World) : (Instr.typeAssert (.iface 151 (.agg x)) 109 109 true).run Tryz.prog W = .ok (.tuple #[.iface 151 (.agg x), .bool true]) W := by kernel_rfl
theorem assert_152 (x : ByteArray) (W : World) : (Instr.typeAssert (.iface 152 (.string x)) 109 109 true).run Tryz.prog W = .ok (.tuple #[.iface 152 (.string x), .bool true]) W := by kernel_rfl
theorem assert_nil (W : World) : (Instr.typeAssert .nilIface 109 109 true).run Tryz.prog W = .ok (.tuple #[.nilIface, .bool false]) W := by kernel_rfl

theorem grew_b {a b c : World} (h : Grew a b) (k : Below a.heap.size b c) : Grew a c := h.trans k

/-- What holds at the head of Play's loop. -/
structure PlayAt (w wr : World) (bd bm bo : Nat) (D : Dk) (bb : Nat) (F G : Nat → Prop) (out : List Value) : Prop where
  grew : Grew w wr
  desk : DeskIs wr bd bm bb D F G
  out : wr.heap[bo]? = some (.cells out.toArray 9 (0, 0))
  low : w.heap.size ≤ bd ∧ w.heap.size ≤ bo ∧ bd ≠ bo
  F : ∀ k, F k → w.heap.size ≤ k ∧ k ≠ bo
  G : ∀ k, G k → w.heap.size ≤ k ∧ k ≠ bo

theorem PlayAt.grown {w wr w' : World} {bd bm bo : Nat} {D : Dk} {bb : Nat} {F G : Nat → Prop} {out : List Value} (h : PlayAt w wr bd bm bo D bb F G out) (hg : Grew wr w') : PlayAt w w' bd bm bo D bb F G out :=
  ⟨grew_trans h.grew hg, h.desk.grew hg, (hg.block _ (lt_of_obj h.out)).trans h.out, h.low, h.F, h.G⟩

theorem PlayAt.cell {w wr : World} {bd bm bo : Nat} {D : Dk} {bb : Nat} {F G : Nat → Prop} {ans : List (List UInt8)} {j n : Nat} (h : PlayAt w wr bd bm bo D bb F G (outCells ans (n - j))) (hl : ans.length = j) (hj : j < n) : wr.cell? ⟨bo, j, none⟩ = some (.string ⟨(errT 100).toArray⟩) ∧ wr.frozen? ⟨bo, j, none⟩ = false := by
  refine ⟨?_, frozen_of_row wr bo j _ _ h.out⟩
  rw [cell_of_row wr bo j _ _ _ h.out]
  unfold outCells
  obtain ⟨k, hk⟩ : ∃ k, n - j = k + 1 := ⟨n - j - 1, by omega⟩
  rw [hk]
  simp [cellsT, hl, List.replicate_succ]

/-- Behind a command. -/
theorem PlayAt.done {w wr w' : World} {bd bm bo : Nat} {D D' : Dk} {bb bb' : Nat} {F G F' G' : Nat → Prop} {out : List Value} (h : PlayAt w wr bd bm bo D bb F G out) (hd : DeskIs w' bd bm bb' D' F' G') (hF : Wider wr F F') (hG : Wider wr G G') (hk : Keeps (fun k _ => F k ∨ G k ∨ k = bd) wr w') :
    PlayAt w w' bd bm bo D' bb' F' G' out := by
  have hbo := lt_of_obj h.out
  have hz := h.grew.size
  refine ⟨grew_b h.grew (hk.below hz (fun k o e => ?_)), hd, hk.obj _ _ h.out (fun e => ?_), h.low, fun k e => ?_, fun k e => ?_⟩
  · rcases e with e | e | e
    · exact (h.F k e).1
    · exact (h.G k e).1
    · rw [e]; exact h.low.1
  · rcases e with e | e | e
    · exact (h.F _ e).2 rfl
    · exact (h.G _ e).2 rfl
    · exact h.low.2.2 e.symm
  · rcases hF k e with e | e
    · exact h.F k e
    · exact ⟨by omega, by omega⟩
  · rcases hG k e with e | e
    · exact h.G k e
    · exact ⟨by omega, by omega⟩

/-- An answer is stored. -/
theorem PlayAt.store {w wr : World} {bd bm bo : Nat} {D : Dk} {bb : Nat} {F G : Nat → Prop} {out : List Value} (h : PlayAt w wr bd bm bo D bb F G out) (i : Nat) (v : Value) :
    PlayAt w (wr.setCell ⟨bo, i, none⟩ v) bd bm bo D bb F G (out.set i v) := by
  have hk : Keeps (fun k _ => k = bo) wr (wr.setCell ⟨bo, i, none⟩ v) := keeps_set1 _ _ (fun _ => rfl)
  refine ⟨grew_b h.grew (hk.below h.grew.size (fun k o e => by rw [e]; exact h.low.2.1)), ⟨hk.obj _ _ h.desk.obj h.low.2.2, h.desk.mem.keeps hk (fun k _ e => (h.F k e).2), h.desk.book.keeps hk (fun k _ e => (h.G k e).2), h.desk.dF, h.desk.dG, h.desk.disj⟩, ?_, h.low, h.F, h.G⟩
  rw [heap_setCell_same wr bo i _ _ _ h.out]
  simp

set_option maxHeartbeats 8000000 in
set_option maxRecDepth 20000 in
theorem play13_any (A : Bk → List UInt8 → List UInt8 × Int) (v : Value) (ls : List ByteArray) (w : World) (hv : IsWds Any w v ls) (hn : ls.length ≤ 100) (hs : ∀ x ∈ ls, x.size ≤ 10000) (hL : Lay w)
    (hA : (∃ x ∈ ls, ∃ s, parseM x.data.toList = some (.ask s)) → AskOk A ∧ ∀ b s, Sm (A b s).2) :
    Calls Tryz.prog 13 #[v] w fun e w' => ∃ b, e = .returned (.tuple #[.slice (some ⟨b, 0, none⟩) ls.length ls.length, .int .i64 0]) ∧ Grew w w' ∧ w'.heap[b]? = some (.cells (cellsT (playM A (bytesOf ls))).toArray 9 (0, 0)) ∧ w.heap.size ≤ b := by
  obtain ⟨a, cap, rfl, hm, hc⟩ := hv
  have HC := hid hc; have HS := hid hs; have HLA := hid hL; have HAA := hid hA
  clear hc hs hL hA
  obtain ⟨n, hnn⟩ : ∃ n, ls.length = n := ⟨_, rfl⟩
  rw [hnn] at HC hm hn ⊢
  have HN := hid hnn
  clear hnn
  have HNEW := hid (fun W => new17_any W)
  have HOPEN := hid (fun (W : World) (bm : Nat) (F : Nat → Prop) (h : IsMem W bm Mem.new F) => (by have := open41_mem bm Mem.new F W h Ok.new (by decide); rw [open_new] at this; exact this : Calls Tryz.prog 41 #[ptr bm] W (OpenLeft W bm F (some ⟨0, 1, []⟩, 0, { Mem.new with opened := 1 }))))
  have HIT := hid (fun (e : Int) (he : 0 ≤ e ∧ e ≤ 1000) (W : World) (h : Grew w W) => itoa47_any e (by omega) (by omega) W (HLA.out.grew h))
  have hadd : ∀ (e : Int), 0 ≤ e ∧ e ≤ 1000 → ∀ W, (Op.stringOp .add ⟨#[101, 114, 114, 111, 114, 32]⟩ ⟨(Lib.itoa e).toArray⟩).run Tryz.prog W = .ok (.string ⟨(errT e).toArray⟩) W := by
    intro e he W
    have h2 := Lib.itoa_length_le e (by omega) (by omega)
    have h3 : (⟨(Lib.itoa e).toArray⟩ : ByteArray).size = (Lib.itoa e).length := by simp [ByteArray.size]
    have h4 : (⟨#[101, 114, 114, 111, 114, 32]⟩ : ByteArray).size = 6 := rfl
    rw [run_string_add_sum (P := Tryz.prog) W _ _ (by rw [h3, h4]; omega)]
    exact congrArg (fun z => Result.ok (Value.string z) W) (bytes_append [101, 114, 114, 111, 114, 32] (Lib.itoa e))
  have HADD := hid hadd
  have ha100 := hadd 100 (by omega)
  have hn100 : decide (100 < (n : Int)) = false := by simp; omega
  clear hadd
  obtain ⟨t100, ht⟩ : ∃ t : ByteArray, ⟨(errT 100).toArray⟩ = t := ⟨_, rfl⟩
  rw [ht] at ha100
  have HT := hid ht
  have HREP := hid (fun (bx : Nat) (W : World) (h : W.cell? ⟨bx, 0, none⟩ = some (.string t100)) => repeat46_any t100 bx n (by omega) W h)
  clear ht
  go_enter Tryz.func13, Tryz.ntmps13
  go_wp2_with (first
    | (go_at_call 17; (with_reducible refine (HNEW.out _).mono ?_); rintro e w1 ⟨rfl, hm1, hg1⟩; have HM1 := hid hm1; have HG1 := hid hg1; clear hm1 hg1)
    | (go_at_call 41; (with_reducible refine (HOPEN.out _ _ _ HM1.out).mono ?_); rintro e w2 ⟨hm2, hk2, bb, G, rfl, hb2, hG2⟩; have HM2 := hid hm2; have HK2 := hid hk2; have HB2 := hid hb2; have HGL := hid hG2; have hgA : Grew w w2 := grew_b HG1.out (hk2.below HG1.out.size (fun k o e => by rcases e with rfl | rfl <;> omega)); clear hm2 hk2 hb2 hG2)
    | (go_at_call 47; (with_reducible refine (HIT.out 100 (by omega) _ (grew_trans hgA (grew_alloc (grew_refl _) _))).mono ?_); rintro e w4 ⟨rfl, hg4⟩; have HG4 := hid hg4; clear hg4)
    | (go_at_call 46; (with_reducible refine (HREP.out _ _ (one_new _ _ _)).mono ?_); rintro e w6 ⟨rfl, hg6, ho6⟩; have HG6 := hid hg6; have HO6 := hid ho6; clear hg6 ho6))
  have hP0 : PlayAt w w6 w2.heap.size (w.heap.size + 1) (w4.heap.size + 1) Dk.new bb (fun k => k = w.heap.size ∨ k = w.heap.size + 1) G (outCells [] n) := by
    have hg2s := hgA.size
    have hgB := grew_trans HG4.out (grew_trans (grew_alloc (grew_refl w4) (.cells #[.string t100] 9)) HG6.out)
    have hs4 := HG4.out.size
    rw [World.size_alloc] at hs4
    have hw1 := HG1.out.size
    have hm1 := HM1.out.lt
    have hbk := HB2.out
    have hk1 := HK2.out.size
    have hGlt : ∀ k, G k → k < w2.heap.size := by obtain ⟨_, hb⟩ := hbk; exact hb.lt
    refine ⟨grew_trans hgA (grew_trans (grew_alloc (grew_refl w2) _) hgB), ⟨?_, ?_, ?_, ?_, ?_, ?_⟩, ?_, ⟨by omega, by omega, by omega⟩, ?_, ?_⟩
    · exact (hgB.block _ (by rw [World.size_alloc]; omega)).trans (heap_alloc_new _ _)
    · exact HM2.out.grew (grew_trans (grew_alloc (grew_refl w2) _) hgB)
    · exact HB2.out.grew (grew_trans (grew_alloc (grew_refl w2) _) hgB)
    · rintro (e | e) <;> omega
    · intro e; have := hGlt _ e; omega
    · rintro k (e | e) hG <;> (have := HGL.out k hG; omega)
    · have h := HO6.out
      rw [World.size_alloc] at h
      rw [h]
      unfold outCells cellsT
      rw [HT.out]
      simp
    · rintro k (e | e) <;> exact ⟨by omega, by omega⟩
    · intro k e; have := HGL.out k e; have := hGlt k e; exact ⟨by omega, by omega⟩
  have HP0 := hid hP0
  obtain ⟨bd, hbd⟩ : ∃ x, w2.heap.size = x := ⟨_, rfl⟩
  obtain ⟨bo, hbo⟩ : ∃ x, w4.heap.size + 1 = x := ⟨_, rfl⟩
  obtain ⟨bm, hbm⟩ : ∃ x, w.heap.size + 1 = x := ⟨_, rfl⟩
  rw [hbd, hbo, hbm] at HP0
  rw [hbd, hbo, hbm]
  clear hP0 hbd hbo HG4 HG6 HO6 HM1 HG1 HM2 HK2 HB2 HGL hgA HREP HNEW HOPEN ha100 hn100
  go_loopg [9, 10, 11, 12, 13, 14, 39] n (fun gk _ _ _ _ _ _ iv wr => ∃ (j : Nat) (ans : List (List UInt8)) (D : Dk) (bb : Nat) (F G : Nat → Prop), j ≤ n ∧ iv = .int .i64 (j : Int) ∧ Hid (gk = n - j) ∧ Hid (playR A ((bytesOf ls).take j) Dk.new = (ans, D)) ∧ Hid (DkOk D) ∧ Hid (D.M.size ≤ 100 + 14 * j) ∧ Hid (PlayAt w wr bd bm bo D bb F G (outCells ans (n - j))))
  case atStart => exact ⟨0, [], Dk.new, bb, _, G, Nat.zero_le _, rfl, hid rfl, hid rfl, hid dkOk_new, hid (by decide), HP0⟩
  case round =>
    obtain ⟨j, ans, D, bb, F, G, hj, rfl, HGK, HPL, HOK, HSZ, HP⟩ := hrel
    rename World => wr
    by_cases hlt : j < n
    · obtain ⟨b, off, o, rfl, hb, _, hcj⟩ := HC.out j hlt
      have hjl : j < ls.length := by rw [HN.out]; exact hlt
      have hcj0 := (HP.out.grew.cell (p := ⟨b, off + j, none⟩) (lt_of_obj hb)).trans (line_cell hjl hcj)
      obtain ⟨x, hx⟩ : ∃ x, ls[j] = x := ⟨_, rfl⟩
      have hxm : x ∈ ls := by rw [← hx]; exact List.getElem_mem hjl
      rw [hx] at hcj0
      have HPAR := hid (parse48_any x wr (HS.out x hxm) (HLA.out.grew HP.out.grew))
      have hla : ans.length = j := by
        have := playR_len A Dk.new ((bytesOf ls).take j)
        rw [HPL.out, List.length_take, List.length_map] at this
        simp only at this; omega
      have hsn : playR A ((bytesOf ls).take (j + 1)) Dk.new = (ans ++ [(lineM A D x.data.toList).1], (lineM A D x.data.toList).2) := by
        have hjb : j < (bytesOf ls).length := by rw [List.length_map]; exact hjl
        rw [List.take_add_one, List.getElem?_eq_getElem hjb, Option.toList_some, playR_snoc, HPL.out]
        simp [hx]
      have hok' := dkOk_line HOK.out (A := A) x.data.toList
      have hsz' := size_play A D x.data.toList
      have hk1 : n - j = (n - (j + 1)) + 1 := by omega
      have HSN := hid hsn; have HOK' := hid hok'; have HSZ' := hid hsz'; have HLA' := hid hla; have HK1 := hid hk1
      have HXM := hid hxm
      clear hsn hok' hsz' hla hk1 hcj hx hxm hb
      cases hp : parseM x.data.toList with
      | none =>
        have HLM := hid (show lineM A D x.data.toList = (errT 100, D) by unfold lineM; rw [hp])
        rw [hp] at HPAR
        have hty := assert_nil
        clear hp
        go_wp2_with (go_at_call 48; (with_reducible refine HPAR.out.mono ?_); rintro e w1 ⟨hg, rfl⟩; have HG1 := hid hg; clear hg)
        go_roundg (n - (j + 1))
        case measure => have := HGK.out; omega
        case rel => exact ⟨j + 1, ans ++ [errT 100], D, bb, F, G, by omega, by go_num, hid rfl, hid (by rw [HSN.out, HLM.out]), HOK, hid (by have := HSZ.out; omega), hid (by have := HP.out.grown HG1.out; rw [HK1.out, out_skip] at this; exact this)⟩
      | some c =>
        have hdo : lineM A D x.data.toList = (if (doM A D c).1.2 = 0 then (doM A D c).1.1 else errT (doM A D c).1.2, (doM A D c).2) := by unfold lineM; rw [hp]
        have hsm : Sm (doM A D c).1.2 := sm_do c (fun s hs => (HAA.out ⟨x, HXM.out, s, hp.trans (congrArg some hs)⟩).2 _ _)
        have hask : ∀ s, c = .ask s → AskOk A := fun s hs => (HAA.out ⟨x, HXM.out, s, hp.trans (congrArg some hs)⟩).1
        have hlen : ∀ s, c = .ask s → s.length ≤ 10000 := fun s hs => (by have h1 := ask_line (hp.trans (congrArg some hs)); rw [h1]; exact HS.out x HXM.out)
        rw [hp] at HPAR
        rw [hdo] at HSN HOK' HSZ'
        have HASK := hid hask; have HLEN := hid hlen
        clear hp hdo hask hlen
        cases c with
        | add m =>
          have HSM := hid (show D.M.size + 20 < 1000000000 by have := HSZ.out; omega)
          have HDO := hid (fun (W : World) (h : DeskIs W bd bm bb D F G) (hg : Grew w W) => add228_any A bd bm bb D F G m W h HOK.out HSM.out)
          obtain ⟨⟨⟨rt, er⟩, D'⟩, hr⟩ : ∃ r, doM A D (.add m) = r := ⟨_, rfl⟩
          rw [hr] at HDO HSN HOK' HSZ' hsm
          have HE := hid hsm
          have HADE := hid (HADD.out er hsm)
          have HITE := hid (HIT.out er hsm)
          clear hr hsm
          have hty := assert_141
          by_cases h0 : er = 0
          · subst h0
            rw [if_pos rfl] at HSN
            go_wp2_with (first
              | (go_at_call 48; (with_reducible refine HPAR.out.mono ?_); rintro e w1 ⟨hg, v, rfl, rfl⟩; have HG1 := hid hg; clear hg)
              | (go_at_call 228; (with_reducible refine (HDO.out _ (HP.out.grown HG1.out).desk (grew_trans HP.out.grew HG1.out)).mono ?_); rintro e w2 ⟨rfl, ⟨bb', F', G', hd, hF, hG⟩, hk⟩; have hp2 := (HP.out.grown HG1.out).done hd hF hG hk; have HP2 := hid hp2; obtain ⟨d2, f2⟩ := hp2.cell HLA'.out hlt; clear hd hF hG hk hp2))
            go_roundg (n - (j + 1))
            case measure => have := HGK.out; omega
            case rel => exact ⟨j + 1, ans ++ [rt], D', bb', F', G', by omega, by go_num, hid rfl, HSN, HOK', hid (by have := HSZ.out; have h2 := HSZ'.out; change D'.M.size ≤ _ at h2; omega), hid (by have := HP2.out.store j (.string ⟨rt.toArray⟩); rw [HK1.out] at this; rw [← HLA'.out, out_set] at this; rw [HLA'.out] at this; exact this)⟩
          · have hne : (er != 0) = true := by rw [bne_iff_ne]; exact h0
            rw [if_neg h0] at HSN
            have hadd := HADE.out
            clear h0
            go_wp2_with (first
              | (go_at_call 48; (with_reducible refine HPAR.out.mono ?_); rintro e w1 ⟨hg, v, rfl, rfl⟩; have HG1 := hid hg; clear hg)
              | (go_at_call 228; (with_reducible refine (HDO.out _ (HP.out.grown HG1.out).desk (grew_trans HP.out.grew HG1.out)).mono ?_); rintro e w2 ⟨rfl, ⟨bb', F', G', hd, hF, hG⟩, hk⟩; have hp2 := (HP.out.grown HG1.out).done hd hF hG hk; have HP2 := hid hp2; obtain ⟨d2, f2⟩ := hp2.cell HLA'.out hlt; clear hd hF hG hk hp2)
              | (go_at_call 47; (with_reducible refine (HITE.out _ HP2.out.grew).mono ?_); rintro e w3 ⟨rfl, hg3⟩; have hp3 := HP2.out.grown hg3; have HP3 := hid hp3; obtain ⟨d3, f3⟩ := hp3.cell HLA'.out hlt; clear hg3 hp3))
            go_roundg (n - (j + 1))
            case measure => have := HGK.out; omega
            case rel => exact ⟨j + 1, ans ++ [(errT er)], D', bb', F', G', by omega, by go_num, hid rfl, HSN, HOK', hid (by have := HSZ.out; have h2 := HSZ'.out; change D'.M.size ≤ _ at h2; omega), hid (by have := HP3.out.store j (.string ⟨(errT er).toArray⟩); rw [HK1.out] at this; rw [← HLA'.out, out_set] at this; rw [HLA'.out] at this; exact this)⟩
        | change i m =>
          have HSM := hid (show D.M.size + 20 < 1000000000 by have := HSZ.out; omega)
          have HDO := hid (fun (W : World) (h : DeskIs W bd bm bb D F G) (hg : Grew w W) => change230_any A bd bm bb D F G i m W h HOK.out HSM.out)
          obtain ⟨⟨⟨rt, er⟩, D'⟩, hr⟩ : ∃ r, doM A D (.change i m) = r := ⟨_, rfl⟩
          rw [hr] at HDO HSN HOK' HSZ' hsm
          have HE := hid hsm
          have HADE := hid (HADD.out er hsm)
          have HITE := hid (HIT.out er hsm)
          clear hr hsm
          have hty := assert_143
          by_cases h0 : er = 0
          · subst h0
            rw [if_pos rfl] at HSN
            go_wp2_with (first
              | (go_at_call 48; (with_reducible refine HPAR.out.mono ?_); rintro e w1 ⟨hg, v, rfl, rfl⟩; have HG1 := hid hg; clear hg)
              | (go_at_call 230; (with_reducible refine (HDO.out _ (HP.out.grown HG1.out).desk (grew_trans HP.out.grew HG1.out)).mono ?_); rintro e w2 ⟨rfl, ⟨bb', F', G', hd, hF, hG⟩, hk⟩; have hp2 := (HP.out.grown HG1.out).done hd hF hG hk; have HP2 := hid hp2; obtain ⟨d2, f2⟩ := hp2.cell HLA'.out hlt; clear hd hF hG hk hp2))
            go_roundg (n - (j + 1))
            case measure => have := HGK.out; omega
            case rel => exact ⟨j + 1, ans ++ [rt], D', bb', F', G', by omega, by go_num, hid rfl, HSN, HOK', hid (by have := HSZ.out; have h2 := HSZ'.out; change D'.M.size ≤ _ at h2; omega), hid (by have := HP2.out.store j (.string ⟨rt.toArray⟩); rw [HK1.out] at this; rw [← HLA'.out, out_set] at this; rw [HLA'.out] at this; exact this)⟩
          · have hne : (er != 0) = true := by rw [bne_iff_ne]; exact h0
            rw [if_neg h0] at HSN
            have hadd := HADE.out
            clear h0
            go_wp2_with (first
              | (go_at_call 48; (with_reducible refine HPAR.out.mono ?_); rintro e w1 ⟨hg, v, rfl, rfl⟩; have HG1 := hid hg; clear hg)
              | (go_at_call 230; (with_reducible refine (HDO.out _ (HP.out.grown HG1.out).desk (grew_trans HP.out.grew HG1.out)).mono ?_); rintro e w2 ⟨rfl, ⟨bb', F', G', hd, hF, hG⟩, hk⟩; have hp2 := (HP.out.grown HG1.out).done hd hF hG hk; have HP2 := hid hp2; obtain ⟨d2, f2⟩ := hp2.cell HLA'.out hlt; clear hd hF hG hk hp2)
              | (go_at_call 47; (with_reducible refine (HITE.out _ HP2.out.grew).mono ?_); rintro e w3 ⟨rfl, hg3⟩; have hp3 := HP2.out.grown hg3; have HP3 := hid hp3; obtain ⟨d3, f3⟩ := hp3.cell HLA'.out hlt; clear hg3 hp3))
            go_roundg (n - (j + 1))
            case measure => have := HGK.out; omega
            case rel => exact ⟨j + 1, ans ++ [(errT er)], D', bb', F', G', by omega, by go_num, hid rfl, HSN, HOK', hid (by have := HSZ.out; have h2 := HSZ'.out; change D'.M.size ≤ _ at h2; omega), hid (by have := HP3.out.store j (.string ⟨(errT er).toArray⟩); rw [HK1.out] at this; rw [← HLA'.out, out_set] at this; rw [HLA'.out] at this; exact this)⟩
        | fail k l =>
          have HSM := hid (show D.M.size + 20 < 1000000000 by have := HSZ.out; omega)
          have HDO := hid (fun (W : World) (ua : Option Addr) (uc : Nat) (h : DeskIs W bd bm bb D F G) (hs : Seg W wr.heap.size 3 1 (.slice ua l.length uc) l.length (l.map (.int .i64))) => fail232_any A bd bm bb D F G k l ua uc wr.heap.size W hs h HOK.out HSM.out)
          obtain ⟨⟨⟨rt, er⟩, D'⟩, hr⟩ : ∃ r, doM A D (.fail k l) = r := ⟨_, rfl⟩
          rw [hr] at HDO HSN HOK' HSZ' hsm
          have HE := hid hsm
          have HADE := hid (HADD.out er hsm)
          have HITE := hid (HIT.out er hsm)
          clear hr hsm
          have hty := assert_148
          by_cases h0 : er = 0
          · subst h0
            rw [if_pos rfl] at HSN
            go_wp2_with (first
              | (go_at_call 48; (with_reducible refine HPAR.out.mono ?_); rintro e w1 ⟨hg, v, rfl, u, rfl, hs⟩; obtain ⟨ua, uc, rfl, _⟩ := hs.shape; have HS1 := hid hs; clear hs; have HG1 := hid hg; clear hg)
              | (go_at_call 232; (with_reducible refine (HDO.out _ _ _ (HP.out.grown HG1.out).desk HS1.out).mono ?_); rintro e w2 ⟨rfl, ⟨bb', F', G', hd, hF, hG⟩, hk⟩; have hp2 := (HP.out.grown HG1.out).done hd hF hG hk; have HP2 := hid hp2; obtain ⟨d2, f2⟩ := hp2.cell HLA'.out hlt; clear hd hF hG hk hp2))
            go_roundg (n - (j + 1))
            case measure => have := HGK.out; omega
            case rel => exact ⟨j + 1, ans ++ [rt], D', bb', F', G', by omega, by go_num, hid rfl, HSN, HOK', hid (by have := HSZ.out; have h2 := HSZ'.out; change D'.M.size ≤ _ at h2; omega), hid (by have := HP2.out.store j (.string ⟨rt.toArray⟩); rw [HK1.out] at this; rw [← HLA'.out, out_set] at this; rw [HLA'.out] at this; exact this)⟩
          · have hne : (er != 0) = true := by rw [bne_iff_ne]; exact h0
            rw [if_neg h0] at HSN
            have hadd := HADE.out
            clear h0
            go_wp2_with (first
              | (go_at_call 48; (with_reducible refine HPAR.out.mono ?_); rintro e w1 ⟨hg, v, rfl, u, rfl, hs⟩; obtain ⟨ua, uc, rfl, _⟩ := hs.shape; have HS1 := hid hs; clear hs; have HG1 := hid hg; clear hg)
              | (go_at_call 232; (with_reducible refine (HDO.out _ _ _ (HP.out.grown HG1.out).desk HS1.out).mono ?_); rintro e w2 ⟨rfl, ⟨bb', F', G', hd, hF, hG⟩, hk⟩; have hp2 := (HP.out.grown HG1.out).done hd hF hG hk; have HP2 := hid hp2; obtain ⟨d2, f2⟩ := hp2.cell HLA'.out hlt; clear hd hF hG hk hp2)
              | (go_at_call 47; (with_reducible refine (HITE.out _ HP2.out.grew).mono ?_); rintro e w3 ⟨rfl, hg3⟩; have hp3 := HP2.out.grown hg3; have HP3 := hid hp3; obtain ⟨d3, f3⟩ := hp3.cell HLA'.out hlt; clear hg3 hp3))
            go_roundg (n - (j + 1))
            case measure => have := HGK.out; omega
            case rel => exact ⟨j + 1, ans ++ [(errT er)], D', bb', F', G', by omega, by go_num, hid rfl, HSN, HOK', hid (by have := HSZ.out; have h2 := HSZ'.out; change D'.M.size ≤ _ at h2; omega), hid (by have := HP3.out.store j (.string ⟨(errT er).toArray⟩); rw [HK1.out] at this; rw [← HLA'.out, out_set] at this; rw [HLA'.out] at this; exact this)⟩
        | crash l =>
          have HSM := hid (show D.M.size + 20 < 1000000000 by have := HSZ.out; omega)
          have HDO := hid (fun (W : World) (ua : Option Addr) (uc : Nat) (h : DeskIs W bd bm bb D F G) (hs : Seg W wr.heap.size 3 1 (.slice ua l.length uc) l.length (l.map (.int .i64))) => crash231_any A bd bm bb D F G l ua uc wr.heap.size W hs h HOK.out HSM.out)
          obtain ⟨⟨⟨rt, er⟩, D'⟩, hr⟩ : ∃ r, doM A D (.crash l) = r := ⟨_, rfl⟩
          rw [hr] at HDO HSN HOK' HSZ' hsm
          have HE := hid hsm
          have HADE := hid (HADD.out er hsm)
          have HITE := hid (HIT.out er hsm)
          clear hr hsm
          have hty := assert_146
          by_cases h0 : er = 0
          · subst h0
            rw [if_pos rfl] at HSN
            go_wp2_with (first
              | (go_at_call 48; (with_reducible refine HPAR.out.mono ?_); rintro e w1 ⟨hg, v, rfl, u, rfl, hs⟩; obtain ⟨ua, uc, rfl, _⟩ := hs.shape; have HS1 := hid hs; clear hs; have HG1 := hid hg; clear hg)
              | (go_at_call 231; (with_reducible refine (HDO.out _ _ _ (HP.out.grown HG1.out).desk HS1.out).mono ?_); rintro e w2 ⟨rfl, ⟨bb', F', G', hd, hF, hG⟩, hk⟩; have hp2 := (HP.out.grown HG1.out).done hd hF hG hk; have HP2 := hid hp2; obtain ⟨d2, f2⟩ := hp2.cell HLA'.out hlt; clear hd hF hG hk hp2))
            go_roundg (n - (j + 1))
            case measure => have := HGK.out; omega
            case rel => exact ⟨j + 1, ans ++ [rt], D', bb', F', G', by omega, by go_num, hid rfl, HSN, HOK', hid (by have := HSZ.out; have h2 := HSZ'.out; change D'.M.size ≤ _ at h2; omega), hid (by have := HP2.out.store j (.string ⟨rt.toArray⟩); rw [HK1.out] at this; rw [← HLA'.out, out_set] at this; rw [HLA'.out] at this; exact this)⟩
          · have hne : (er != 0) = true := by rw [bne_iff_ne]; exact h0
            rw [if_neg h0] at HSN
            have hadd := HADE.out
            clear h0
            go_wp2_with (first
              | (go_at_call 48; (with_reducible refine HPAR.out.mono ?_); rintro e w1 ⟨hg, v, rfl, u, rfl, hs⟩; obtain ⟨ua, uc, rfl, _⟩ := hs.shape; have HS1 := hid hs; clear hs; have HG1 := hid hg; clear hg)
              | (go_at_call 231; (with_reducible refine (HDO.out _ _ _ (HP.out.grown HG1.out).desk HS1.out).mono ?_); rintro e w2 ⟨rfl, ⟨bb', F', G', hd, hF, hG⟩, hk⟩; have hp2 := (HP.out.grown HG1.out).done hd hF hG hk; have HP2 := hid hp2; obtain ⟨d2, f2⟩ := hp2.cell HLA'.out hlt; clear hd hF hG hk hp2)
              | (go_at_call 47; (with_reducible refine (HITE.out _ HP2.out.grew).mono ?_); rintro e w3 ⟨rfl, hg3⟩; have hp3 := HP2.out.grown hg3; have HP3 := hid hp3; obtain ⟨d3, f3⟩ := hp3.cell HLA'.out hlt; clear hg3 hp3))
            go_roundg (n - (j + 1))
            case measure => have := HGK.out; omega
            case rel => exact ⟨j + 1, ans ++ [(errT er)], D', bb', F', G', by omega, by go_num, hid rfl, HSN, HOK', hid (by have := HSZ.out; have h2 := HSZ'.out; change D'.M.size ≤ _ at h2; omega), hid (by have := HP3.out.store j (.string ⟨(errT er).toArray⟩); rw [HK1.out] at this; rw [← HLA'.out, out_set] at this; rw [HLA'.out] at this; exact this)⟩
        | open_ =>
          have HSM := hid (show D.M.size + 20 < 1000000000 by have := HSZ.out; omega)
          have HDO := hid (fun (W : World) (h : DeskIs W bd bm bb D F G) (hg : Grew w W) => open233_any A bd bm bb D F G W h HOK.out HSM.out)
          obtain ⟨⟨⟨rt, er⟩, D'⟩, hr⟩ : ∃ r, doM A D (.open_) = r := ⟨_, rfl⟩
          rw [hr] at HDO HSN HOK' HSZ' hsm
          have HE := hid hsm
          have HADE := hid (HADD.out er hsm)
          have HITE := hid (HIT.out er hsm)
          clear hr hsm
          have hty := assert_150
          by_cases h0 : er = 0
          · subst h0
            rw [if_pos rfl] at HSN
            go_wp2_with (first
              | (go_at_call 48; (with_reducible refine HPAR.out.mono ?_); rintro e w1 ⟨hg, v, rfl, rfl⟩; have HG1 := hid hg; clear hg)
              | (go_at_call 233; (with_reducible refine (HDO.out _ (HP.out.grown HG1.out).desk (grew_trans HP.out.grew HG1.out)).mono ?_); rintro e w2 ⟨rfl, ⟨bb', F', G', hd, hF, hG⟩, hk⟩; have hp2 := (HP.out.grown HG1.out).done hd hF hG hk; have HP2 := hid hp2; obtain ⟨d2, f2⟩ := hp2.cell HLA'.out hlt; clear hd hF hG hk hp2))
            go_roundg (n - (j + 1))
            case measure => have := HGK.out; omega
            case rel => exact ⟨j + 1, ans ++ [rt], D', bb', F', G', by omega, by go_num, hid rfl, HSN, HOK', hid (by have := HSZ.out; have h2 := HSZ'.out; change D'.M.size ≤ _ at h2; omega), hid (by have := HP2.out.store j (.string ⟨rt.toArray⟩); rw [HK1.out] at this; rw [← HLA'.out, out_set] at this; rw [HLA'.out] at this; exact this)⟩
          · have hne : (er != 0) = true := by rw [bne_iff_ne]; exact h0
            rw [if_neg h0] at HSN
            have hadd := HADE.out
            clear h0
            go_wp2_with (first
              | (go_at_call 48; (with_reducible refine HPAR.out.mono ?_); rintro e w1 ⟨hg, v, rfl, rfl⟩; have HG1 := hid hg; clear hg)
              | (go_at_call 233; (with_reducible refine (HDO.out _ (HP.out.grown HG1.out).desk (grew_trans HP.out.grew HG1.out)).mono ?_); rintro e w2 ⟨rfl, ⟨bb', F', G', hd, hF, hG⟩, hk⟩; have hp2 := (HP.out.grown HG1.out).done hd hF hG hk; have HP2 := hid hp2; obtain ⟨d2, f2⟩ := hp2.cell HLA'.out hlt; clear hd hF hG hk hp2)
              | (go_at_call 47; (with_reducible refine (HITE.out _ HP2.out.grew).mono ?_); rintro e w3 ⟨rfl, hg3⟩; have hp3 := HP2.out.grown hg3; have HP3 := hid hp3; obtain ⟨d3, f3⟩ := hp3.cell HLA'.out hlt; clear hg3 hp3))
            go_roundg (n - (j + 1))
            case measure => have := HGK.out; omega
            case rel => exact ⟨j + 1, ans ++ [(errT er)], D', bb', F', G', by omega, by go_num, hid rfl, HSN, HOK', hid (by have := HSZ.out; have h2 := HSZ'.out; change D'.M.size ≤ _ at h2; omega), hid (by have := HP3.out.store j (.string ⟨(errT er).toArray⟩); rw [HK1.out] at this; rw [← HLA'.out, out_set] at this; rw [HLA'.out] at this; exact this)⟩
        | list =>
          have HSM := hid (show D.M.size + 20 < 1000000000 by have := HSZ.out; omega)
          have HDO := hid (fun (W : World) (h : DeskIs W bd bm bb D F G) (hg : Grew w W) => list234_any A bd bm bb D F G W h HOK.out (HLA.out.grew hg))
          obtain ⟨⟨⟨rt, er⟩, D'⟩, hr⟩ : ∃ r, doM A D (.list) = r := ⟨_, rfl⟩
          rw [hr] at HDO HSN HOK' HSZ' hsm
          have HE := hid hsm
          have HADE := hid (HADD.out er hsm)
          have HITE := hid (HIT.out er hsm)
          clear hr hsm
          have hty := assert_151
          by_cases h0 : er = 0
          · subst h0
            rw [if_pos rfl] at HSN
            go_wp2_with (first
              | (go_at_call 48; (with_reducible refine HPAR.out.mono ?_); rintro e w1 ⟨hg, v, rfl, rfl⟩; have HG1 := hid hg; clear hg)
              | (go_at_call 234; (with_reducible refine (HDO.out _ (HP.out.grown HG1.out).desk (grew_trans HP.out.grew HG1.out)).mono ?_); rintro e w2 ⟨rfl, ⟨bb', F', G', hd, hF, hG⟩, hk⟩; have hp2 := (HP.out.grown HG1.out).done hd hF hG hk; have HP2 := hid hp2; obtain ⟨d2, f2⟩ := hp2.cell HLA'.out hlt; clear hd hF hG hk hp2))
            go_roundg (n - (j + 1))
            case measure => have := HGK.out; omega
            case rel => exact ⟨j + 1, ans ++ [rt], D', bb', F', G', by omega, by go_num, hid rfl, HSN, HOK', hid (by have := HSZ.out; have h2 := HSZ'.out; change D'.M.size ≤ _ at h2; omega), hid (by have := HP2.out.store j (.string ⟨rt.toArray⟩); rw [HK1.out] at this; rw [← HLA'.out, out_set] at this; rw [HLA'.out] at this; exact this)⟩
          · have hne : (er != 0) = true := by rw [bne_iff_ne]; exact h0
            rw [if_neg h0] at HSN
            have hadd := HADE.out
            clear h0
            go_wp2_with (first
              | (go_at_call 48; (with_reducible refine HPAR.out.mono ?_); rintro e w1 ⟨hg, v, rfl, rfl⟩; have HG1 := hid hg; clear hg)
              | (go_at_call 234; (with_reducible refine (HDO.out _ (HP.out.grown HG1.out).desk (grew_trans HP.out.grew HG1.out)).mono ?_); rintro e w2 ⟨rfl, ⟨bb', F', G', hd, hF, hG⟩, hk⟩; have hp2 := (HP.out.grown HG1.out).done hd hF hG hk; have HP2 := hid hp2; obtain ⟨d2, f2⟩ := hp2.cell HLA'.out hlt; clear hd hF hG hk hp2)
              | (go_at_call 47; (with_reducible refine (HITE.out _ HP2.out.grew).mono ?_); rintro e w3 ⟨rfl, hg3⟩; have hp3 := HP2.out.grown hg3; have HP3 := hid hp3; obtain ⟨d3, f3⟩ := hp3.cell HLA'.out hlt; clear hg3 hp3))
            go_roundg (n - (j + 1))
            case measure => have := HGK.out; omega
            case rel => exact ⟨j + 1, ans ++ [(errT er)], D', bb', F', G', by omega, by go_num, hid rfl, HSN, HOK', hid (by have := HSZ.out; have h2 := HSZ'.out; change D'.M.size ≤ _ at h2; omega), hid (by have := HP3.out.store j (.string ⟨(errT er).toArray⟩); rw [HK1.out] at this; rw [← HLA'.out, out_set] at this; rw [HLA'.out] at this; exact this)⟩
        | ask s =>
          have HSM := hid (show D.M.size + 20 < 1000000000 by have := HSZ.out; omega)
          have hdo0 := (fun (W : World) (h : DeskIs W bd bm bb D F G) (hg : Grew w W) => ask235_any A (HASK.out s rfl) bd bm bb D F G ⟨s.toArray⟩ (HLEN.out s rfl) W h HOK.out (HLA.out.grew hg))
          have e0 : (⟨s.toArray⟩ : ByteArray).data.toList = s := by simp
          rw [e0] at hdo0
          have HDO := hid hdo0
          clear hdo0 e0
          obtain ⟨⟨⟨rt, er⟩, D'⟩, hr⟩ : ∃ r, doM A D (.ask s) = r := ⟨_, rfl⟩
          rw [hr] at HDO HSN HOK' HSZ' hsm
          have HE := hid hsm
          have HADE := hid (HADD.out er hsm)
          have HITE := hid (HIT.out er hsm)
          clear hr hsm
          have hty := assert_152
          by_cases h0 : er = 0
          · subst h0
            rw [if_pos rfl] at HSN
            go_wp2_with (first
              | (go_at_call 48; (with_reducible refine HPAR.out.mono ?_); rintro e w1 ⟨hg, v, rfl, rfl⟩; have HG1 := hid hg; clear hg)
              | (go_at_call 235; (with_reducible refine (HDO.out _ (HP.out.grown HG1.out).desk (grew_trans HP.out.grew HG1.out)).mono ?_); rintro e w2 ⟨rfl, ⟨bb', F', G', hd, hF, hG⟩, hk⟩; have hp2 := (HP.out.grown HG1.out).done hd hF hG hk; have HP2 := hid hp2; obtain ⟨d2, f2⟩ := hp2.cell HLA'.out hlt; clear hd hF hG hk hp2))
            go_roundg (n - (j + 1))
            case measure => have := HGK.out; omega
            case rel => exact ⟨j + 1, ans ++ [rt], D', bb', F', G', by omega, by go_num, hid rfl, HSN, HOK', hid (by have := HSZ.out; have h2 := HSZ'.out; change D'.M.size ≤ _ at h2; omega), hid (by have := HP2.out.store j (.string ⟨rt.toArray⟩); rw [HK1.out] at this; rw [← HLA'.out, out_set] at this; rw [HLA'.out] at this; exact this)⟩
          · have hne : (er != 0) = true := by rw [bne_iff_ne]; exact h0
            rw [if_neg h0] at HSN
            have hadd := HADE.out
            clear h0
            go_wp2_with (first
              | (go_at_call 48; (with_reducible refine HPAR.out.mono ?_); rintro e w1 ⟨hg, v, rfl, rfl⟩; have HG1 := hid hg; clear hg)
              | (go_at_call 235; (with_reducible refine (HDO.out _ (HP.out.grown HG1.out).desk (grew_trans HP.out.grew HG1.out)).mono ?_); rintro e w2 ⟨rfl, ⟨bb', F', G', hd, hF, hG⟩, hk⟩; have hp2 := (HP.out.grown HG1.out).done hd hF hG hk; have HP2 := hid hp2; obtain ⟨d2, f2⟩ := hp2.cell HLA'.out hlt; clear hd hF hG hk hp2)
              | (go_at_call 47; (with_reducible refine (HITE.out _ HP2.out.grew).mono ?_); rintro e w3 ⟨rfl, hg3⟩; have hp3 := HP2.out.grown hg3; have HP3 := hid hp3; obtain ⟨d3, f3⟩ := hp3.cell HLA'.out hlt; clear hg3 hp3))
            go_roundg (n - (j + 1))
            case measure => have := HGK.out; omega
            case rel => exact ⟨j + 1, ans ++ [(errT er)], D', bb', F', G', by omega, by go_num, hid rfl, HSN, HOK', hid (by have := HSZ.out; have h2 := HSZ'.out; change D'.M.size ≤ _ at h2; omega), hid (by have := HP3.out.store j (.string ⟨(errT er).toArray⟩); rw [HK1.out] at this; rw [← HLA'.out, out_set] at this; rw [HLA'.out] at this; exact this)⟩
    · obtain rfl : j = n := by omega
      have hpm : playM A (bytesOf ls) = ans := by
        have h := HPL.out
        rw [List.take_of_length_le (by rw [List.length_map, HN.out]; exact Nat.le_refl _)] at h
        unfold playM; rw [h]
      have HPM := hid hpm
      clear hpm
      go_wp2
      go_ret2
      refine ⟨bo, rfl, HP.out.grew, ?_, HP.out.low.2.1⟩
      have h := HP.out.out
      rw [Nat.sub_self] at h
      rw [HPM.out, h]
      unfold outCells
      simp

end Go.Proofs.YtmohnddglmolgaaGreatDoor
