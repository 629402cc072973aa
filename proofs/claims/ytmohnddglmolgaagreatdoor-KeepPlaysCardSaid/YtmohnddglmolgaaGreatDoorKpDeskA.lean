/- Plain: a desk, and what lines do with it. Walks: ok (229), what commands do (228, 230 to 234). Walks: joined (115), what commands do: open (233), list (234), ask (235). Walk: slices.Repeat (46) of one text. Walk: Play (13). Printed by gen_kpplay.py. Walks: SameInts (24), SameTexts (15). -/
import Derived.Test.YtmohnddglmolgaaGreatDoorKpParseA
import Derived.Test.YtmohnddglmolgaaGreatDoorKpOrdA
import Derived.Lib.ItoaLen
import Derived.Lib.JoinLaws
import Derived.Laws.CopyOwn
import Derived.Deep.RegionLaw
import Derived.Deep.RegionHeld3
import Derived.Handy
namespace Go.Lin.Kp
open Go Go.Lin

structure Dk where
  M : Mem
  b : Bk

def okM (e : Int) : List UInt8 × Int := if e = 0 then ([111, 107], 0) else ([], e)

/-- What holds of each book. -/
def BkOk (b : Bk) : Prop := b.list.length ≤ 20 ∧ ∀ x ∈ b.list, isNum x = true

theorem askedB_num {M : Mem} {b : Bk} {n : Int} (h : askedB M b n = 0) : isNum n = true ∧ M.on = true := by
  unfold askedB at h
  split at h
  · cases h
  · rename_i h1
    split at h
    · rename_i h2; exact ⟨h2, by cases e : M.on; exact absurd (.inl e) h1; rfl⟩
    · cases h

theorem bkOk_add {M : Mem} {b : Bk} {n : Int} (h : BkOk b) : BkOk (M.add b n).2.1 := by
  unfold Mem.add
  split
  · rename_i h0
    split
    · exact h
    · rename_i h20
      dsimp only
      split
      · refine ⟨by simp; have := h.1; omega, fun x hx => ?_⟩
        rcases List.mem_append.1 hx with hx | hx
        · exact h.2 x hx
        · simp at hx; rw [hx]; exact (askedB_num h0).1
      · exact h
  · exact h

theorem bkOk_change {M : Mem} {b : Bk} {i n : Int} (h : BkOk b) : BkOk (M.change b i n).2.1 := by
  unfold Mem.change
  split
  · rename_i h0
    split
    · dsimp only
      split
      · refine ⟨by simp; exact h.1, fun x hx => ?_⟩
        rcases List.mem_or_eq_of_mem_set hx with hx | hx
        · exact h.2 x hx
        · rw [hx]; exact (askedB_num h0).1
      · exact h
    · exact h
  · exact h

theorem ok_undo {M : Mem} (h : Ok M) : Ok (undo M).2 := by unfold undo; split; exact ok_put h _ _; exact h
theorem ok_unnote {o : Ord} (h : Ok o.2) : Ok (unnote o).2 := by unfold unnote; split; exact h; exact ok_put h _ _
theorem ok_opened {M : Mem} (h : Ok M) (k : Nat) : Ok { M with opened := k } := ⟨h.fresh, h.kept, h.notes, h.plan, h.early, h.off⟩
theorem ok_open {M : Mem} (h : Ok M) : Ok M.open_.2.2 := by
  unfold Mem.open_
  split
  · exact ok_start h
  · dsimp only
    split
    · exact ok_opened (ok_unnote (ok_undo (ok_start h))) _
    · exact ok_unnote (ok_undo (ok_start h))

theorem bkOk_open {M : Mem} (h : Ok M) {b : Bk} (hb : M.open_.1 = some b) : BkOk b := by
  unfold Mem.open_ at hb
  split at hb
  · cases hb
  · rename_i h20
    dsimp only at hb
    split at hb
    · cases hb
      refine ⟨by simp [entriesOf]; omega, fun x hx => ?_⟩
      unfold entriesOf at hx
      obtain ⟨i, _, rfl⟩ := List.mem_map.1 hx
      exact isNum_iff.2 ((ok_unnote (ok_undo (ok_start h))).fresh _)
    · cases hb

theorem ok_add {M : Mem} (h : Ok M) (b : Bk) (n : Int) : Ok (M.add b n).2.2 := by
  unfold Mem.add
  split
  · split
    · exact h
    · exact ok_put (ok_put (o := (0, M)) h _ _) _ _
  · exact h
theorem ok_change {M : Mem} (h : Ok M) (b : Bk) (i n : Int) : Ok (M.change b i n).2.2 := by
  unfold Mem.change
  split
  · split
    · exact ok_put (ok_put (ok_put (ok_ofence (ok_oflush (ok_oflush (ok_owrite (ok_owrite (o := (0, M)) h _ _) _ _) _) _)) _ _) _ _) _ _
    · exact h
  · exact h

theorem size_add (M : Mem) (b : Bk) (n : Int) : (M.add b n).2.2.size ≤ M.size + 6 := by
  unfold Mem.add
  split
  · split
    · exact Nat.le_add_right _ _
    · have h1 := size_put (0, M) (b.list.length + 1) n
      have h2 := size_put (Ord.put (0, M) (b.list.length + 1) n) 0 (b.list.length + 1)
      unfold addO
      dsimp only at *
      omega
  · exact Nat.le_add_right _ _
theorem size_change (M : Mem) (b : Bk) (i n : Int) : (M.change b i n).2.2.size ≤ M.size + 14 := by
  unfold Mem.change
  split
  · split
    · unfold changeO
      generalize nth b.list (i - 1).toNat = was
      have s1 := size_owrite (0, M) 41 i
      have s2 := size_owrite (Ord.write (0, M) 41 i) 42 was
      generalize Ord.write (Ord.write (0, M) 41 i) 42 was = o2 at s2 ⊢
      have s3 := size_oflush o2 41
      generalize Ord.flush o2 41 = o3 at s3 ⊢
      have s4 := size_oflush o3 42
      generalize Ord.flush o3 42 = o4 at s4 ⊢
      have s5 := size_ofence o4
      generalize Ord.fence o4 = o5 at s5 ⊢
      have s6 := size_put o5 40 1
      generalize Ord.put o5 40 1 = o6 at s6 ⊢
      have s7 := size_put o6 i n
      generalize Ord.put o6 i n = o7 at s7 ⊢
      have s8 := size_put o7 40 0
      dsimp only at *
      omega
    · exact Nat.le_add_right _ _
  · exact Nat.le_add_right _ _
theorem size_fail (M : Mem) (l : List Int) : (M.fail l).size = M.size + 1 := by unfold Mem.fail Mem.size; dsimp only; omega
theorem size_crash (M : Mem) (l : List Int) : (M.crash l).2.size ≤ M.size + 1 := by
  unfold Mem.crash
  split
  · split
    · exact Nat.le_of_eq (size_fail M l)
    · exact Nat.le_succ _
  · exact Nat.le_succ _
theorem size_planned (M : Mem) (k : Int) (l : List Int) : (M.planned k l).2.size = M.size := by
  unfold Mem.planned
  split
  · split <;> rfl
  · rfl
theorem size_start' (M : Mem) : M.start.size = M.size := by unfold Mem.start; split <;> rfl
theorem size_undo (M : Mem) : (undo M).2.size ≤ M.size + 3 := by unfold undo; split; exact size_put (0, M) _ _; exact Nat.le_add_right _ _
theorem size_unnote (o : Ord) : (unnote o).2.size ≤ o.2.size + 3 := by unfold unnote; split; exact Nat.le_add_right _ _; exact size_put o _ _
theorem size_open (M : Mem) : M.open_.2.2.size ≤ M.size + 7 := by
  have h0 := size_start' M
  have h1 := size_undo M.start
  have h2 := size_unnote (undo M.start)
  unfold Mem.open_
  split
  · dsimp only; omega
  · dsimp only
    split
    · have : ({ (unnote (undo M.start)).2 with opened := (unnote (undo M.start)).2.opened + 1 } : Mem).size = (unnote (undo M.start)).2.size + 1 := by unfold Mem.size; dsimp only; omega
      dsimp only at *
      omega
    · dsimp only; omega

/-- The texts of numbers with a byte between them. -/
def joinM (by_ : UInt8) (l : List Int) : List UInt8 := Lib.join (l.map Lib.itoa) [by_]

/-- What a command does; A: what a book answers. -/
def doM (A : Bk → List UInt8 → List UInt8 × Int) (D : Dk) : Cmd → (List UInt8 × Int) × Dk
  | .add n => (okM (D.M.add D.b n).1, ⟨(D.M.add D.b n).2.2, (D.M.add D.b n).2.1⟩)
  | .change i n => (okM (D.M.change D.b i n).1, ⟨(D.M.change D.b i n).2.2, (D.M.change D.b i n).2.1⟩)
  | .fail k l => (okM (D.M.planned k l).1, ⟨(D.M.planned k l).2, D.b⟩)
  | .crash l => (okM (D.M.crash l).1, ⟨(D.M.crash l).2, D.b⟩)
  | .open_ => (okM D.M.open_.2.1, ⟨D.M.open_.2.2, D.M.open_.1.getD D.b⟩)
  | .list => ((if D.b.list.length = 0 then [45] else joinM 44 D.b.list, 0), D)
  | .ask s => (A D.b s, D)

structure DkOk (D : Dk) : Prop where
  M : Ok D.M
  b : BkOk D.b

theorem dkOk_do {A : Bk → List UInt8 → List UInt8 × Int} {D : Dk} (h : DkOk D) (c : Cmd) : DkOk (doM A D c).2 := by
  cases c with
  | add n => exact ⟨ok_add h.M _ _, bkOk_add h.b⟩
  | change i n => exact ⟨ok_change h.M _ _ _, bkOk_change h.b⟩
  | fail k l => exact ⟨ok_planned h.M _ _, h.b⟩
  | crash l => exact ⟨ok_crash h.M _, h.b⟩
  | open_ =>
    refine ⟨ok_open h.M, ?_⟩
    show BkOk (D.M.open_.1.getD D.b)
    cases e : D.M.open_.1 with
    | none => exact h.b
    | some b => exact bkOk_open h.M e
  | list => exact h
  | ask s => exact h

theorem size_do {A : Bk → List UInt8 → List UInt8 × Int} (D : Dk) (c : Cmd) : (doM A D c).2.M.size ≤ D.M.size + 14 := by
  cases c with
  | add n => have := size_add D.M D.b n; show (D.M.add D.b n).2.2.size ≤ _; omega
  | change i n => exact size_change D.M D.b i n
  | fail k l => have := size_planned D.M k l; show (D.M.planned k l).2.size ≤ _; omega
  | crash l => have := size_crash D.M l; show (D.M.crash l).2.size ≤ _; omega
  | open_ => have := size_open D.M; show D.M.open_.2.2.size ≤ _; omega
  | list => exact Nat.le_add_right _ _
  | ask s => exact Nat.le_add_right _ _

end Go.Lin.Kp
namespace Go.Proofs.YtmohnddglmolgaaGreatDoor
open Go Go.RowKit Go.Lin Go.Lin.Kp

theorem ok229_any (n : Int) (w : World) : Calls Tryz.prog 229 #[.int .i64 n] w fun e w' => e = .returned (.tuple #[.string ⟨(okM n).1.toArray⟩, .int .i64 (okM n).2]) ∧ w = w' := by
  unfold okM
  by_cases h : n = 0
  · subst h
    rw [if_pos rfl]
    go_enter Tryz.func229, Tryz.ntmps229
    go_wp2
    go_ret2
    exact ⟨rfl, rfl⟩
  · rw [if_neg h]
    have e1 : (n != 0) = true := by rw [bne_iff_ne]; exact h
    clear h
    go_enter Tryz.func229, Tryz.ntmps229
    go_wp2
    go_ret2
    exact ⟨rfl, rfl⟩

/-- A desk: a memory, and the book on it. -/
structure DeskIs (w : World) (bd bm bb : Nat) (D : Dk) (F G : Nat → Prop) : Prop where
  obj : w.heap[bd]? = some (.cells #[ptr bm, ptr bb] 106 (0, 0))
  mem : IsMem w bm D.M F
  book : IsBook w bb bm D.b G
  dF : ¬ F bd
  dG : ¬ G bd
  disj : ∀ k, F k → ¬ G k

theorem DeskIs.c0 {w : World} {bd bm bb : Nat} {D : Dk} {F G : Nat → Prop} (h : DeskIs w bd bm bb D F G) : w.cell? ⟨bd, 0, none⟩ = some (ptr bm) := cell_of_row w bd 0 _ _ _ h.obj
theorem DeskIs.c1 {w : World} {bd bm bb : Nat} {D : Dk} {F G : Nat → Prop} (h : DeskIs w bd bm bb D F G) : w.cell? ⟨bd, 1, none⟩ = some (ptr bb) := cell_of_row w bd 1 _ _ _ h.obj
theorem DeskIs.grew {w w' : World} {bd bm bb : Nat} {D : Dk} {F G : Nat → Prop} (h : DeskIs w bd bm bb D F G) (hg : Grew w w') : DeskIs w' bd bm bb D F G :=
  ⟨(hg.block _ (lt_of_obj h.obj)).trans h.obj, h.mem.grew hg, h.book.grew hg, h.dF, h.dG, h.disj⟩
theorem DeskIs.ltF {w : World} {bd bm bb : Nat} {D : Dk} {F G : Nat → Prop} (h : DeskIs w bd bm bb D F G) : ∀ k, F k → k < w.heap.size := by obtain ⟨_, _, hm⟩ := h.mem; exact hm.lt
theorem DeskIs.ltG {w : World} {bd bm bb : Nat} {D : Dk} {F G : Nat → Prop} (h : DeskIs w bd bm bb D F G) : ∀ k, G k → k < w.heap.size := by obtain ⟨_, hm⟩ := h.book; exact hm.lt

/-- What a command leaves. -/
def DoneLeft (w : World) (bd bm : Nat) (F G : Nat → Prop) (r : (List UInt8 × Int) × Dk) (e : Ending) (w' : World) : Prop :=
  e = .returned (.tuple #[.string ⟨r.1.1.toArray⟩, .int .i64 r.1.2]) ∧ (∃ bb' F' G', DeskIs w' bd bm bb' r.2 F' G' ∧ Wider w F F' ∧ Wider w G G') ∧ Keeps (fun k _ => F k ∨ G k ∨ k = bd) w w'

theorem Keeps.ofGrewDrew {may : Nat → Obj → Prop} {w W : World} (h : Grew w W) : Keeps may w W := Grew.keeps h

theorem desk_after {W w2 : World} {bd bm bb bb' : Nat} {D : Dk} {M' : Mem} {b' : Bk} {F G F' G' : Nat → Prop} (h : DeskIs W bd bm bb D F G) (hm : IsMem w2 bm M' F') (hF : Wider W F F') (hb : IsBook w2 bb' bm b' G') (hG : Wider W G G') (ho : w2.heap[bd]? = some (.cells #[ptr bm, ptr bb'] 106 (0, 0))) (hd : ∀ k, F' k → ¬ G' k) :
    DeskIs w2 bd bm bb' ⟨M', b'⟩ F' G' := by
  have hl := lt_of_obj h.obj
  exact ⟨ho, hm, hb, fun e => (hF bd e).elim h.dF (fun e => by omega), fun e => (hG bd e).elim h.dG (fun e => by omega), hd⟩

theorem wider_disj1 {W : World} {bd bm bb : Nat} {D : Dk} {F G G' : Nat → Prop} (h : DeskIs W bd bm bb D F G) (hG : Wider W G G') : ∀ k, F k → ¬ G' k := fun k hF hG' => (hG k hG').elim (h.disj k hF) (fun e => by have := h.ltF k hF; omega)
theorem wider_disj2 {W : World} {bd bm bb : Nat} {D : Dk} {F G F' : Nat → Prop} (h : DeskIs W bd bm bb D F G) (hF : Wider W F F') : ∀ k, F' k → ¬ G k := fun k hF' hG => (hF k hF').elim (fun e => h.disj k e hG) (fun e => by have := h.ltG k hG; omega)

set_option maxHeartbeats 1000000 in
theorem add228_any (A : Bk → List UInt8 → List UInt8 × Int) (bd bm bb : Nat) (D : Dk) (F G : Nat → Prop) (n : Int) (w : World) (h : DeskIs w bd bm bb D F G) (hok : DkOk D) (hsz : D.M.size + 20 < 1000000000) :
    Calls Tryz.prog 228 #[.agg #[.int .i64 n], ptr bd] w (DoneLeft w bd bm F G (doM A D (.add n))) := by
  obtain ⟨w1, hw1, g1, k0, hz1⟩ := box1 w (.int .i64 n) 141
  have h1 := h.grew g1
  have HC := hid (fun (W : World) (hh : DeskIs W bd bm bb D F G) (hg : Grew w W) => add31_any bb bm D.b D.M F G n W hh.book hh.mem h.disj hok.M (by omega) hok.b.1)
  have HOK := hid (fun e W => ok229_any e W)
  have d1 := h1.c1
  have HD1 := hid h1; have HD := hid h; have HG1 := hid g1
  have hbd : bd < w.heap.size := lt_of_obj h.obj
  have HZF := hid (fun (e : F w.heap.size) => (by have := h.ltF _ e; omega : False))
  have HZG := hid (fun (e : G w.heap.size) => (by have := h.ltG _ e; omega : False))
  clear h hok hsz h1 g1
  go_enter Tryz.func228, Tryz.ntmps228
  go_wp2
  go_region_held3 (fun w' => w'.cell? ⟨bd, 1, none⟩ = some (ptr bb) ∧ w'.cell? ⟨w.heap.size, 0, none⟩ = some (.int .i64 n)) (first | exact ⟨d1, k0⟩ | exact ⟨d2, l0⟩)
    ((first
      | (go_at_call 31; (with_reducible refine (HC.out _ (HD1.out.grew (by repeat' (first | exact grew_refl _ | refine grew_drew ?_))) (grew_trans HG1.out (by repeat' (first | exact grew_refl _ | refine grew_drew ?_)))).mono ?_); rintro e w2 ⟨rfl, hm, ⟨G', hb, hwd⟩, hk⟩; have hkk : Keeps (fun k _ => F k ∨ G k) w1 w2 := (Keeps.ofGrewDrew (show Grew w1 _ by repeat' (first | exact grew_refl _ | refine grew_drew ?_))).trans hk; have ho2 := hkk.obj _ _ HD1.out.obj (fun e => e.elim HD1.out.dF HD1.out.dG); have hwd1 : Wider w1 G G' := (fun k e => (hwd k e).imp id (fun e => Nat.le_trans (show w1.heap.size ≤ _ by first | exact Nat.le_refl _ | (simp; done)) e)); have hD2 := desk_after HD1.out hm (fun k e => .inl e) hb hwd1 ho2 (wider_disj1 HD1.out hwd1); have hbx := hkk.obj w.heap.size _ (Array.getElem?_eq_getElem hz1) (fun e => e.elim HZF.out HZG.out); have d2 := hD2.c1; have l0 := cell_of_obj (Array.getElem?_eq_getElem hz1) hbx k0; have HD2 := hid hD2; have HWD := hid hwd1; have HKK := hid hkk; clear hm hk hkk ho2 hD2 hbx hb hwd hwd1)
      | (go_at_call 229; (with_reducible refine (HOK.out _ _).mono ?_); rintro e w3 ⟨rfl, rfl⟩)))
  go_wp2
  go_ret2
  exact ⟨rfl, ⟨bb, F, G', HD2.out.grew (by repeat' (first | exact grew_refl _ | refine grew_drew ?_)), fun k e => .inl e, fun k e => (HWD.out k e).imp id (fun e => Nat.le_trans HG1.out.size e)⟩, (Keeps.trans (HG1.out.keeps) ((HKK.out.mono (fun k _ e => by rcases e with e | e; exact .inl e; exact .inr (.inl e))))).trans (Grew.keeps (by repeat' (first | exact grew_refl _ | refine grew_drew ?_)))⟩

set_option maxHeartbeats 1000000 in
theorem change230_any (A : Bk → List UInt8 → List UInt8 × Int) (bd bm bb : Nat) (D : Dk) (F G : Nat → Prop) (i n : Int) (w : World) (h : DeskIs w bd bm bb D F G) (hok : DkOk D) (hsz : D.M.size + 20 < 1000000000) :
    Calls Tryz.prog 230 #[.agg #[.int .i64 i, .int .i64 n], ptr bd] w (DoneLeft w bd bm F G (doM A D (.change i n))) := by
  obtain ⟨w1, hw1, g1, k0, k1, hz1⟩ := box2 w (.int .i64 i) (.int .i64 n) 143
  have h1 := h.grew g1
  have HC := hid (fun (W : World) (hh : DeskIs W bd bm bb D F G) (hg : Grew w W) => change32_any bb bm D.b D.M F G i n W hh.book hh.mem h.disj hok.M (by omega) hok.b.1)
  have HOK := hid (fun e W => ok229_any e W)
  have d1 := h1.c1
  have HD1 := hid h1; have HD := hid h; have HG1 := hid g1
  have hbd : bd < w.heap.size := lt_of_obj h.obj
  have HZF := hid (fun (e : F w.heap.size) => (by have := h.ltF _ e; omega : False))
  have HZG := hid (fun (e : G w.heap.size) => (by have := h.ltG _ e; omega : False))
  clear h hok hsz h1 g1
  go_enter Tryz.func230, Tryz.ntmps230
  go_wp2
  go_region_held3 (fun w' => w'.cell? ⟨bd, 1, none⟩ = some (ptr bb) ∧ w'.cell? ⟨w.heap.size, 0, none⟩ = some (.int .i64 i) ∧ w'.cell? ⟨w.heap.size, 1, none⟩ = some (.int .i64 n)) (first | exact ⟨d1, k0, k1⟩ | exact ⟨d2, l0, l1⟩)
    ((first
      | (go_at_call 32; (with_reducible refine (HC.out _ (HD1.out.grew (by repeat' (first | exact grew_refl _ | refine grew_drew ?_))) (grew_trans HG1.out (by repeat' (first | exact grew_refl _ | refine grew_drew ?_)))).mono ?_); rintro e w2 ⟨rfl, hm, ⟨G', hb, hwd⟩, hk⟩; have hkk : Keeps (fun k _ => F k ∨ G k) w1 w2 := (Keeps.ofGrewDrew (show Grew w1 _ by repeat' (first | exact grew_refl _ | refine grew_drew ?_))).trans hk; have ho2 := hkk.obj _ _ HD1.out.obj (fun e => e.elim HD1.out.dF HD1.out.dG); have hwd1 : Wider w1 G G' := (fun k e => (hwd k e).imp id (fun e => Nat.le_trans (show w1.heap.size ≤ _ by first | exact Nat.le_refl _ | (simp; done)) e)); have hD2 := desk_after HD1.out hm (fun k e => .inl e) hb hwd1 ho2 (wider_disj1 HD1.out hwd1); have hbx := hkk.obj w.heap.size _ (Array.getElem?_eq_getElem hz1) (fun e => e.elim HZF.out HZG.out); have d2 := hD2.c1; have l0 := cell_of_obj (Array.getElem?_eq_getElem hz1) hbx k0; have l1 := cell_of_obj (Array.getElem?_eq_getElem hz1) hbx k1; have HD2 := hid hD2; have HWD := hid hwd1; have HKK := hid hkk; clear hm hk hkk ho2 hD2 hbx hb hwd hwd1)
      | (go_at_call 229; (with_reducible refine (HOK.out _ _).mono ?_); rintro e w3 ⟨rfl, rfl⟩)))
  go_wp2
  go_ret2
  exact ⟨rfl, ⟨bb, F, G', HD2.out.grew (by repeat' (first | exact grew_refl _ | refine grew_drew ?_)), fun k e => .inl e, fun k e => (HWD.out k e).imp id (fun e => Nat.le_trans HG1.out.size e)⟩, (Keeps.trans (HG1.out.keeps) ((HKK.out.mono (fun k _ e => by rcases e with e | e; exact .inl e; exact .inr (.inl e))))).trans (Grew.keeps (by repeat' (first | exact grew_refl _ | refine grew_drew ?_)))⟩

set_option maxHeartbeats 1000000 in
theorem crash231_any (A : Bk → List UInt8 → List UInt8 × Int) (bd bm bb : Nat) (D : Dk) (F G : Nat → Prop) (l : List Int) (ua : Option Addr) (uc base : Nat) (w : World) (hs : Seg w base 3 1 (.slice ua l.length uc) l.length (l.map (.int .i64))) (h : DeskIs w bd bm bb D F G) (_hok : DkOk D) (hsz : D.M.size + 20 < 1000000000) :
    Calls Tryz.prog 231 #[.agg #[.slice ua l.length uc], ptr bd] w (DoneLeft w bd bm F G (doM A D (.crash l))) := by
  obtain ⟨w1, hw1, g1, k0, hz1⟩ := box1 w (.slice ua l.length uc) 146
  have h1 := h.grew g1
  have HC := hid (fun (W : World) (hh : DeskIs W bd bm bb D F G) (hg : Grew w W) => crash30_any bm D.M F _ l _ W hh.mem (by omega) (Reads.re' (hs.grew hg).isInts (S' := fun k _ => k ≠ bm) (fun k o ho hS e => by obtain ⟨_, cur, rfl⟩ := hS; subst e; obtain ⟨_, _, hm⟩ := hh.mem; obtain ⟨c, hc, _⟩ := hm.row; rw [ho] at hc; cases hc)) (fun _ _ e => e))
  have HOK := hid (fun e W => ok229_any e W)
  have d1 := h1.c0
  have HD1 := hid h1; have HD := hid h; have HG1 := hid g1
  have hbd : bd < w.heap.size := lt_of_obj h.obj
  have HZF := hid (fun (e : F w.heap.size) => (by have := h.ltF _ e; omega : False))
  have HZG := hid (fun (e : G w.heap.size) => (by have := h.ltG _ e; omega : False))
  clear h hsz h1 g1
  go_enter Tryz.func231, Tryz.ntmps231
  go_wp2
  go_region_held3 (fun w' => w'.cell? ⟨bd, 0, none⟩ = some (ptr bm) ∧ w'.cell? ⟨w.heap.size, 0, none⟩ = some (.slice ua l.length uc)) (first | exact ⟨d1, k0⟩ | exact ⟨d2, l0⟩)
    ((first
      | (go_at_call 30; (with_reducible refine (HC.out _ (HD1.out.grew (by repeat' (first | exact grew_refl _ | refine grew_drew ?_))) (grew_trans HG1.out (by repeat' (first | exact grew_refl _ | refine grew_drew ?_)))).mono ?_); rintro e w2 ⟨rfl, hm, hk⟩; have hkk : Keeps (fun k _ => F k ∨ G k) w1 w2 := (Keeps.ofGrewDrew (show Grew w1 _ by repeat' (first | exact grew_refl _ | refine grew_drew ?_))).trans (hk.mono (fun _ _ e => .inl e)); have ho2 := hkk.obj _ _ HD1.out.obj (fun e => e.elim HD1.out.dF HD1.out.dG); have hkb : Keeps (InF F) w1 w2 := (Keeps.ofGrewDrew (show Grew w1 _ by repeat' (first | exact grew_refl _ | refine grew_drew ?_))).trans hk; have hD2 := desk_after HD1.out hm (fun k e => .inl e) (HD1.out.book.keeps hkb (fun k _ hG hF => HD1.out.disj k hF hG)) (fun k e => .inl e) ho2 HD1.out.disj; have hbx := hkk.obj w.heap.size _ (Array.getElem?_eq_getElem hz1) (fun e => e.elim HZF.out HZG.out); have d2 := hD2.c0; have l0 := cell_of_obj (Array.getElem?_eq_getElem hz1) hbx k0; have HD2 := hid hD2; have HKK := hid hkk; clear hm hk hkk ho2 hD2 hbx hkb)
      | (go_at_call 229; (with_reducible refine (HOK.out _ _).mono ?_); rintro e w3 ⟨rfl, rfl⟩)))
  go_wp2
  go_ret2
  exact ⟨rfl, ⟨bb, F, G, HD2.out.grew (by repeat' (first | exact grew_refl _ | refine grew_drew ?_)), fun k e => .inl e, fun k e => .inl e⟩, (Keeps.trans (HG1.out.keeps) ((HKK.out.mono (fun k _ e => by rcases e with e | e; exact .inl e; exact .inr (.inl e))))).trans (Grew.keeps (by repeat' (first | exact grew_refl _ | refine grew_drew ?_)))⟩

set_option maxHeartbeats 1000000 in
theorem fail232_any (A : Bk → List UInt8 → List UInt8 × Int) (bd bm bb : Nat) (D : Dk) (F G : Nat → Prop) (k : Int) (l : List Int) (ua : Option Addr) (uc base : Nat) (w : World) (hs : Seg w base 3 1 (.slice ua l.length uc) l.length (l.map (.int .i64))) (h : DeskIs w bd bm bb D F G) (_hok : DkOk D) (_hsz : D.M.size + 20 < 1000000000) :
    Calls Tryz.prog 232 #[.agg #[.int .i64 k, .slice ua l.length uc], ptr bd] w (DoneLeft w bd bm F G (doM A D (.fail k l))) := by
  obtain ⟨w1, hw1, g1, k0, k1, hz1⟩ := box2 w (.int .i64 k) (.slice ua l.length uc) 148
  have h1 := h.grew g1
  have HC := hid (fun (W : World) (hh : DeskIs W bd bm bb D F G) (hg : Grew w W) => fail20_any bm D.M F k _ l W hh.mem (hs.grew hg).isInts.any)
  have HOK := hid (fun e W => ok229_any e W)
  have d1 := h1.c0
  have HD1 := hid h1; have HD := hid h; have HG1 := hid g1
  have hbd : bd < w.heap.size := lt_of_obj h.obj
  have HZF := hid (fun (e : F w.heap.size) => (by have := h.ltF _ e; omega : False))
  have HZG := hid (fun (e : G w.heap.size) => (by have := h.ltG _ e; omega : False))
  clear h h1 g1
  go_enter Tryz.func232, Tryz.ntmps232
  go_wp2
  go_region_held3 (fun w' => w'.cell? ⟨bd, 0, none⟩ = some (ptr bm) ∧ w'.cell? ⟨w.heap.size, 0, none⟩ = some (.int .i64 k) ∧ w'.cell? ⟨w.heap.size, 1, none⟩ = some (.slice ua l.length uc)) (first | exact ⟨d1, k0, k1⟩ | exact ⟨d2, l0, l1⟩)
    ((first
      | (go_at_call 20; (with_reducible refine (HC.out _ (HD1.out.grew (by repeat' (first | exact grew_refl _ | refine grew_drew ?_))) (grew_trans HG1.out (by repeat' (first | exact grew_refl _ | refine grew_drew ?_)))).mono ?_); rintro e w2 ⟨rfl, hk, F', hm, hwd⟩; have hkk : Keeps (fun k _ => F k ∨ G k) w1 w2 := (Keeps.ofGrewDrew (show Grew w1 _ by repeat' (first | exact grew_refl _ | refine grew_drew ?_))).trans (hk.mono (fun _ _ e => .inl e)); have ho2 := hkk.obj _ _ HD1.out.obj (fun e => e.elim HD1.out.dF HD1.out.dG); have hwd1 : Wider w1 F F' := (fun k e => (hwd k e).imp id (fun e => Nat.le_trans (show w1.heap.size ≤ _ by first | exact Nat.le_refl _ | (simp; done)) e)); have hkb : Keeps (InF F) w1 w2 := (Keeps.ofGrewDrew (show Grew w1 _ by repeat' (first | exact grew_refl _ | refine grew_drew ?_))).trans hk; have hD2 := desk_after HD1.out hm hwd1 (HD1.out.book.keeps hkb (fun k _ hG hF => HD1.out.disj k hF hG)) (fun k e => .inl e) ho2 (wider_disj2 HD1.out hwd1); have hbx := hkk.obj w.heap.size _ (Array.getElem?_eq_getElem hz1) (fun e => e.elim HZF.out HZG.out); have d2 := hD2.c0; have l0 := cell_of_obj (Array.getElem?_eq_getElem hz1) hbx k0; have l1 := cell_of_obj (Array.getElem?_eq_getElem hz1) hbx k1; have HD2 := hid hD2; have HWD := hid hwd1; have HKK := hid hkk; clear hm hk hkk ho2 hD2 hbx hwd hwd1 hkb)
      | (go_at_call 229; (with_reducible refine (HOK.out _ _).mono ?_); rintro e w3 ⟨rfl, rfl⟩)))
  go_wp2
  go_ret2
  exact ⟨rfl, ⟨bb, F', G, HD2.out.grew (by repeat' (first | exact grew_refl _ | refine grew_drew ?_)), fun k e => (HWD.out k e).imp id (fun e => Nat.le_trans HG1.out.size e), fun k e => .inl e⟩, (Keeps.trans (HG1.out.keeps) ((HKK.out.mono (fun k _ e => by rcases e with e | e; exact .inl e; exact .inr (.inl e))))).trans (Grew.keeps (by repeat' (first | exact grew_refl _ | refine grew_drew ?_)))⟩

end Go.Proofs.YtmohnddglmolgaaGreatDoor
namespace Go.Proofs.YtmohnddglmolgaaGreatDoor
open Go Go.RowKit Go.Lin Go.Lin.Kp

theorem open_err {M : Mem} : (∀ b, M.open_.1 = some b → M.open_.2.1 = 0) ∧ (M.open_.1 = none → M.open_.2.1 ≠ 0) := by
  unfold Mem.open_
  split
  · exact ⟨(fun b h => by cases h), (fun _ h => by cases h)⟩
  · dsimp only
    split
    · exact ⟨(fun _ _ => rfl), (fun h => by cases h)⟩
    · rename_i h; exact ⟨(fun b h => by cases h), (fun _ => h)⟩

set_option maxHeartbeats 1000000 in
theorem open233_any (A : Bk → List UInt8 → List UInt8 × Int) (bd bm bb : Nat) (D : Dk) (F G : Nat → Prop) (w : World) (h : DeskIs w bd bm bb D F G) (hok : DkOk D) (hsz : D.M.size + 20 < 1000000000) :
    Calls Tryz.prog 233 #[.agg #[], ptr bd] w (DoneLeft w bd bm F G (doM A D .open_)) := by
  have hbd : bd < w.heap.size := lt_of_obj h.obj
  obtain ⟨w1, hw1, g1⟩ : ∃ w1, w.alloc (.cells #[] 150) = w1 ∧ Grew w w1 := ⟨_, rfl, grew_alloc (grew_refl _) _⟩
  have h1 := h.grew g1
  have HOP := hid (open41_mem bm D.M F w1 h1.mem hok.M (by omega))
  have HOK := hid (fun e W => ok229_any e W)
  have HER := hid (open_err (M := D.M))
  have d0 := h1.c0
  have HD1 := hid h1; have HG1 := hid g1
  show Calls _ _ _ _ (DoneLeft w bd bm F G ((okM D.M.open_.2.1), ⟨D.M.open_.2.2, D.M.open_.1.getD D.b⟩))
  obtain ⟨⟨ob, err, M'⟩, hop⟩ : ∃ x, D.M.open_ = x := ⟨_, rfl⟩
  rw [hop] at HOP HER ⊢
  simp only at HER ⊢
  clear hop hok hsz g1 h1
  cases ob with
  | none =>
    have her : (err != 0) = true := by rw [bne_iff_ne]; exact HER.out.2 rfl
    have her2 : (err == 0) = false := by rw [beq_eq_false_iff_ne]; exact HER.out.2 rfl
    go_enter Tryz.func233, Tryz.ntmps233
    go_wp2_with (first
      | (go_at_call 41; (with_reducible refine HOP.out.mono ?_); rintro e w2 ⟨hm, hk, rfl⟩; have HM := hid hm; have HK := hid hk; clear hm hk)
      | (go_at_call 229; (with_reducible refine (HOK.out _ _).mono ?_); rintro e w3 ⟨rfl, rfl⟩))
    go_ret2
    refine ⟨rfl, ⟨bb, F, G, ⟨HK.out.obj _ _ HD1.out.obj HD1.out.dF, HM.out, HD1.out.book.keeps HK.out (fun k _ hG hF => HD1.out.disj k hF hG), HD1.out.dF, HD1.out.dG, HD1.out.disj⟩, fun k e => .inl e, fun k e => .inl e⟩, (HG1.out.keeps).trans (HK.out.mono (fun _ _ e => .inl e))⟩
  | some b' =>
    obtain rfl : err = 0 := HER.out.1 b' rfl
    go_enter Tryz.func233, Tryz.ntmps233
    go_wp2_with (first
      | (go_at_call 41; (with_reducible refine HOP.out.mono ?_); rintro e w2 ⟨hm, hk, bb', G', rfl, hb, hG⟩; have HM := hid hm; have HK := hid hk; have HB := hid hb; have HGL := hid hG; have ho2 := hk.obj _ _ HD1.out.obj HD1.out.dF; have d2 := cell_of_row w2 bd 1 _ _ _ ho2; have f2 := frozen_of_row w2 bd 1 _ _ ho2; have HO2 := hid ho2; clear hm hk hb hG ho2)
      | (go_at_call 229; (with_reducible refine (HOK.out _ _).mono ?_); rintro e w3 ⟨rfl, rfl⟩))
    go_ret2
    have hbd1 := lt_of_obj HD1.out.obj
    have hkd : Keeps (fun k _ => k = bd) w2 (w2.setCell ⟨bd, 1, none⟩ (ptr bb')) := keeps_set1 _ _ (fun _ => rfl)
    have hGw : ∀ k, G' k → k ≠ bd := fun k e e2 => by have := HGL.out k e; omega
    refine ⟨rfl, ⟨bb', F, G', ⟨by rw [heap_setCell_same w2 bd 1 _ _ _ HO2.out]; rfl, HM.out.keeps hkd (fun k _ hF e => HD1.out.dF (e ▸ hF)), HB.out.keeps hkd (fun k _ hG e => hGw k hG e), HD1.out.dF, fun e => hGw _ e rfl, fun k hF hG => by have := HD1.out.ltF k hF; have := HGL.out k hG; omega⟩, fun k e => .inl e, fun k e => .inr (Nat.le_trans HG1.out.size (HGL.out k e))⟩, ((HG1.out.keeps).trans (HK.out.mono (fun _ _ e => .inl e))).trans (hkd.mono (fun _ _ e => .inr (.inr e)))⟩

/-! ### joined -/

theorem Tryz.info9 : (Tryz.prog.info? 9).map (fun i => (i.zero, i.size, i.bytes)) = some (some (.string ByteArray.empty), 1, 16) := by kernel_rfl

theorem joinTail_len (c : UInt8) (B : Nat) : ∀ r : List (List UInt8), (∀ x ∈ r, x.length ≤ B) → (Lib.joinTail [c] r).length ≤ r.length * (B + 1)
  | [], _ => by simp [Lib.joinTail]
  | x :: r, h => by
    have ih := joinTail_len c B r (fun y hy => h y (by simp [hy]))
    have hx := h x (by simp)
    have : (Lib.joinTail [c] (x :: r)).length = 1 + x.length + (Lib.joinTail [c] r).length := by simp [Lib.joinTail]; omega
    rw [this, List.length_cons, Nat.succ_mul]; omega

theorem join_len (c : UInt8) (B : Nat) (xs : List (List UInt8)) (h : ∀ x ∈ xs, x.length ≤ B) : (Lib.join xs [c]).length ≤ xs.length * (B + 1) := by
  cases xs with
  | nil => simp [Lib.join_nil]
  | cons x r =>
    rw [Lib.join_cons, List.length_append]
    have h1 := joinTail_len c B r (fun y hy => h y (by simp [hy]))
    have h2 := h x (by simp)
    rw [List.length_cons, Nat.succ_mul]; omega

/-- The texts of numbers. -/
def textsOf (l : List Int) : List ByteArray := l.map fun n => ⟨(Lib.itoa n).toArray⟩

set_option maxHeartbeats 1000000 in
theorem joined115_any (v : Value) (l : List Int) (c : UInt8) (w : World) (hv : IsInts Any w v l) (hn : l.length ≤ 1000) (hs : ∀ x ∈ l, 0 ≤ x ∧ x ≤ 100000) (hL : Lay w) :
    Calls Tryz.prog 115 #[v, .string ⟨#[c]⟩] w fun e w' => e = .returned (.string ⟨(joinM c l).toArray⟩) ∧ Grew w w' := by
  obtain ⟨a, cap, rfl, hm, hc⟩ := hv
  have HC := hid hc; have HS := hid hs; have HLA := hid hL
  clear hc hs hL
  obtain ⟨n, hnn⟩ : ∃ n, l.length = n := ⟨_, rfl⟩
  rw [hnn] at HC hm hn ⊢
  have HN := hid hnn
  clear hnn
  go_enter Tryz.func115, Tryz.ntmps115
  go_wp2
  go_loopg [5, 7, 10] n (fun gk nv _ iv wr => ∃ (j : Nat), j ≤ n ∧ iv = .int .i64 (j : Int) ∧ Hid (gk = n - j) ∧ Hid (Grew w wr) ∧ Hid (Seg wr w.heap.size 9 1 nv j ((textsOf (l.take j)).map .string)))
  case atStart => exact ⟨0, Nat.zero_le _, rfl, hid rfl, hid (grew_refl _), hid (Seg.nil _ _ _ _)⟩
  case round =>
    obtain ⟨j, hj, rfl, HGK, HG, HSG⟩ := hrel
    rename World => wr
    by_cases hlt : j < n
    · obtain ⟨b, off, o, rfl, hb, _, hcj⟩ := HC.out j hlt
      have hcj0 := (HG.out.cell (p := ⟨b, off + j, none⟩) (lt_of_obj hb)).trans hcj
      have hjl : j < l.length := by rw [HN.out]; exact hlt
      rw [nth_lt hjl] at hcj0
      obtain ⟨x, hx⟩ : ∃ x, l[j] = x := ⟨_, rfl⟩
      rw [hx] at hcj0
      have hxb := HS.out x (by rw [← hx]; exact List.getElem_mem hjl)
      have HIT := hid (fun (W : World) (h : Grew w W) => itoa47_any x (by omega) (by omega) W (HLA.out.grew h))
      have htk : (textsOf (l.take (j + 1))).map Value.string = (textsOf (l.take j)).map Value.string ++ [.string ⟨(Lib.itoa x).toArray⟩] := by
        rw [List.take_add_one, List.getElem?_eq_getElem hjl, hx]
        simp [textsOf]
      have HTK := hid htk
      obtain ⟨na, nc, rfl, hsh⟩ := HSG.out.shape
      clear htk hx hjl hb hcj hsh hxb
      go_wp2_with (first
        | (go_at_call 47; (with_reducible refine (HIT.out _ HG.out).mono ?_); rintro e w1 ⟨rfl, hg⟩; have HG1 := hid hg; clear hg)
        | (at_builtin; refine wpList_append_one rfl _ _ 22 rfl w.heap.size 9 Tryz.underlying22 Tryz.info9 rfl (by decide) (.slice na j nc) j _ rfl ((HSG.out.grew HG1.out).alloc _) _ _ _ rfl (one_new _ _ _) rfl (by omega) ?_ ?_; (have := HG.out.size; have := HG1.out.size; simp only [World.size_alloc]; omega); intro v9 w9 hown9 hgrow9 hblk9; have hg9 : Grew w w9 := ((grew_trans HG.out HG1.out).alloc (grew_trans HG.out HG1.out).size _).grown hgrow9 ((grew_trans HG.out HG1.out).alloc (grew_trans HG.out HG1.out).size _).size (fun k e => (HSG.out.own k e).1); have HG9 := hid hg9; have HS9 := hid hown9; clear hown9 hgrow9 hblk9 hg9))
      go_roundg (n - (j + 1))
      case measure => have := HGK.out; omega
      case rel => exact ⟨j + 1, by omega, by go_num, hid rfl, HG9, hid (by rw [HTK.out]; exact HS9.out)⟩
    · obtain rfl : j = n := by omega
      have hS := HSG.out
      rw [List.take_of_length_le (by rw [HN.out]; exact Nat.le_refl _)] at hS
      have hjm : joinM c l = Lib.join ((textsOf l).map (·.data.toList)) [c] := by unfold joinM textsOf; rw [List.map_map]; rfl
      have hlen : (textsOf l).length = j := by unfold textsOf; rw [List.length_map, HN.out]
      by_cases h0 : j = 0
      · subst h0
        obtain ⟨na, nc, rfl, _⟩ := hS.shape
        have hl0 : l = [] := List.eq_nil_of_length_eq_zero HN.out
        have HJ := hid (Tryz.strings_Join_none na nc ⟨#[c]⟩ wr)
        have HJM := hid (show joinM c l = [] by rw [hl0]; rfl)
        clear hS hjm hlen hl0
        go_wp2_with (go_at_call 136; (with_reducible refine HJ.out.mono ?_); rintro e w1 ⟨rfl, rfl⟩)
        go_ret
        exact ⟨by rw [HJM.out]; rfl, HG.out⟩
      · obtain ⟨g, off, gc, cur, rfl, hbg, hgo, hcap, hcapm, hcells⟩ := hS.at (by omega)
        have hbk : g < wr.heap.size := lt_of_obj hgo
        have hj := Tryz.strings_Join g off gc (textsOf l) ⟨#[c]⟩ wr (fun i x hx => by
            have hi : i < (textsOf l).length := (List.getElem?_eq_some_iff.1 hx).1
            have := hcells i (by omega)
            rw [List.getElem?_map, hx] at this
            exact this) hbk (by omega) (by omega) (by
            refine Nat.le_trans (join_len c 21 _ (fun x hx => ?_)) (by rw [List.length_map, hlen]; omega)
            obtain ⟨y, hy, rfl⟩ := List.mem_map.1 hx
            unfold textsOf at hy
            obtain ⟨z, hz, rfl⟩ := List.mem_map.1 hy
            have := HS.out z hz
            exact Lib.itoa_length_le z (by omega) (by omega))
        rw [hlen] at hj
        have HJ := hid hj
        have HJM := hid hjm
        clear hS hjm hlen hj hcells hgo hcap hcapm hbg
        go_wp2_with (go_at_call 136; (with_reducible refine HJ.out.mono ?_); rintro e w1 ⟨rfl, hg⟩; have HG1 := hid hg; clear hg)
        go_ret
        exact ⟨by rw [HJM.out]; rfl, grew_trans HG.out HG1.out⟩

set_option maxHeartbeats 1000000 in
theorem list234_any (A : Bk → List UInt8 → List UInt8 × Int) (bd bm bb : Nat) (D : Dk) (F G : Nat → Prop) (w : World) (h : DeskIs w bd bm bb D F G) (hok : DkOk D) (hL : Lay w) :
    Calls Tryz.prog 234 #[.agg #[], ptr bd] w (DoneLeft w bd bm F G (doM A D .list)) := by
  have hbd : bd < w.heap.size := lt_of_obj h.obj
  obtain ⟨w1, hw1, g1⟩ : ∃ w1, w.alloc (.cells #[] 151) = w1 ∧ Grew w w1 := ⟨_, rfl, grew_alloc (grew_refl _) _⟩
  have h1 := h.grew g1
  have hbo := hok.b
  have HEN := hid (entries19_any bb bm D.b G w1 h1.book (by have := hbo.1; omega))
  have d0 := h1.c1
  have HD1 := hid h1; have HG1 := hid g1
  have HJ := hid (fun (W : World) (u : Value) (hg : Grew w W) (hu : IsInts Any W u D.b.list) => joined115_any u D.b.list 44 W hu (by have := hbo.1; omega) (fun x hx => by have := isNum_iff.1 (hbo.2 x hx); omega) (hL.grew hg))
  show Calls _ _ _ _ (DoneLeft w bd bm F G (((if D.b.list.length = 0 then [45] else joinM 44 D.b.list), 0), D))
  obtain ⟨n, hn⟩ : ∃ n, D.b.list.length = n := ⟨_, rfl⟩
  rw [hn] at HEN ⊢
  clear hok h1 g1 hbo hL hn
  by_cases h0 : n = 0
  · subst h0
    rw [if_pos rfl]
    go_enter Tryz.func234, Tryz.ntmps234
    go_wp2_with (go_at_call 19; (with_reducible refine HEN.out.mono ?_); rintro e w2 ⟨u, rfl, hs, hg⟩; obtain ⟨ua, uc, rfl, _⟩ := hs.shape; have HG2 := hid hg; clear hg hs)
    go_ret2
    have hg := grew_trans HG1.out HG2.out
    exact ⟨rfl, ⟨bb, F, G, h.grew hg, fun k e => .inl e, fun k e => .inl e⟩, hg.keeps⟩
  · rw [if_neg h0]
    have e0 : ((n : Int) == 0) = false := by rw [beq_eq_false_iff_ne]; omega
    have e0' : (n == 0) = false := by rw [beq_eq_false_iff_ne]; exact h0
    clear h0
    go_enter Tryz.func234, Tryz.ntmps234
    go_wp2_with (first
      | (go_at_call 19; (with_reducible refine HEN.out.mono ?_); rintro e w2 ⟨u, rfl, hs, hg⟩; obtain ⟨ua, uc, rfl, _⟩ := hs.shape; have HG2 := hid hg; have HI := hid hs.isInts.any; clear hg hs)
      | (go_at_call 115; (with_reducible refine (HJ.out _ _ (grew_trans HG1.out HG2.out) HI.out).mono ?_); rintro e w3 ⟨rfl, hg⟩; have HG3 := hid hg; clear hg))
    go_ret2
    have hg := grew_trans HG1.out (grew_trans HG2.out HG3.out)
    exact ⟨rfl, ⟨bb, F, G, h.grew hg, fun k e => .inl e, fun k e => .inl e⟩, hg.keeps⟩

/-- What a book's Ask returns. -/
def AskOk (A : Bk → List UInt8 → List UInt8 × Int) : Prop := ∀ (bb bm : Nat) (b : Bk) (G : Nat → Prop) (s : ByteArray) (w : World), IsBook w bb bm b G → BkOk b → s.size ≤ 10000 → Lay w →
  Calls Tryz.prog 44 #[ptr bb, .string s] w fun e w' => e = .returned (.tuple #[.string ⟨(A b s.data.toList).1.toArray⟩, .int .i64 (A b s.data.toList).2]) ∧ Grew w w'

set_option maxHeartbeats 1000000 in
theorem ask235_any (A : Bk → List UInt8 → List UInt8 × Int) (hA : AskOk A) (bd bm bb : Nat) (D : Dk) (F G : Nat → Prop) (s : ByteArray) (hs : s.size ≤ 10000) (w : World) (h : DeskIs w bd bm bb D F G) (hok : DkOk D) (hL : Lay w) :
    Calls Tryz.prog 235 #[.string s, ptr bd] w (DoneLeft w bd bm F G (doM A D (.ask s.data.toList))) := by
  have HC := hid (hA bb bm D.b G s w h.book hok.b hs hL)
  have d1 := h.c1
  have HD := hid h
  show Calls _ _ _ _ (DoneLeft w bd bm F G (A D.b s.data.toList, D))
  clear h hok hL hA
  go_enter Tryz.func235, Tryz.ntmps235
  go_wp2_with (go_at_call 44; (with_reducible refine HC.out.mono ?_); rintro e w2 ⟨rfl, hg⟩; have HG := hid hg; clear hg)
  go_ret2
  exact ⟨rfl, ⟨bb, F, G, HD.out.grew HG.out, fun k e => .inl e, fun k e => .inl e⟩, HG.out.keeps⟩

end Go.Proofs.YtmohnddglmolgaaGreatDoor
namespace Go.Proofs.YtmohnddglmolgaaGreatDoor
open Go Go.RowKit Go.Lin Go.Lin.Kp

/-- k texts, then empty ones. -/
def filled (t : ByteArray) (n k : Nat) : List Value := List.replicate k (.string t) ++ List.replicate (n - k) (.string ByteArray.empty)

theorem filled_len (t : ByteArray) {n k : Nat} (h : k ≤ n) : (filled t n k).length = n := by simp [filled]; omega

theorem filled_splice (t : ByteArray) {n k m : Nat} (h : k + m ≤ n) : splice (filled t n k) k (List.replicate m (.string t)) = filled t n (k + m) := by
  unfold splice filled
  rw [List.take_append_of_le_length (by simp), List.length_replicate]
  have h1 : List.take k (List.replicate k (Value.string t)) = List.replicate k (Value.string t) := List.take_of_length_le (by simp)
  rw [h1, List.drop_append, List.drop_of_length_le (by simp)]
  simp only [List.length_replicate, List.nil_append, List.drop_replicate]
  rw [← List.append_assoc, List.replicate_append_replicate]
  congr 2
  omega

theorem rep_get {x v : Value} {m j : Nat} (h : (List.replicate m x)[j]? = some v) : j < m ∧ v = x := by
  rw [List.getElem?_replicate] at h
  split at h
  · rename_i hj; exact ⟨hj, (Option.some.inj h).symm⟩
  · cases h

set_option maxHeartbeats 2000000 in
set_option maxRecDepth 20000 in
theorem repeat46_any (t : ByteArray) (bx : Nat) (n : Nat) (hn : n ≤ 1000) (w : World) (hx : w.cell? ⟨bx, 0, none⟩ = some (.string t)) :
    Calls Tryz.prog 46 #[.slice (some ⟨bx, 0, none⟩) 1 1, .int .i64 (n : Int)] w fun e w' => e = .returned (.slice (some ⟨w.heap.size, 0, none⟩) n n) ∧ Grew w w' ∧ w'.heap[w.heap.size]? = some (.cells (List.replicate n (Value.string t)).toArray 9 (0, 0)) := by
  have hmu : ∀ W, Calls Tryz.prog 87 #[.int .u64 1, .int .u64 (n : Int)] W fun e w' => e = .returned (.tuple #[.int .u64 0, .int .u64 (n : Int)]) ∧ W = w' := fun W =>
    (Tryz.bits_Mul 1 n (by omega) (by omega) W).mono fun e w' ⟨he, hw⟩ => ⟨by rw [he, show 1 * n / 18446744073709551616 = 0 by omega, show 1 * n % 18446744073709551616 = n by omega]; rfl, hw.symm⟩
  have HMU := hid hmu
  have hmk := run_make_row' (P := Tryz.prog) 22 9 (.string ByteArray.empty) 16 Tryz.underlying22 Tryz.info9 rfl .i64 .i64 n (by omega) (by omega)
  have hbx := World.block_lt_of_cell? w _ hx
  have hneg : decide ((n : Int) < 0) = false := by simp
  have hbig : decide ((9223372036854775807 : Int) < (n : Int)) = false := by simp; omega
  have hsz9 : (Tryz.prog.info? 9).map (·.size) = some 1 := by kernel_rfl
  obtain ⟨m0, hm0⟩ : ∃ m, min 1 n = m := ⟨_, rfl⟩
  have h0 : (w.alloc (.cells (madeCells #[.string ByteArray.empty] n) 9)).heap[w.heap.size]? = some (.cells (filled t n 0).toArray 9 (0, 0)) := by
    obtain ⟨c, hc, hs, hv⟩ := World.rowIs_made w (.string ByteArray.empty) n 9
    rw [hc]
    have : c = (filled t n 0).toArray := by
      apply Array.ext
      · rw [hs, List.size_toArray, filled_len t (Nat.zero_le n)]
      · intro i h1 h2
        have h3 := hv i (by omega)
        rw [Array.getElem?_eq_getElem h1] at h3
        rw [Option.some.inj h3]
        simp [filled]
    rw [this]
  have H0 := hid h0
  have hx1 : (w.alloc (.cells (madeCells #[.string ByteArray.empty] n) 9)).cell? ⟨bx, 0, none⟩ = some (.string t) := by rw [World.cell?_alloc_lt (a := ⟨bx, 0, none⟩) _ _ hbx]; exact hx
  have HX1 := hid hx1
  clear hmu h0 hx1
  go_enter Tryz.func46, Tryz.ntmps46
  go_wp2_with (first
    | (go_at_call 87; (with_reducible refine (HMU.out _).mono ?_); rintro e w1 ⟨rfl, rfl⟩)
    | ((refine wpList_copy_splice rfl _ _ 22 22 rfl 9 Tryz.underlying22 hsz9 (some ⟨w.heap.size, 0, none⟩) (some ⟨bx, 0, none⟩) n n 1 1 rfl rfl w.heap.size 0 (filled t n 0) 9 H0.out (List.replicate m0 (.string t)) (by rw [List.length_replicate]; exact hm0.symm) (fun _ => ⟨rfl, _, rfl, fun j v hj => by
        obtain ⟨hj1, rfl⟩ := rep_get hj
        have : j = 0 := by omega
        subst this
        exact HX1.out⟩) (by rw [List.length_replicate, filled_len t (Nat.zero_le n)]; omega) (fun v hv => by rw [(List.mem_replicate.1 hv).2]; rfl) w.heap.size w (grew_alloc (grew_refl _) _) (Nat.le_refl _) ?_; intro w2 hh2 hg2; have HH2 := hid hh2; have HG2 := hid hg2; clear hh2 hg2)))
  have HM0 := hid hm0
  have hm1 : m0 ≤ n := by omega
  have hh := HH2.out
  rw [filled_splice t (by omega), Nat.zero_add] at hh
  have HH := hid hh
  clear hm0 hh HH2 H0 HX1 hx
  go_loopg [8] (n - m0) (fun gk kv wr => ∃ k : Nat, m0 ≤ k ∧ k ≤ n ∧ kv = .int .i64 (k : Int) ∧ Hid (gk = n - k) ∧ Hid (wr.heap[w.heap.size]? = some (.cells (filled t n k).toArray 9 (0, 0))) ∧ Hid (Grew w wr))
  case atStart => exact ⟨m0, Nat.le_refl _, hm1, rfl, hid rfl, HH, HG2⟩
  case round =>
    obtain ⟨k, hk0, hkn, rfl, HGK, HC, HG⟩ := hrel
    rename World => wr
    by_cases hlt : k < n
    · have hk1 : 1 ≤ k := by have := HM0.out; omega
      obtain ⟨m, hm⟩ : ∃ m, min k (n - k) = m := ⟨_, rfl⟩
      have HM := hid hm
      have hsub : ((n - k : Nat) : Int) = (n : Int) - (k : Int) := by omega
      have hkI : (k : Int) ≤ (n : Int) := by omega
      have hcapne : ¬ (n = k) := by omega
      have hcells : ∀ W : World, Hid (W.heap[w.heap.size]? = some (.cells (filled t n k).toArray 9 (0, 0))) → ∀ j, j < k → W.cell? ⟨w.heap.size, j, none⟩ = some (.string t) := by
        intro W h j hj
        rw [cell_of_row W w.heap.size j _ _ _ h.out]
        simp [filled, List.getElem?_append_left, hj]
      have HCE := hid hcells
      clear hm hcells
      have htr : True := trivial
      go_wp2
      go_region_held3 (fun w' => w'.os = w'.os) (exact rfl)
        (((refine step_copy_splice (by rfl) _ _ 22 22 (by rfl) 9 Tryz.underlying22 hsz9 (some ⟨w.heap.size, k, none⟩) (some ⟨w.heap.size, 0, none⟩) (n - k) (n - k) k n (by rfl) (by rfl) w.heap.size k (filled t n k) 9 (by exact HC.out) (List.replicate m (.string t)) (by rw [List.length_replicate]; exact HM.out.symm) (fun _ => ⟨rfl, _, rfl, fun j v hj => by
            obtain ⟨hj1, rfl⟩ := rep_get hj
            rw [Addr.add_lit, Nat.zero_add]
            exact HCE.out _ (by exact HC) j (by have := HM.out; omega)⟩) (by rw [List.length_replicate, filled_len t hkn]; have := HM.out; omega) (fun v hv => by rw [(List.mem_replicate.1 hv).2]; rfl) w.heap.size w (by first | exact HG.out | exact grew_drew HG.out) (Nat.le_refl _) ?_; intro w3 hh3 hg3; have HH3 := hid hh3; have HG3 := hid hg3; clear hh3 hg3)))
      all_goals (
        go_wp2
        go_roundg (n - (k + m))
        case measure => have := HGK.out; have := HM.out; omega
        case rel => exact ⟨k + m, by omega, by have := HM.out; omega, by rw [IntWalk.i64_in _ (by have := HM.out; omega)]; go_num, hid rfl, hid (by have h := HH3.out; rw [filled_splice t (by have := HM.out; omega)] at h; exact h), hid HG3.out⟩)
    · obtain rfl : k = n := by omega
      go_wp2
      go_ret
      exact ⟨rfl, HG.out, by have := HC.out; unfold filled at this; simpa using this⟩

end Go.Proofs.YtmohnddglmolgaaGreatDoor
namespace Go.Lin.Kp
open Go Go.Lin

def errT (e : Int) : List UInt8 := [101, 114, 114, 111, 114, 32] ++ Lib.itoa e

/-- What a line answers. -/
def lineM (A : Bk → List UInt8 → List UInt8 × Int) (D : Dk) (x : List UInt8) : List UInt8 × Dk := match parseM x with
  | none => (errT 100, D)
  | some c => (if (doM A D c).1.2 = 0 then (doM A D c).1.1 else errT (doM A D c).1.2, (doM A D c).2)

def playR (A : Bk → List UInt8 → List UInt8 × Int) (ls : List (List UInt8)) (D : Dk) : List (List UInt8) × Dk :=
  ls.foldl (fun s x => (s.1 ++ [(lineM A s.2 x).1], (lineM A s.2 x).2)) ([], D)

theorem playR_snoc (A : Bk → List UInt8 → List UInt8 × Int) (ls : List (List UInt8)) (x : List UInt8) (D : Dk) :
    playR A (ls ++ [x]) D = ((playR A ls D).1 ++ [(lineM A (playR A ls D).2 x).1], (lineM A (playR A ls D).2 x).2) := by
  unfold playR; rw [List.foldl_append]; rfl

theorem playR_len (A : Bk → List UInt8 → List UInt8 × Int) (D : Dk) : ∀ ls : List (List UInt8), (playR A ls D).1.length = ls.length := by
  intro ls
  suffices h : ∀ (ls : List (List UInt8)) (s : List (List UInt8) × Dk), (ls.foldl (fun s x => (s.1 ++ [(lineM A s.2 x).1], (lineM A s.2 x).2)) s).1.length = s.1.length + ls.length by
    have := h ls ([], D); simpa [playR] using this
  intro ls
  induction ls with
  | nil => intro s; rfl
  | cons x r ih => intro s; rw [List.foldl_cons, ih]; simp; omega

def Dk.new : Dk := ⟨{ Mem.new with opened := 1 }, ⟨0, 1, []⟩⟩

theorem open_new : Mem.new.open_ = (some ⟨0, 1, []⟩, 0, { Mem.new with opened := 1 }) := by rfl

theorem dkOk_new : DkOk Dk.new := ⟨ok_opened Ok.new 1, ⟨by simp [Dk.new], fun x hx => by simp [Dk.new] at hx⟩⟩

/-- What a script answers. -/
def playM (A : Bk → List UInt8 → List UInt8 × Int) (ls : List (List UInt8)) : List (List UInt8) := (playR A ls Dk.new).1

theorem askW {x w0 : List UInt8} {r : List (List UInt8)} {s : List UInt8} (h : parseW x w0 r = some (.ask s)) : s = x := by
  unfold parseW at h
  split at h
  · split at h
    · cases h
    · injection h with h; injection h
  split at h
  · split at h
    · cases h
    · injection h with h; injection h
  split at h
  · split at h
    · injection h with h; injection h
    · cases h
  split at h
  · split at h
    · injection h with h; injection h
    · cases h
  split at h
  · injection h with h; injection h
  split at h
  · injection h with h; injection h
  · injection h with h; injection h with h; exact h.symm

theorem ask_line {x s : List UInt8} (h : parseM x = some (.ask s)) : s = x := by
  unfold parseM at h
  split at h
  · cases h
  · exact askW h

/-- An error's number is small. -/
def Sm (e : Int) : Prop := 0 ≤ e ∧ e ≤ 1000

theorem sm_done {M : Mem} {r : Bool} {f : Mem → Mem} : Sm (M.done r f).1 := by
  unfold Mem.done Sm
  split
  · split
    · unfold Mem.step; split <;> simp
    · simp
  · simp
theorem sm_owrite {o : Ord} (h : Sm o.1) (c n : Int) : Sm (Ord.write o c n).1 := by unfold Ord.write; split; exact sm_done; exact h
theorem sm_oflush {o : Ord} (h : Sm o.1) (c : Int) : Sm (Ord.flush o c).1 := by unfold Ord.flush; split; exact sm_done; exact h
theorem sm_ofence {o : Ord} (h : Sm o.1) : Sm (Ord.fence o).1 := by unfold Ord.fence; split; exact sm_done; exact h
theorem sm_put {o : Ord} (h : Sm o.1) (c n : Int) : Sm (Ord.put o c n).1 := sm_ofence (sm_oflush (sm_owrite h c n) c)
theorem sm_zero : Sm 0 := by simp [Sm]
theorem sm_asked {M : Mem} {b : Bk} {n : Int} : Sm (askedB M b n) := by unfold askedB Sm; split; simp; split <;> simp
theorem sm_add {M : Mem} {b : Bk} {n : Int} : Sm (M.add b n).1 := by
  unfold Mem.add
  split
  · split
    · simp [Sm]
    · exact sm_put (sm_put (o := (0, M)) sm_zero _ _) _ _
  · exact sm_asked
theorem sm_change {M : Mem} {b : Bk} {i n : Int} : Sm (M.change b i n).1 := by
  unfold Mem.change
  split
  · split
    · exact sm_put (sm_put (sm_put (sm_ofence (sm_oflush (sm_oflush (sm_owrite (sm_owrite (o := (0, M)) sm_zero _ _) _ _) _) _)) _ _) _ _) _ _
    · simp [Sm]
  · exact sm_asked
theorem sm_open {M : Mem} : Sm M.open_.2.1 := by
  unfold Mem.open_
  split
  · simp [Sm]
  · dsimp only
    split
    · exact sm_zero
    · have h1 : Sm (undo M.start).1 := by unfold undo; split; exact sm_put (o := (0, M.start)) sm_zero _ _; exact sm_zero
      unfold unnote
      split
      · exact h1
      · exact sm_put h1 _ _
theorem sm_planned {M : Mem} {k : Int} {l : List Int} : Sm (M.planned k l).1 := by unfold Mem.planned Sm; split; split <;> simp; simp
theorem sm_crash {M : Mem} {l : List Int} : Sm (M.crash l).1 := by unfold Mem.crash Sm; split; split <;> simp; simp
theorem sm_ok {e : Int} (h : Sm e) : Sm (okM e).2 := by unfold okM; split; exact sm_zero; exact h
theorem sm_do {A : Bk → List UInt8 → List UInt8 × Int} {D : Dk} (c : Cmd) (hA : ∀ s, c = .ask s → Sm (A D.b s).2) : Sm (doM A D c).1.2 := by
  cases c with
  | add n => exact sm_ok sm_add
  | change i n => exact sm_ok sm_change
  | fail k l => exact sm_ok sm_planned
  | crash l => exact sm_ok sm_crash
  | open_ => exact sm_ok sm_open
  | list => exact sm_zero
  | ask s => exact hA s rfl

theorem size_play (A : Bk → List UInt8 → List UInt8 × Int) (D : Dk) (x : List UInt8) : (lineM A D x).2.M.size ≤ D.M.size + 14 := by
  unfold lineM
  cases parseM x with
  | none => exact Nat.le_add_right _ _
  | some c => exact size_do D c
theorem dkOk_line {A : Bk → List UInt8 → List UInt8 × Int} {D : Dk} (h : DkOk D) (x : List UInt8) : DkOk (lineM A D x).2 := by
  unfold lineM
  cases parseM x with
  | none => exact h
  | some c => exact dkOk_do h c

end Go.Lin.Kp
namespace Go.Proofs.YtmohnddglmolgaaGreatDoor
open Go Go.RowKit Go.Lin Go.Lin.Kp

theorem bytes_append (l m : List UInt8) : (⟨l.toArray⟩ : ByteArray) ++ ⟨m.toArray⟩ = ⟨(l ++ m).toArray⟩ := by
  apply ByteArray.ext; simp

/-- Texts as cells. -/
def cellsT (l : List (List UInt8)) : List Value := l.map fun x => .string ⟨x.toArray⟩

/-- The answers so far, then errors. -/
def outCells (ans : List (List UInt8)) (k : Nat) : List Value := cellsT ans ++ List.replicate k (.string ⟨(errT 100).toArray⟩)

theorem out_len (ans : List (List UInt8)) (k : Nat) : (outCells ans k).length = ans.length + k := by simp [outCells, cellsT]
theorem out_set (ans : List (List UInt8)) (k : Nat) (x : List UInt8) : (outCells ans (k + 1)).set ans.length (.string ⟨x.toArray⟩) = outCells (ans ++ [x]) k := by
  unfold outCells cellsT
  rw [List.set_append_right _ _ (by simp)]
  simp [List.replicate_succ]
theorem out_skip (ans : List (List UInt8)) (k : Nat) : outCells ans (k + 1) = outCells (ans ++ [errT 100]) k := by
  unfold outCells cellsT
  simp [List.replicate_succ]

theorem line_cell {w : World} {b off : Nat} {ws : List ByteArray} {i : Nat} (hi : i < ws.length) (h : w.cell? ⟨b, off + i, none⟩ = some (.string (ws.getD i ByteArray.empty))) : w.cell? ⟨b, off + i, none⟩ = some (.string ws[i]) := by
  rw [h, List.getD_eq_getElem?_getD, List.getElem?_eq_getElem hi]; rfl
theorem assert_141 (x : Array Value) (W : World) : (Instr.typeAssert (.iface 141 (.agg x)) 109 109 true).run Tryz.prog W = .ok (.tuple #[.iface 141 (.agg x), .bool true]) W := by kernel_rfl
theorem assert_143 (x : Array Value) (W : World) : (Instr.typeAssert (.iface 143 (.agg x)) 109 109 true).run Tryz.prog W = .ok (.tuple #[.iface 143 (.agg x), .bool true]) W := by kernel_rfl
theorem assert_146 (x : Array Value) (W : World) : (Instr.typeAssert (.iface 146 (.agg x)) 109 109 true).run Tryz.prog W = .ok (.tuple #[.iface 146 (.agg x), .bool true]) W := by kernel_rfl
theorem assert_148 (x : Array Value) (W : World) : (Instr.typeAssert (.iface 148 (.agg x)) 109 109 true).run Tryz.prog W = .ok (.tuple #[.iface 148 (.agg x), .bool true]) W := by kernel_rfl
theorem assert_150 (x : Array Value) (W : World) : (Instr.typeAssert (.iface 150 (.agg x)) 109 109 true).run Tryz.prog W = .ok (.tuple #[.iface 150 (.agg x), .bool true]) W := by kernel_rfl
theorem assert_151 (x : Array Value) (W : World) : (Instr.typeAssert (.iface 151 (.agg x)) 109 109 true).run Tryz.prog W = .ok (.tuple #[.iface 151 (.agg x), .bool true]) W := by kernel_rfl
theorem assert_152 (x : ByteArray) (W : World) : (Instr.typeAssert (.iface 152 (.string x)) 109 109 true).run Tryz.prog W = .ok (.tuple #[.iface 152 (.string x), .bool true]) W := by kernel_rfl
theorem assert_nil (W : World) : (Instr.typeAssert .nilIface 109 109 true).run Tryz.prog W = .ok (.tuple #[.nilIface, .bool false]) W := by kernel_rfl

theorem grew_b {a b c : World} (h : Grew a b) (k : Below a.heap.size b c) : Grew a c := h.trans k

/-- What holds at the head of Play's loop. -/
structure PlayAt (w wr : World) (bd bm bo : Nat) (D : Dk) (bb : Nat) (F G : Nat → Prop) (out : List Value) : Prop where
  grew : Grew w wr
  desk : DeskIs wr bd bm bb D F G
  out : wr.heap[bo]? = some (.cells out.toArray 9 (0, 0))
  low : w.heap.size ≤ bd ∧ w.heap.size ≤ bo ∧ bd ≠ bo
  F : ∀ k, F k → w.heap.size ≤ k ∧ k ≠ bo
  G : ∀ k, G k → w.heap.size ≤ k ∧ k ≠ bo

theorem PlayAt.grown {w wr w' : World} {bd bm bo : Nat} {D : Dk} {bb : Nat} {F G : Nat → Prop} {out : List Value} (h : PlayAt w wr bd bm bo D bb F G out) (hg : Grew wr w') : PlayAt w w' bd bm bo D bb F G out :=
  ⟨grew_trans h.grew hg, h.desk.grew hg, (hg.block _ (lt_of_obj h.out)).trans h.out, h.low, h.F, h.G⟩

theorem PlayAt.cell {w wr : World} {bd bm bo : Nat} {D : Dk} {bb : Nat} {F G : Nat → Prop} {ans : List (List UInt8)} {j n : Nat} (h : PlayAt w wr bd bm bo D bb F G (outCells ans (n - j))) (hl : ans.length = j) (hj : j < n) : wr.cell? ⟨bo, j, none⟩ = some (.string ⟨(errT 100).toArray⟩) ∧ wr.frozen? ⟨bo, j, none⟩ = false := by
  refine ⟨?_, frozen_of_row wr bo j _ _ h.out⟩
  rw [cell_of_row wr bo j _ _ _ h.out]
  unfold outCells
  obtain ⟨k, hk⟩ : ∃ k, n - j = k + 1 := ⟨n - j - 1, by omega⟩
  rw [hk]
  simp [cellsT, hl, List.replicate_succ]

/-- Behind a command. -/
theorem PlayAt.done {w wr w' : World} {bd bm bo : Nat} {D D' : Dk} {bb bb' : Nat} {F G F' G' : Nat → Prop} {out : List Value} (h : PlayAt w wr bd bm bo D bb F G out) (hd : DeskIs w' bd bm bb' D' F' G') (hF : Wider wr F F') (hG : Wider wr G G') (hk : Keeps (fun k _ => F k ∨ G k ∨ k = bd) wr w') :
    PlayAt w w' bd bm bo D' bb' F' G' out := by
  have hbo := lt_of_obj h.out
  have hz := h.grew.size
  refine ⟨grew_b h.grew (hk.below hz (fun k o e => ?_)), hd, hk.obj _ _ h.out (fun e => ?_), h.low, fun k e => ?_, fun k e => ?_⟩
  · rcases e with e | e | e
    · exact (h.F k e).1
    · exact (h.G k e).1
    · rw [e]; exact h.low.1
  · rcases e with e | e | e
    · exact (h.F _ e).2 rfl
    · exact (h.G _ e).2 rfl
    · exact h.low.2.2 e.symm
  · rcases hF k e with e | e
    · exact h.F k e
    · exact ⟨by omega, by omega⟩
  · rcases hG k e with e | e
    · exact h.G k e
    · exact ⟨by omega, by omega⟩

/-- An answer is stored. -/
theorem PlayAt.store {w wr : World} {bd bm bo : Nat} {D : Dk} {bb : Nat} {F G : Nat → Prop} {out : List Value} (h : PlayAt w wr bd bm bo D bb F G out) (i : Nat) (v : Value) :
    PlayAt w (wr.setCell ⟨bo, i, none⟩ v) bd bm bo D bb F G (out.set i v) := by
  have hk : Keeps (fun k _ => k = bo) wr (wr.setCell ⟨bo, i, none⟩ v) := keeps_set1 _ _ (fun _ => rfl)
  refine ⟨grew_b h.grew (hk.below h.grew.size (fun k o e => by rw [e]; exact h.low.2.1)), ⟨hk.obj _ _ h.desk.obj h.low.2.2, h.desk.mem.keeps hk (fun k _ e => (h.F k e).2), h.desk.book.keeps hk (fun k _ e => (h.G k e).2), h.desk.dF, h.desk.dG, h.desk.disj⟩, ?_, h.low, h.F, h.G⟩
  rw [heap_setCell_same wr bo i _ _ _ h.out]
  simp

set_option maxHeartbeats 8000000 in
set_option maxRecDepth 20000 in
theorem play13_any (A : Bk → List UInt8 → List UInt8 × Int) (v : Value) (ls : List ByteArray) (w : World) (hv : IsWds Any w v ls) (hn : ls.length ≤ 100) (hs : ∀ x ∈ ls, x.size ≤ 10000) (hL : Lay w)
    (hA : (∃ x ∈ ls, ∃ s, parseM x.data.toList = some (.ask s)) → AskOk A ∧ ∀ b s, Sm (A b s).2) :
    Calls Tryz.prog 13 #[v] w fun e w' => ∃ b, e = .returned (.tuple #[.slice (some ⟨b, 0, none⟩) ls.length ls.length, .int .i64 0]) ∧ Grew w w' ∧ w'.heap[b]? = some (.cells (cellsT (playM A (bytesOf ls))).toArray 9 (0, 0)) ∧ w.heap.size ≤ b := by
  obtain ⟨a, cap, rfl, hm, hc⟩ := hv
  have HC := hid hc; have HS := hid hs; have HLA := hid hL; have HAA := hid hA
  clear hc hs hL hA
  obtain ⟨n, hnn⟩ : ∃ n, ls.length = n := ⟨_, rfl⟩
  rw [hnn] at HC hm hn ⊢
  have HN := hid hnn
  clear hnn
  have HNEW := hid (fun W => new17_any W)
  have HOPEN := hid (fun (W : World) (bm : Nat) (F : Nat → Prop) (h : IsMem W bm Mem.new F) => (by have := open41_mem bm Mem.new F W h Ok.new (by decide); rw [open_new] at this; exact this : Calls Tryz.prog 41 #[ptr bm] W (OpenLeft W bm F (some ⟨0, 1, []⟩, 0, { Mem.new with opened := 1 }))))
  have HIT := hid (fun (e : Int) (he : 0 ≤ e ∧ e ≤ 1000) (W : World) (h : Grew w W) => itoa47_any e (by omega) (by omega) W (HLA.out.grew h))
  have hadd : ∀ (e : Int), 0 ≤ e ∧ e ≤ 1000 → ∀ W, (Op.stringOp .add ⟨#[101, 114, 114, 111, 114, 32]⟩ ⟨(Lib.itoa e).toArray⟩).run Tryz.prog W = .ok (.string ⟨(errT e).toArray⟩) W := by
    intro e he W
    have h2 := Lib.itoa_length_le e (by omega) (by omega)
    have h3 : (⟨(Lib.itoa e).toArray⟩ : ByteArray).size = (Lib.itoa e).length := by simp [ByteArray.size]
    have h4 : (⟨#[101, 114, 114, 111, 114, 32]⟩ : ByteArray).size = 6 := rfl
    rw [run_string_add_sum (P := Tryz.prog) W _ _ (by rw [h3, h4]; omega)]
    exact congrArg (fun z => Result.ok (Value.string z) W) (bytes_append [101, 114, 114, 111, 114, 32] (Lib.itoa e))
  have HADD := hid hadd
  have ha100 := hadd 100 (by omega)
  have hn100 : decide (100 < (n : Int)) = false := by simp; omega
  clear hadd
  obtain ⟨t100, ht⟩ : ∃ t : ByteArray, ⟨(errT 100).toArray⟩ = t := ⟨_, rfl⟩
  rw [ht] at ha100
  have HT := hid ht
  have HREP := hid (fun (bx : Nat) (W : World) (h : W.cell? ⟨bx, 0, none⟩ = some (.string t100)) => repeat46_any t100 bx n (by omega) W h)
  clear ht
  go_enter Tryz.func13, Tryz.ntmps13
  go_wp2_with (first
    | (go_at_call 17; (with_reducible refine (HNEW.out _).mono ?_); rintro e w1 ⟨rfl, hm1, hg1⟩; have HM1 := hid hm1; have HG1 := hid hg1; clear hm1 hg1)
    | (go_at_call 41; (with_reducible refine (HOPEN.out _ _ _ HM1.out).mono ?_); rintro e w2 ⟨hm2, hk2, bb, G, rfl, hb2, hG2⟩; have HM2 := hid hm2; have HK2 := hid hk2; have HB2 := hid hb2; have HGL := hid hG2; have hgA : Grew w w2 := grew_b HG1.out (hk2.below HG1.out.size (fun k o e => by rcases e with rfl | rfl <;> omega)); clear hm2 hk2 hb2 hG2)
    | (go_at_call 47; (with_reducible refine (HIT.out 100 (by omega) _ (grew_trans hgA (grew_alloc (grew_refl _) _))).mono ?_); rintro e w4 ⟨rfl, hg4⟩; have HG4 := hid hg4; clear hg4)
    | (go_at_call 46; (with_reducible refine (HREP.out _ _ (one_new _ _ _)).mono ?_); rintro e w6 ⟨rfl, hg6, ho6⟩; have HG6 := hid hg6; have HO6 := hid ho6; clear hg6 ho6))
  have hP0 : PlayAt w w6 w2.heap.size (w.heap.size + 1) (w4.heap.size + 1) Dk.new bb (fun k => k = w.heap.size ∨ k = w.heap.size + 1) G (outCells [] n) := by
    have hg2s := hgA.size
    have hgB := grew_trans HG4.out (grew_trans (grew_alloc (grew_refl w4) (.cells #[.string t100] 9)) HG6.out)
    have hs4 := HG4.out.size
    rw [World.size_alloc] at hs4
    have hw1 := HG1.out.size
    have hm1 := HM1.out.lt
    have hbk := HB2.out
    have hk1 := HK2.out.size
    have hGlt : ∀ k, G k → k < w2.heap.size := by obtain ⟨_, hb⟩ := hbk; exact hb.lt
    refine ⟨grew_trans hgA (grew_trans (grew_alloc (grew_refl w2) _) hgB), ⟨?_, ?_, ?_, ?_, ?_, ?_⟩, ?_, ⟨by omega, by omega, by omega⟩, ?_, ?_⟩
    · exact (hgB.block _ (by rw [World.size_alloc]; omega)).trans (heap_alloc_new _ _)
    · exact HM2.out.grew (grew_trans (grew_alloc (grew_refl w2) _) hgB)
    · exact HB2.out.grew (grew_trans (grew_alloc (grew_refl w2) _) hgB)
    · rintro (e | e) <;> omega
    · intro e; have := hGlt _ e; omega
    · rintro k (e | e) hG <;> (have := HGL.out k hG; omega)
    · have h := HO6.out
      rw [World.size_alloc] at h
      rw [h]
      unfold outCells cellsT
      rw [HT.out]
      simp
    · rintro k (e | e) <;> exact ⟨by omega, by omega⟩
    · intro k e; have := HGL.out k e; have := hGlt k e; exact ⟨by omega, by omega⟩
  have HP0 := hid hP0
  obtain ⟨bd, hbd⟩ : ∃ x, w2.heap.size = x := ⟨_, rfl⟩
  obtain ⟨bo, hbo⟩ : ∃ x, w4.heap.size + 1 = x := ⟨_, rfl⟩
  obtain ⟨bm, hbm⟩ : ∃ x, w.heap.size + 1 = x := ⟨_, rfl⟩
  rw [hbd, hbo, hbm] at HP0
  rw [hbd, hbo, hbm]
  clear hP0 hbd hbo HG4 HG6 HO6 HM1 HG1 HM2 HK2 HB2 HGL hgA HREP HNEW HOPEN ha100 hn100
  go_loopg [9, 10, 11, 12, 13, 14, 39] n (fun gk _ _ _ _ _ _ iv wr => ∃ (j : Nat) (ans : List (List UInt8)) (D : Dk) (bb : Nat) (F G : Nat → Prop), j ≤ n ∧ iv = .int .i64 (j : Int) ∧ Hid (gk = n - j) ∧ Hid (playR A ((bytesOf ls).take j) Dk.new = (ans, D)) ∧ Hid (DkOk D) ∧ Hid (D.M.size ≤ 100 + 14 * j) ∧ Hid (PlayAt w wr bd bm bo D bb F G (outCells ans (n - j))))
  case atStart => exact ⟨0, [], Dk.new, bb, _, G, Nat.zero_le _, rfl, hid rfl, hid rfl, hid dkOk_new, hid (by decide), HP0⟩
  case round =>
    obtain ⟨j, ans, D, bb, F, G, hj, rfl, HGK, HPL, HOK, HSZ, HP⟩ := hrel
    rename World => wr
    by_cases hlt : j < n
    · obtain ⟨b, off, o, rfl, hb, _, hcj⟩ := HC.out j hlt
      have hjl : j < ls.length := by rw [HN.out]; exact hlt
      have hcj0 := (HP.out.grew.cell (p := ⟨b, off + j, none⟩) (lt_of_obj hb)).trans (line_cell hjl hcj)
      obtain ⟨x, hx⟩ : ∃ x, ls[j] = x := ⟨_, rfl⟩
      have hxm : x ∈ ls := by rw [← hx]; exact List.getElem_mem hjl
      rw [hx] at hcj0
      have HPAR := hid (parse48_any x wr (HS.out x hxm) (HLA.out.grew HP.out.grew))
      have hla : ans.length = j := by
        have := playR_len A Dk.new ((bytesOf ls).take j)
        rw [HPL.out, List.length_take, List.length_map] at this
        simp only at this; omega
      have hsn : playR A ((bytesOf ls).take (j + 1)) Dk.new = (ans ++ [(lineM A D x.data.toList).1], (lineM A D x.data.toList).2) := by
        have hjb : j < (bytesOf ls).length := by rw [List.length_map]; exact hjl
        rw [List.take_add_one, List.getElem?_eq_getElem hjb, Option.toList_some, playR_snoc, HPL.out]
        simp [hx]
      have hok' := dkOk_line HOK.out (A := A) x.data.toList
      have hsz' := size_play A D x.data.toList
      have hk1 : n - j = (n - (j + 1)) + 1 := by omega
      have HSN := hid hsn; have HOK' := hid hok'; have HSZ' := hid hsz'; have HLA' := hid hla; have HK1 := hid hk1
      have HXM := hid hxm
      clear hsn hok' hsz' hla hk1 hcj hx hxm hb
      cases hp : parseM x.data.toList with
      | none =>
        have HLM := hid (show lineM A D x.data.toList = (errT 100, D) by unfold lineM; rw [hp])
        rw [hp] at HPAR
        have hty := assert_nil
        clear hp
        go_wp2_with (go_at_call 48; (with_reducible refine HPAR.out.mono ?_); rintro e w1 ⟨hg, rfl⟩; have HG1 := hid hg; clear hg)
        go_roundg (n - (j + 1))
        case measure => have := HGK.out; omega
        case rel => exact ⟨j + 1, ans ++ [errT 100], D, bb, F, G, by omega, by go_num, hid rfl, hid (by rw [HSN.out, HLM.out]), HOK, hid (by have := HSZ.out; omega), hid (by have := HP.out.grown HG1.out; rw [HK1.out, out_skip] at this; exact this)⟩
      | some c =>
        have hdo : lineM A D x.data.toList = (if (doM A D c).1.2 = 0 then (doM A D c).1.1 else errT (doM A D c).1.2, (doM A D c).2) := by unfold lineM; rw [hp]
        have hsm : Sm (doM A D c).1.2 := sm_do c (fun s hs => (HAA.out ⟨x, HXM.out, s, hp.trans (congrArg some hs)⟩).2 _ _)
        have hask : ∀ s, c = .ask s → AskOk A := fun s hs => (HAA.out ⟨x, HXM.out, s, hp.trans (congrArg some hs)⟩).1
        have hlen : ∀ s, c = .ask s → s.length ≤ 10000 := fun s hs => (by have h1 := ask_line (hp.trans (congrArg some hs)); rw [h1]; exact HS.out x HXM.out)
        rw [hp] at HPAR
        rw [hdo] at HSN HOK' HSZ'
        have HASK := hid hask; have HLEN := hid hlen
        clear hp hdo hask hlen
        cases c with
        | add m =>
          have HSM := hid (show D.M.size + 20 < 1000000000 by have := HSZ.out; omega)
          have HDO := hid (fun (W : World) (h : DeskIs W bd bm bb D F G) (hg : Grew w W) => add228_any A bd bm bb D F G m W h HOK.out HSM.out)
          obtain ⟨⟨⟨rt, er⟩, D'⟩, hr⟩ : ∃ r, doM A D (.add m) = r := ⟨_, rfl⟩
          rw [hr] at HDO HSN HOK' HSZ' hsm
          have HE := hid hsm
          have HADE := hid (HADD.out er hsm)
          have HITE := hid (HIT.out er hsm)
          clear hr hsm
          have hty := assert_141
          by_cases h0 : er = 0
          · subst h0
            rw [if_pos rfl] at HSN
            go_wp2_with (first
              | (go_at_call 48; (with_reducible refine HPAR.out.mono ?_); rintro e w1 ⟨hg, v, rfl, rfl⟩; have HG1 := hid hg; clear hg)
              | (go_at_call 228; (with_reducible refine (HDO.out _ (HP.out.grown HG1.out).desk (grew_trans HP.out.grew HG1.out)).mono ?_); rintro e w2 ⟨rfl, ⟨bb', F', G', hd, hF, hG⟩, hk⟩; have hp2 := (HP.out.grown HG1.out).done hd hF hG hk; have HP2 := hid hp2; obtain ⟨d2, f2⟩ := hp2.cell HLA'.out hlt; clear hd hF hG hk hp2))
            go_roundg (n - (j + 1))
            case measure => have := HGK.out; omega
            case rel => exact ⟨j + 1, ans ++ [rt], D', bb', F', G', by omega, by go_num, hid rfl, HSN, HOK', hid (by have := HSZ.out; have h2 := HSZ'.out; change D'.M.size ≤ _ at h2; omega), hid (by have := HP2.out.store j (.string ⟨rt.toArray⟩); rw [HK1.out] at this; rw [← HLA'.out, out_set] at this; rw [HLA'.out] at this; exact this)⟩
          · have hne : (er != 0) = true := by rw [bne_iff_ne]; exact h0
            rw [if_neg h0] at HSN
            have hadd := HADE.out
            clear h0
            go_wp2_with (first
              | (go_at_call 48; (with_reducible refine HPAR.out.mono ?_); rintro e w1 ⟨hg, v, rfl, rfl⟩; have HG1 := hid hg; clear hg)
              | (go_at_call 228; (with_reducible refine (HDO.out _ (HP.out.grown HG1.out).desk (grew_trans HP.out.grew HG1.out)).mono ?_); rintro e w2 ⟨rfl, ⟨bb', F', G', hd, hF, hG⟩, hk⟩; have hp2 := (HP.out.grown HG1.out).done hd hF hG hk; have HP2 := hid hp2; obtain ⟨d2, f2⟩ := hp2.cell HLA'.out hlt; clear hd hF hG hk hp2)
              | (go_at_call 47; (with_reducible refine (HITE.out _ HP2.out.grew).mono ?_); rintro e w3 ⟨rfl, hg3⟩; have hp3 := HP2.out.grown hg3; have HP3 := hid hp3; obtain ⟨d3, f3⟩ := hp3.cell HLA'.out hlt; clear hg3 hp3))
            go_roundg (n - (j + 1))
            case measure => have := HGK.out; omega
            case rel => exact ⟨j + 1, ans ++ [(errT er)], D', bb', F', G', by omega, by go_num, hid rfl, HSN, HOK', hid (by have := HSZ.out; have h2 := HSZ'.out; change D'.M.size ≤ _ at h2; omega), hid (by have := HP3.out.store j (.string ⟨(errT er).toArray⟩); rw [HK1.out] at this; rw [← HLA'.out, out_set] at this; rw [HLA'.out] at this; exact this)⟩
        | change i m =>
          have HSM := hid (show D.M.size + 20 < 1000000000 by have := HSZ.out; omega)
          have HDO := hid (fun (W : World) (h : DeskIs W bd bm bb D F G) (hg : Grew w W) => change230_any A bd bm bb D F G i m W h HOK.out HSM.out)
          obtain ⟨⟨⟨rt, er⟩, D'⟩, hr⟩ : ∃ r, doM A D (.change i m) = r := ⟨_, rfl⟩
          rw [hr] at HDO HSN HOK' HSZ' hsm
          have HE := hid hsm
          have HADE := hid (HADD.out er hsm)
          have HITE := hid (HIT.out er hsm)
          clear hr hsm
          have hty := assert_143
          by_cases h0 : er = 0
          · subst h0
            rw [if_pos rfl] at HSN
            go_wp2_with (first
              | (go_at_call 48; (with_reducible refine HPAR.out.mono ?_); rintro e w1 ⟨hg, v, rfl, rfl⟩; have HG1 := hid hg; clear hg)
              | (go_at_call 230; (with_reducible refine (HDO.out _ (HP.out.grown HG1.out).desk (grew_trans HP.out.grew HG1.out)).mono ?_); rintro e w2 ⟨rfl, ⟨bb', F', G', hd, hF, hG⟩, hk⟩; have hp2 := (HP.out.grown HG1.out).done hd hF hG hk; have HP2 := hid hp2; obtain ⟨d2, f2⟩ := hp2.cell HLA'.out hlt; clear hd hF hG hk hp2))
            go_roundg (n - (j + 1))
            case measure => have := HGK.out; omega
            case rel => exact ⟨j + 1, ans ++ [rt], D', bb', F', G', by omega, by go_num, hid rfl, HSN, HOK', hid (by have := HSZ.out; have h2 := HSZ'.out; change D'.M.size ≤ _ at h2; omega), hid (by have := HP2.out.store j (.string ⟨rt.toArray⟩); rw [HK1.out] at this; rw [← HLA'.out, out_set] at this; rw [HLA'.out] at this; exact this)⟩
          · have hne : (er != 0) = true := by rw [bne_iff_ne]; exact h0
            rw [if_neg h0] at HSN
            have hadd := HADE.out
            clear h0
            go_wp2_with (first
              | (go_at_call 48; (with_reducible refine HPAR.out.mono ?_); rintro e w1 ⟨hg, v, rfl, rfl⟩; have HG1 := hid hg; clear hg)
              | (go_at_call 230; (with_reducible refine (HDO.out _ (HP.out.grown HG1.out).desk (grew_trans HP.out.grew HG1.out)).mono ?_); rintro e w2 ⟨rfl, ⟨bb', F', G', hd, hF, hG⟩, hk⟩; have hp2 := (HP.out.grown HG1.out).done hd hF hG hk; have HP2 := hid hp2; obtain ⟨d2, f2⟩ := hp2.cell HLA'.out hlt; clear hd hF hG hk hp2)
              | (go_at_call 47; (with_reducible refine (HITE.out _ HP2.out.grew).mono ?_); rintro e w3 ⟨rfl, hg3⟩; have hp3 := HP2.out.grown hg3; have HP3 := hid hp3; obtain ⟨d3, f3⟩ := hp3.cell HLA'.out hlt; clear hg3 hp3))
            go_roundg (n - (j + 1))
            case measure => have := HGK.out; omega
            case rel => exact ⟨j + 1, ans ++ [(errT er)], D', bb', F', G', by omega, by go_num, hid rfl, HSN, HOK', hid (by have := HSZ.out; have h2 := HSZ'.out; change D'.M.size ≤ _ at h2; omega), hid (by have := HP3.out.store j (.string ⟨(errT er).toArray⟩); rw [HK1.out] at this; rw [← HLA'.out, out_set] at this; rw [HLA'.out] at this; exact this)⟩
        | fail k l =>
          have HSM := hid (show D.M.size + 20 < 1000000000 by have := HSZ.out; omega)
          have HDO := hid (fun (W : World) (ua : Option Addr) (uc : Nat) (h : DeskIs W bd bm bb D F G) (hs : Seg W wr.heap.size 3 1 (.slice ua l.length uc) l.length (l.map (.int .i64))) => fail232_any A bd bm bb D F G k l ua uc wr.heap.size W hs h HOK.out HSM.out)
          obtain ⟨⟨⟨rt, er⟩, D'⟩, hr⟩ : ∃ r, doM A D (.fail k l) = r := ⟨_, rfl⟩
          rw [hr] at HDO HSN HOK' HSZ' hsm
          have HE := hid hsm
          have HADE := hid (HADD.out er hsm)
          have HITE := hid (HIT.out er hsm)
          clear hr hsm
          have hty := assert_148
          by_cases h0 : er = 0
          · subst h0
            rw [if_pos rfl] at HSN
            go_wp2_with (first
              | (go_at_call 48; (with_reducible refine HPAR.out.mono ?_); rintro e w1 ⟨hg, v, rfl, u, rfl, hs⟩; obtain ⟨ua, uc, rfl, _⟩ := hs.shape; have HS1 := hid hs; clear hs; have HG1 := hid hg; clear hg)
              | (go_at_call 232; (with_reducible refine (HDO.out _ _ _ (HP.out.grown HG1.out).desk HS1.out).mono ?_); rintro e w2 ⟨rfl, ⟨bb', F', G', hd, hF, hG⟩, hk⟩; have hp2 := (HP.out.grown HG1.out).done hd hF hG hk; have HP2 := hid hp2; obtain ⟨d2, f2⟩ := hp2.cell HLA'.out hlt; clear hd hF hG hk hp2))
            go_roundg (n - (j + 1))
            case measure => have := HGK.out; omega
            case rel => exact ⟨j + 1, ans ++ [rt], D', bb', F', G', by omega, by go_num, hid rfl, HSN, HOK', hid (by have := HSZ.out; have h2 := HSZ'.out; change D'.M.size ≤ _ at h2; omega), hid (by have := HP2.out.store j (.string ⟨rt.toArray⟩); rw [HK1.out] at this; rw [← HLA'.out, out_set] at this; rw [HLA'.out] at this; exact this)⟩
          · have hne : (er != 0) = true := by rw [bne_iff_ne]; exact h0
            rw [if_neg h0] at HSN
            have hadd := HADE.out
            clear h0
            go_wp2_with (first
              | (go_at_call 48; (with_reducible refine HPAR.out.mono ?_); rintro e w1 ⟨hg, v, rfl, u, rfl, hs⟩; obtain ⟨ua, uc, rfl, _⟩ := hs.shape; have HS1 := hid hs; clear hs; have HG1 := hid hg; clear hg)
              | (go_at_call 232; (with_reducible refine (HDO.out _ _ _ (HP.out.grown HG1.out).desk HS1.out).mono ?_); rintro e w2 ⟨rfl, ⟨bb', F', G', hd, hF, hG⟩, hk⟩; have hp2 := (HP.out.grown HG1.out).done hd hF hG hk; have HP2 := hid hp2; obtain ⟨d2, f2⟩ := hp2.cell HLA'.out hlt; clear hd hF hG hk hp2)
              | (go_at_call 47; (with_reducible refine (HITE.out _ HP2.out.grew).mono ?_); rintro e w3 ⟨rfl, hg3⟩; have hp3 := HP2.out.grown hg3; have HP3 := hid hp3; obtain ⟨d3, f3⟩ := hp3.cell HLA'.out hlt; clear hg3 hp3))
            go_roundg (n - (j + 1))
            case measure => have := HGK.out; omega
            case rel => exact ⟨j + 1, ans ++ [(errT er)], D', bb', F', G', by omega, by go_num, hid rfl, HSN, HOK', hid (by have := HSZ.out; have h2 := HSZ'.out; change D'.M.size ≤ _ at h2; omega), hid (by have := HP3.out.store j (.string ⟨(errT er).toArray⟩); rw [HK1.out] at this; rw [← HLA'.out, out_set] at this; rw [HLA'.out] at this; exact this)⟩
        | crash l =>
          have HSM := hid (show D.M.size + 20 < 1000000000 by have := HSZ.out; omega)
          have HDO := hid (fun (W : World) (ua : Option Addr) (uc : Nat) (h : DeskIs W bd bm bb D F G) (hs : Seg W wr.heap.size 3 1 (.slice ua l.length uc) l.length (l.map (.int .i64))) => crash231_any A bd bm bb D F G l ua uc wr.heap.size W hs h HOK.out HSM.out)
          obtain ⟨⟨⟨rt, er⟩, D'⟩, hr⟩ : ∃ r, doM A D (.crash l) = r := ⟨_, rfl⟩
          rw [hr] at HDO HSN HOK' HSZ' hsm
          have HE := hid hsm
          have HADE := hid (HADD.out er hsm)
          have HITE := hid (HIT.out er hsm)
          clear hr hsm
          have hty := assert_146
          by_cases h0 : er = 0
          · subst h0
            rw [if_pos rfl] at HSN
            go_wp2_with (first
              | (go_at_call 48; (with_reducible refine HPAR.out.mono ?_); rintro e w1 ⟨hg, v, rfl, u, rfl, hs⟩; obtain ⟨ua, uc, rfl, _⟩ := hs.shape; have HS1 := hid hs; clear hs; have HG1 := hid hg; clear hg)
              | (go_at_call 231; (with_reducible refine (HDO.out _ _ _ (HP.out.grown HG1.out).desk HS1.out).mono ?_); rintro e w2 ⟨rfl, ⟨bb', F', G', hd, hF, hG⟩, hk⟩; have hp2 := (HP.out.grown HG1.out).done hd hF hG hk; have HP2 := hid hp2; obtain ⟨d2, f2⟩ := hp2.cell HLA'.out hlt; clear hd hF hG hk hp2))
            go_roundg (n - (j + 1))
            case measure => have := HGK.out; omega
            case rel => exact ⟨j + 1, ans ++ [rt], D', bb', F', G', by omega, by go_num, hid rfl, HSN, HOK', hid (by have := HSZ.out; have h2 := HSZ'.out; change D'.M.size ≤ _ at h2; omega), hid (by have := HP2.out.store j (.string ⟨rt.toArray⟩); rw [HK1.out] at this; rw [← HLA'.out, out_set] at this; rw [HLA'.out] at this; exact this)⟩
          · have hne : (er != 0) = true := by rw [bne_iff_ne]; exact h0
            rw [if_neg h0] at HSN
            have hadd := HADE.out
            clear h0
            go_wp2_with (first
              | (go_at_call 48; (with_reducible refine HPAR.out.mono ?_); rintro e w1 ⟨hg, v, rfl, u, rfl, hs⟩; obtain ⟨ua, uc, rfl, _⟩ := hs.shape; have HS1 := hid hs; clear hs; have HG1 := hid hg; clear hg)
              | (go_at_call 231; (with_reducible refine (HDO.out _ _ _ (HP.out.grown HG1.out).desk HS1.out).mono ?_); rintro e w2 ⟨rfl, ⟨bb', F', G', hd, hF, hG⟩, hk⟩; have hp2 := (HP.out.grown HG1.out).done hd hF hG hk; have HP2 := hid hp2; obtain ⟨d2, f2⟩ := hp2.cell HLA'.out hlt; clear hd hF hG hk hp2)
              | (go_at_call 47; (with_reducible refine (HITE.out _ HP2.out.grew).mono ?_); rintro e w3 ⟨rfl, hg3⟩; have hp3 := HP2.out.grown hg3; have HP3 := hid hp3; obtain ⟨d3, f3⟩ := hp3.cell HLA'.out hlt; clear hg3 hp3))
            go_roundg (n - (j + 1))
            case measure => have := HGK.out; omega
            case rel => exact ⟨j + 1, ans ++ [(errT er)], D', bb', F', G', by omega, by go_num, hid rfl, HSN, HOK', hid (by have := HSZ.out; have h2 := HSZ'.out; change D'.M.size ≤ _ at h2; omega), hid (by have := HP3.out.store j (.string ⟨(errT er).toArray⟩); rw [HK1.out] at this; rw [← HLA'.out, out_set] at this; rw [HLA'.out] at this; exact this)⟩
        | open_ =>
          have HSM := hid (show D.M.size + 20 < 1000000000 by have := HSZ.out; omega)
          have HDO := hid (fun (W : World) (h : DeskIs W bd bm bb D F G) (hg : Grew w W) => open233_any A bd bm bb D F G W h HOK.out HSM.out)
          obtain ⟨⟨⟨rt, er⟩, D'⟩, hr⟩ : ∃ r, doM A D (.open_) = r := ⟨_, rfl⟩
          rw [hr] at HDO HSN HOK' HSZ' hsm
          have HE := hid hsm
          have HADE := hid (HADD.out er hsm)
          have HITE := hid (HIT.out er hsm)
          clear hr hsm
          have hty := assert_150
          by_cases h0 : er = 0
          · subst h0
            rw [if_pos rfl] at HSN
            go_wp2_with (first
              | (go_at_call 48; (with_reducible refine HPAR.out.mono ?_); rintro e w1 ⟨hg, v, rfl, rfl⟩; have HG1 := hid hg; clear hg)
              | (go_at_call 233; (with_reducible refine (HDO.out _ (HP.out.grown HG1.out).desk (grew_trans HP.out.grew HG1.out)).mono ?_); rintro e w2 ⟨rfl, ⟨bb', F', G', hd, hF, hG⟩, hk⟩; have hp2 := (HP.out.grown HG1.out).done hd hF hG hk; have HP2 := hid hp2; obtain ⟨d2, f2⟩ := hp2.cell HLA'.out hlt; clear hd hF hG hk hp2))
            go_roundg (n - (j + 1))
            case measure => have := HGK.out; omega
            case rel => exact ⟨j + 1, ans ++ [rt], D', bb', F', G', by omega, by go_num, hid rfl, HSN, HOK', hid (by have := HSZ.out; have h2 := HSZ'.out; change D'.M.size ≤ _ at h2; omega), hid (by have := HP2.out.store j (.string ⟨rt.toArray⟩); rw [HK1.out] at this; rw [← HLA'.out, out_set] at this; rw [HLA'.out] at this; exact this)⟩
          · have hne : (er != 0) = true := by rw [bne_iff_ne]; exact h0
            rw [if_neg h0] at HSN
            have hadd := HADE.out
            clear h0
            go_wp2_with (first
              | (go_at_call 48; (with_reducible refine HPAR.out.mono ?_); rintro e w1 ⟨hg, v, rfl, rfl⟩; have HG1 := hid hg; clear hg)
              | (go_at_call 233; (with_reducible refine (HDO.out _ (HP.out.grown HG1.out).desk (grew_trans HP.out.grew HG1.out)).mono ?_); rintro e w2 ⟨rfl, ⟨bb', F', G', hd, hF, hG⟩, hk⟩; have hp2 := (HP.out.grown HG1.out).done hd hF hG hk; have HP2 := hid hp2; obtain ⟨d2, f2⟩ := hp2.cell HLA'.out hlt; clear hd hF hG hk hp2)
              | (go_at_call 47; (with_reducible refine (HITE.out _ HP2.out.grew).mono ?_); rintro e w3 ⟨rfl, hg3⟩; have hp3 := HP2.out.grown hg3; have HP3 := hid hp3; obtain ⟨d3, f3⟩ := hp3.cell HLA'.out hlt; clear hg3 hp3))
            go_roundg (n - (j + 1))
            case measure => have := HGK.out; omega
            case rel => exact ⟨j + 1, ans ++ [(errT er)], D', bb', F', G', by omega, by go_num, hid rfl, HSN, HOK', hid (by have := HSZ.out; have h2 := HSZ'.out; change D'.M.size ≤ _ at h2; omega), hid (by have := HP3.out.store j (.string ⟨(errT er).toArray⟩); rw [HK1.out] at this; rw [← HLA'.out, out_set] at this; rw [HLA'.out] at this; exact this)⟩
        | list =>
          have HSM := hid (show D.M.size + 20 < 1000000000 by have := HSZ.out; omega)
          have HDO := hid (fun (W : World) (h : DeskIs W bd bm bb D F G) (hg : Grew w W) => list234_any A bd bm bb D F G W h HOK.out (HLA.out.grew hg))
          obtain ⟨⟨⟨rt, er⟩, D'⟩, hr⟩ : ∃ r, doM A D (.list) = r := ⟨_, rfl⟩
          rw [hr] at HDO HSN HOK' HSZ' hsm
          have HE := hid hsm
          have HADE := hid (HADD.out er hsm)
          have HITE := hid (HIT.out er hsm)
          clear hr hsm
          have hty := assert_151
          by_cases h0 : er = 0
          · subst h0
            rw [if_pos rfl] at HSN
            go_wp2_with (first
              | (go_at_call 48; (with_reducible refine HPAR.out.mono ?_); rintro e w1 ⟨hg, v, rfl, rfl⟩; have HG1 := hid hg; clear hg)
              | (go_at_call 234; (with_reducible refine (HDO.out _ (HP.out.grown HG1.out).desk (grew_trans HP.out.grew HG1.out)).mono ?_); rintro e w2 ⟨rfl, ⟨bb', F', G', hd, hF, hG⟩, hk⟩; have hp2 := (HP.out.grown HG1.out).done hd hF hG hk; have HP2 := hid hp2; obtain ⟨d2, f2⟩ := hp2.cell HLA'.out hlt; clear hd hF hG hk hp2))
            go_roundg (n - (j + 1))
            case measure => have := HGK.out; omega
            case rel => exact ⟨j + 1, ans ++ [rt], D', bb', F', G', by omega, by go_num, hid rfl, HSN, HOK', hid (by have := HSZ.out; have h2 := HSZ'.out; change D'.M.size ≤ _ at h2; omega), hid (by have := HP2.out.store j (.string ⟨rt.toArray⟩); rw [HK1.out] at this; rw [← HLA'.out, out_set] at this; rw [HLA'.out] at this; exact this)⟩
          · have hne : (er != 0) = true := by rw [bne_iff_ne]; exact h0
            rw [if_neg h0] at HSN
            have hadd := HADE.out
            clear h0
            go_wp2_with (first
              | (go_at_call 48; (with_reducible refine HPAR.out.mono ?_); rintro e w1 ⟨hg, v, rfl, rfl⟩; have HG1 := hid hg; clear hg)
              | (go_at_call 234; (with_reducible refine (HDO.out _ (HP.out.grown HG1.out).desk (grew_trans HP.out.grew HG1.out)).mono ?_); rintro e w2 ⟨rfl, ⟨bb', F', G', hd, hF, hG⟩, hk⟩; have hp2 := (HP.out.grown HG1.out).done hd hF hG hk; have HP2 := hid hp2; obtain ⟨d2, f2⟩ := hp2.cell HLA'.out hlt; clear hd hF hG hk hp2)
              | (go_at_call 47; (with_reducible refine (HITE.out _ HP2.out.grew).mono ?_); rintro e w3 ⟨rfl, hg3⟩; have hp3 := HP2.out.grown hg3; have HP3 := hid hp3; obtain ⟨d3, f3⟩ := hp3.cell HLA'.out hlt; clear hg3 hp3))
            go_roundg (n - (j + 1))
            case measure => have := HGK.out; omega
            case rel => exact ⟨j + 1, ans ++ [(errT er)], D', bb', F', G', by omega, by go_num, hid rfl, HSN, HOK', hid (by have := HSZ.out; have h2 := HSZ'.out; change D'.M.size ≤ _ at h2; omega), hid (by have := HP3.out.store j (.string ⟨(errT er).toArray⟩); rw [HK1.out] at this; rw [← HLA'.out, out_set] at this; rw [HLA'.out] at this; exact this)⟩
        | ask s =>
          have HSM := hid (show D.M.size + 20 < 1000000000 by have := HSZ.out; omega)
          have hdo0 := (fun (W : World) (h : DeskIs W bd bm bb D F G) (hg : Grew w W) => ask235_any A (HASK.out s rfl) bd bm bb D F G ⟨s.toArray⟩ (HLEN.out s rfl) W h HOK.out (HLA.out.grew hg))
          have e0 : (⟨s.toArray⟩ : ByteArray).data.toList = s := by simp
          rw [e0] at hdo0
          have HDO := hid hdo0
          clear hdo0 e0
          obtain ⟨⟨⟨rt, er⟩, D'⟩, hr⟩ : ∃ r, doM A D (.ask s) = r := ⟨_, rfl⟩
          rw [hr] at HDO HSN HOK' HSZ' hsm
          have HE := hid hsm
          have HADE := hid (HADD.out er hsm)
          have HITE := hid (HIT.out er hsm)
          clear hr hsm
          have hty := assert_152
          by_cases h0 : er = 0
          · subst h0
            rw [if_pos rfl] at HSN
            go_wp2_with (first
              | (go_at_call 48; (with_reducible refine HPAR.out.mono ?_); rintro e w1 ⟨hg, v, rfl, rfl⟩; have HG1 := hid hg; clear hg)
              | (go_at_call 235; (with_reducible refine (HDO.out _ (HP.out.grown HG1.out).desk (grew_trans HP.out.grew HG1.out)).mono ?_); rintro e w2 ⟨rfl, ⟨bb', F', G', hd, hF, hG⟩, hk⟩; have hp2 := (HP.out.grown HG1.out).done hd hF hG hk; have HP2 := hid hp2; obtain ⟨d2, f2⟩ := hp2.cell HLA'.out hlt; clear hd hF hG hk hp2))
            go_roundg (n - (j + 1))
            case measure => have := HGK.out; omega
            case rel => exact ⟨j + 1, ans ++ [rt], D', bb', F', G', by omega, by go_num, hid rfl, HSN, HOK', hid (by have := HSZ.out; have h2 := HSZ'.out; change D'.M.size ≤ _ at h2; omega), hid (by have := HP2.out.store j (.string ⟨rt.toArray⟩); rw [HK1.out] at this; rw [← HLA'.out, out_set] at this; rw [HLA'.out] at this; exact this)⟩
          · have hne : (er != 0) = true := by rw [bne_iff_ne]; exact h0
            rw [if_neg h0] at HSN
            have hadd := HADE.out
            clear h0
            go_wp2_with (first
              | (go_at_call 48; (with_reducible refine HPAR.out.mono ?_); rintro e w1 ⟨hg, v, rfl, rfl⟩; have HG1 := hid hg; clear hg)
              | (go_at_call 235; (with_reducible refine (HDO.out _ (HP.out.grown HG1.out).desk (grew_trans HP.out.grew HG1.out)).mono ?_); rintro e w2 ⟨rfl, ⟨bb', F', G', hd, hF, hG⟩, hk⟩; have hp2 := (HP.out.grown HG1.out).done hd hF hG hk; have HP2 := hid hp2; obtain ⟨d2, f2⟩ := hp2.cell HLA'.out hlt; clear hd hF hG hk hp2)
              | (go_at_call 47; (with_reducible refine (HITE.out _ HP2.out.grew).mono ?_); rintro e w3 ⟨rfl, hg3⟩; have hp3 := HP2.out.grown hg3; have HP3 := hid hp3; obtain ⟨d3, f3⟩ := hp3.cell HLA'.out hlt; clear hg3 hp3))
            go_roundg (n - (j + 1))
            case measure => have := HGK.out; omega
            case rel => exact ⟨j + 1, ans ++ [(errT er)], D', bb', F', G', by omega, by go_num, hid rfl, HSN, HOK', hid (by have := HSZ.out; have h2 := HSZ'.out; change D'.M.size ≤ _ at h2; omega), hid (by have := HP3.out.store j (.string ⟨(errT er).toArray⟩); rw [HK1.out] at this; rw [← HLA'.out, out_set] at this; rw [HLA'.out] at this; exact this)⟩
    · obtain rfl : j = n := by omega
      have hpm : playM A (bytesOf ls) = ans := by
        have h := HPL.out
        rw [List.take_of_length_le (by rw [List.length_map, HN.out]; exact Nat.le_refl _)] at h
        unfold playM; rw [h]
      have HPM := hid hpm
      clear hpm
      go_wp2
      go_ret2
      refine ⟨bo, rfl, HP.out.grew, ?_, HP.out.low.2.1⟩
      have h := HP.out.out
      rw [Nat.sub_self] at h
      rw [HPM.out, h]
      unfold outCells
      simp

end Go.Proofs.YtmohnddglmolgaaGreatDoor
namespace Go.Proofs.YtmohnddglmolgaaGreatDoor
open Go Go.RowKit Go.Lin Go.Lin.Kp

theorem take_succ_eq {α : Type} {l m : List α} {j : Nat} (h : l.take j = m.take j) (h2 : l[j]? = m[j]?) : l.take (j + 1) = m.take (j + 1) := by
  rw [List.take_add_one, List.take_add_one, h, h2]

set_option maxHeartbeats 2000000 in
theorem same24_any (v v' : Value) (l m : List Int) (w : World) (hv : IsInts Any w v l) (hv' : IsInts Any w v' m) :
    Calls Tryz.prog 24 #[v, v'] w fun e w' => e = .returned (.bool (l == m)) ∧ Grew w w' := by
  obtain ⟨a, cap, rfl, hm, hc⟩ := hv
  obtain ⟨a', cap', rfl, hm', hc'⟩ := hv'
  have HC := hid hc; clear hc
  have HC' := hid hc'; clear hc'
  obtain ⟨r, hr⟩ : ∃ r, (l == m) = r := ⟨_, rfl⟩
  rw [hr]
  have HR := hid hr; clear hr
  obtain ⟨n, hn⟩ : ∃ n, l.length = n := ⟨_, rfl⟩
  obtain ⟨n', hn'⟩ : ∃ n, m.length = n := ⟨_, rfl⟩
  rw [hn] at hm HC ⊢
  rw [hn'] at hm' HC' ⊢
  have HN := hid hn
  have HN' := hid hn'
  by_cases hne : n = n'
  · subst hne
    clear hn hn'
    have hg := grew_refl w
    go_enter Tryz.func24, Tryz.ntmps24
    go_wp2
    go_loopg [5] n (fun k i wr => ∃ j : Nat, j ≤ n ∧ i = .int .i64 j ∧ k = n - j ∧ Hid (l.take j = m.take j) ∧ Grew w wr)
    case atStart => exact ⟨0, by omega, rfl, rfl, hid (by simp), hg⟩
    case round =>
      clear hg
      obtain ⟨j, hj, rfl, hk, HT, hg⟩ := hrel
      have HK := hid hk; clear hk
      by_cases hlt : j < n
      · obtain ⟨b1, off1, o1, rfl, hb1, _, hcj1⟩ := HC.out j hlt
        obtain ⟨b2, off2, o2, rfl, hb2, _, hcj2⟩ := HC'.out j hlt
        have hbl1 := lt_of_obj hb1
        have hbl2 := lt_of_obj hb2
        have d1 := (hg.cell (p := ⟨b1, off1 + j, none⟩) hbl1).trans hcj1
        have d2 := (hg.cell (p := ⟨b2, off2 + j, none⟩) hbl2).trans hcj2
        clear hb1 hb2 hcj1 hcj2
        by_cases he : nth l j = nth m j
        · have hd : (nth l j != nth m j) = false := by simp [he]
          have HE := hid he; clear he
          go_wp2
          go_quiet (fail)
          go_wp2
          go_roundg (n - (j + 1))
          case measure => have := HK.out; omega
          case rel => exact ⟨j + 1, by omega, by go_num, rfl, hid (take_succ_eq HT.out (by
            have h1 : j < l.length := by rw [HN.out]; exact hlt
            have h2 : j < m.length := by rw [HN'.out]; exact hlt
            have := HE.out
            rw [nth_lt h1, nth_lt h2] at this
            rw [List.getElem?_eq_getElem h1, List.getElem?_eq_getElem h2, this])), grew_drewN hg _⟩
        · have hd : (nth l j != nth m j) = true := by simpa using he
          have HE := hid he; clear he
          go_wp2
          go_quiet (fail)
          go_wp2
          go_ret
          refine ⟨ret_bool (Eq.trans ?_ HR.out), grew_drewN hg _⟩
          symm
          rw [beq_eq_false_iff_ne]
          rintro rfl
          exact HE.out rfl
      · obtain rfl : j = n := by omega
        go_wp2
        go_ret
        refine ⟨ret_bool (Eq.trans ?_ HR.out), hg⟩
        have h1 := HT.out
        rw [List.take_of_length_le (by rw [HN.out]; omega), List.take_of_length_le (by rw [HN'.out]; omega)] at h1
        rw [h1]; simp
  · have hd : ((n : Int) != (n' : Int)) = true := by simp; omega
    have HNE := hid hne
    clear hne hn hn'
    go_enter Tryz.func24, Tryz.ntmps24
    go_wp2
    go_ret
    refine ⟨ret_bool (Eq.trans ?_ HR.out), grew_refl _⟩
    symm
    rw [beq_eq_false_iff_ne]
    rintro rfl
    exact HNE.out (HN.out.symm.trans HN'.out)

set_option maxHeartbeats 2000000 in
theorem same15_any (v v' : Value) (l m : List ByteArray) (w : World) (hv : IsWds Any w v l) (hv' : IsWds Any w v' m) :
    Calls Tryz.prog 15 #[v, v'] w fun e w' => e = .returned (.bool (decide (l = m))) ∧ Grew w w' := by
  obtain ⟨a, cap, rfl, hm, hc⟩ := hv
  obtain ⟨a', cap', rfl, hm', hc'⟩ := hv'
  have HC := hid hc; clear hc
  have HC' := hid hc'; clear hc'
  obtain ⟨r, hr⟩ : ∃ r, (decide (l = m)) = r := ⟨_, rfl⟩
  rw [hr]
  have HR := hid hr; clear hr
  obtain ⟨n, hn⟩ : ∃ n, l.length = n := ⟨_, rfl⟩
  obtain ⟨n', hn'⟩ : ∃ n, m.length = n := ⟨_, rfl⟩
  rw [hn] at hm HC ⊢
  rw [hn'] at hm' HC' ⊢
  have HN := hid hn
  have HN' := hid hn'
  by_cases hne : n = n'
  · subst hne
    clear hn hn'
    have hg := grew_refl w
    go_enter Tryz.func15, Tryz.ntmps15
    go_wp2
    go_loopg [5] n (fun k i wr => ∃ j : Nat, j ≤ n ∧ i = .int .i64 j ∧ k = n - j ∧ Hid (l.take j = m.take j) ∧ Grew w wr)
    case atStart => exact ⟨0, by omega, rfl, rfl, hid (by simp), hg⟩
    case round =>
      clear hg
      obtain ⟨j, hj, rfl, hk, HT, hg⟩ := hrel
      have HK := hid hk; clear hk
      by_cases hlt : j < n
      · obtain ⟨b1, off1, o1, rfl, hb1, _, hcj1⟩ := HC.out j hlt
        obtain ⟨b2, off2, o2, rfl, hb2, _, hcj2⟩ := HC'.out j hlt
        have hbl1 := lt_of_obj hb1
        have hbl2 := lt_of_obj hb2
        have h1 : j < l.length := by rw [HN.out]; exact hlt
        have h2 : j < m.length := by rw [HN'.out]; exact hlt
        have d1 := (hg.cell (p := ⟨b1, off1 + j, none⟩) hbl1).trans (line_cell h1 hcj1)
        have d2 := (hg.cell (p := ⟨b2, off2 + j, none⟩) hbl2).trans (line_cell h2 hcj2)
        obtain ⟨x, hx⟩ : ∃ x, l[j] = x := ⟨_, rfl⟩
        obtain ⟨y, hy⟩ : ∃ y, m[j] = y := ⟨_, rfl⟩
        rw [hx] at d1; rw [hy] at d2
        have HX := hid hx; have HY := hid hy
        clear hb1 hb2 hcj1 hcj2 hx hy
        by_cases he : x = y
        · have hd : (x.toList == y.toList) = true := by rw [he]; exact beq_self_eq_true _
          have HE := hid he; clear he
          go_wp2
          go_quiet (fail)
          go_wp2
          go_roundg (n - (j + 1))
          case measure => have := HK.out; omega
          case rel => exact ⟨j + 1, by omega, by go_num, rfl, hid (take_succ_eq HT.out (by
            rw [List.getElem?_eq_getElem h1, List.getElem?_eq_getElem h2, HX.out, HY.out, HE.out])), grew_drewN hg _⟩
        · have hd : (x.toList == y.toList) = false := by
            rw [beq_eq_false_iff_ne, ne_eq, ByteArray.toList_eq, ByteArray.toList_eq]
            intro h
            exact he (ByteArray.ext (by simpa using congrArg List.toArray h))
          have HE := hid he; clear he
          go_wp2
          go_quiet (fail)
          go_wp2
          go_ret
          refine ⟨ret_bool (Eq.trans ?_ HR.out), grew_drewN hg _⟩
          symm
          rw [decide_eq_false_iff_not]
          rintro rfl
          exact HE.out (HX.out.symm.trans HY.out)
      · obtain rfl : j = n := by omega
        go_wp2
        go_ret
        refine ⟨ret_bool (Eq.trans ?_ HR.out), hg⟩
        have h1 := HT.out
        rw [List.take_of_length_le (by rw [HN.out]; omega), List.take_of_length_le (by rw [HN'.out]; omega)] at h1
        rw [h1]; simp
  · have hd : ((n : Int) != (n' : Int)) = true := by simp; omega
    have HNE := hid hne
    clear hne hn hn'
    go_enter Tryz.func15, Tryz.ntmps15
    go_wp2
    go_ret
    refine ⟨ret_bool (Eq.trans ?_ HR.out), grew_refl _⟩
    symm
    rw [decide_eq_false_iff_not]
    rintro rfl
    exact HNE.out (HN.out.symm.trans HN'.out)

end Go.Proofs.YtmohnddglmolgaaGreatDoor
