/- Plain: a desk, and what lines do with it. Walks: ok (229), what commands do (228, 230 to 234). -/
import Derived.Test.YtmohnddglmolgaaGreatDoorKpParse
import Derived.Test.YtmohnddglmolgaaGreatDoorKpChange
namespace Go.Lin.Kp
open Go Go.Lin

structure Dk where
  M : Mem
  b : Bk

def okM (e : Int) : List UInt8 × Int := if e = 0 then ([111, 107], 0) else ([], e)

/-- What holds of each book. -/
def BkOk (b : Bk) : Prop := b.list.length ≤ 20 ∧ ∀ x ∈ b.list, isNum x = true

theorem askedB_num {M : Mem} {b : Bk} {n : Int} (h : askedB M b n = 0) : isNum n = true ∧ M.on = true := by
  unfold askedB at h
  split at h
  · cases h
  · rename_i h1
    split at h
    · rename_i h2; exact ⟨h2, by cases e : M.on; exact absurd (.inl e) h1; rfl⟩
    · cases h

theorem bkOk_add {M : Mem} {b : Bk} {n : Int} (h : BkOk b) : BkOk (M.add b n).2.1 := by
  unfold Mem.add
  split
  · rename_i h0
    split
    · exact h
    · rename_i h20
      dsimp only
      split
      · refine ⟨by simp; have := h.1; omega, fun x hx => ?_⟩
        rcases List.mem_append.1 hx with hx | hx
        · exact h.2 x hx
        · simp at hx; rw [hx]; exact (askedB_num h0).1
      · exact h
  · exact h

theorem bkOk_change {M : Mem} {b : Bk} {i n : Int} (h : BkOk b) : BkOk (M.change b i n).2.1 := by
  unfold Mem.change
  split
  · rename_i h0
    split
    · dsimp only
      split
      · refine ⟨by simp; exact h.1, fun x hx => ?_⟩
        rcases List.mem_or_eq_of_mem_set hx with hx | hx
        · exact h.2 x hx
        · rw [hx]; exact (askedB_num h0).1
      · exact h
    · exact h
  · exact h

theorem ok_undo {M : Mem} (h : Ok M) : Ok (undo M).2 := by unfold undo; split; exact ok_put h _ _; exact h
theorem ok_unnote {o : Ord} (h : Ok o.2) : Ok (unnote o).2 := by unfold unnote; split; exact h; exact ok_put h _ _
theorem ok_opened {M : Mem} (h : Ok M) (k : Nat) : Ok { M with opened := k } := ⟨h.fresh, h.kept, h.notes, h.plan, h.early, h.off⟩
theorem ok_open {M : Mem} (h : Ok M) : Ok M.open_.2.2 := by
  unfold Mem.open_
  split
  · exact ok_start h
  · dsimp only
    split
    · exact ok_opened (ok_unnote (ok_undo (ok_start h))) _
    · exact ok_unnote (ok_undo (ok_start h))

theorem bkOk_open {M : Mem} (h : Ok M) {b : Bk} (hb : M.open_.1 = some b) : BkOk b := by
  unfold Mem.open_ at hb
  split at hb
  · cases hb
  · rename_i h20
    dsimp only at hb
    split at hb
    · cases hb
      refine ⟨by simp [entriesOf]; omega, fun x hx => ?_⟩
      unfold entriesOf at hx
      obtain ⟨i, _, rfl⟩ := List.mem_map.1 hx
      exact isNum_iff.2 ((ok_unnote (ok_undo (ok_start h))).fresh _)
    · cases hb

theorem ok_add {M : Mem} (h : Ok M) (b : Bk) (n : Int) : Ok (M.add b n).2.2 := by
  unfold Mem.add
  split
  · split
    · exact h
    · exact ok_put (ok_put (o := (0, M)) h _ _) _ _
  · exact h
theorem ok_change {M : Mem} (h : Ok M) (b : Bk) (i n : Int) : Ok (M.change b i n).2.2 := by
  unfold Mem.change
  split
  · split
    · exact ok_put (ok_put (ok_put (ok_ofence (ok_oflush (ok_oflush (ok_owrite (ok_owrite (o := (0, M)) h _ _) _ _) _) _)) _ _) _ _) _ _
    · exact h
  · exact h

theorem size_add (M : Mem) (b : Bk) (n : Int) : (M.add b n).2.2.size ≤ M.size + 6 := by
  unfold Mem.add
  split
  · split
    · exact Nat.le_add_right _ _
    · have h1 := size_put (0, M) (b.list.length + 1) n
      have h2 := size_put (Ord.put (0, M) (b.list.length + 1) n) 0 (b.list.length + 1)
      unfold addO
      dsimp only at *
      omega
  · exact Nat.le_add_right _ _
theorem size_change (M : Mem) (b : Bk) (i n : Int) : (M.change b i n).2.2.size ≤ M.size + 14 := by
  unfold Mem.change
  split
  · split
    · unfold changeO
      generalize nth b.list (i - 1).toNat = was
      have s1 := size_owrite (0, M) 41 i
      have s2 := size_owrite (Ord.write (0, M) 41 i) 42 was
      generalize Ord.write (Ord.write (0, M) 41 i) 42 was = o2 at s2 ⊢
      have s3 := size_oflush o2 41
      generalize Ord.flush o2 41 = o3 at s3 ⊢
      have s4 := size_oflush o3 42
      generalize Ord.flush o3 42 = o4 at s4 ⊢
      have s5 := size_ofence o4
      generalize Ord.fence o4 = o5 at s5 ⊢
      have s6 := size_put o5 40 1
      generalize Ord.put o5 40 1 = o6 at s6 ⊢
      have s7 := size_put o6 i n
      generalize Ord.put o6 i n = o7 at s7 ⊢
      have s8 := size_put o7 40 0
      dsimp only at *
      omega
    · exact Nat.le_add_right _ _
  · exact Nat.le_add_right _ _
theorem size_fail (M : Mem) (l : List Int) : (M.fail l).size = M.size + 1 := by unfold Mem.fail Mem.size; dsimp only; omega
theorem size_crash (M : Mem) (l : List Int) : (M.crash l).2.size ≤ M.size + 1 := by
  unfold Mem.crash
  split
  · split
    · exact Nat.le_of_eq (size_fail M l)
    · exact Nat.le_succ _
  · exact Nat.le_succ _
theorem size_planned (M : Mem) (k : Int) (l : List Int) : (M.planned k l).2.size = M.size := by
  unfold Mem.planned
  split
  · split <;> rfl
  · rfl
theorem size_start' (M : Mem) : M.start.size = M.size := by unfold Mem.start; split <;> rfl
theorem size_undo (M : Mem) : (undo M).2.size ≤ M.size + 3 := by unfold undo; split; exact size_put (0, M) _ _; exact Nat.le_add_right _ _
theorem size_unnote (o : Ord) : (unnote o).2.size ≤ o.2.size + 3 := by unfold unnote; split; exact Nat.le_add_right _ _; exact size_put o _ _
theorem size_open (M : Mem) : M.open_.2.2.size ≤ M.size + 7 := by
  have h0 := size_start' M
  have h1 := size_undo M.start
  have h2 := size_unnote (undo M.start)
  unfold Mem.open_
  split
  · dsimp only; omega
  · dsimp only
    split
    · have : ({ (unnote (undo M.start)).2 with opened := (unnote (undo M.start)).2.opened + 1 } : Mem).size = (unnote (undo M.start)).2.size + 1 := by unfold Mem.size; dsimp only; omega
      dsimp only at *
      omega
    · dsimp only; omega

/-- The texts of numbers with a byte between them. -/
def joinM (by_ : UInt8) (l : List Int) : List UInt8 := Lib.join (l.map Lib.itoa) [by_]

/-- What a command does; A: what a book answers. -/
def doM (A : Bk → List UInt8 → List UInt8 × Int) (D : Dk) : Cmd → (List UInt8 × Int) × Dk
  | .add n => (okM (D.M.add D.b n).1, ⟨(D.M.add D.b n).2.2, (D.M.add D.b n).2.1⟩)
  | .change i n => (okM (D.M.change D.b i n).1, ⟨(D.M.change D.b i n).2.2, (D.M.change D.b i n).2.1⟩)
  | .fail k l => (okM (D.M.planned k l).1, ⟨(D.M.planned k l).2, D.b⟩)
  | .crash l => (okM (D.M.crash l).1, ⟨(D.M.crash l).2, D.b⟩)
  | .open_ => (okM D.M.open_.2.1, ⟨D.M.open_.2.2, D.M.open_.1.getD D.b⟩)
  | .list => ((if D.b.list.length = 0 then [45] else joinM 44 D.b.list, 0), D)
  | .ask s => (A D.b s, D)

structure DkOk (D : Dk) : Prop where
  M : Ok D.M
  b : BkOk D.b

theorem dkOk_do {A : Bk → List UInt8 → List UInt8 × Int} {D : Dk} (h : DkOk D) (c : Cmd) : DkOk (doM A D c).2 := by
  cases c with
  | add n => exact ⟨ok_add h.M _ _, bkOk_add h.b⟩
  | change i n => exact ⟨ok_change h.M _ _ _, bkOk_change h.b⟩
  | fail k l => exact ⟨ok_planned h.M _ _, h.b⟩
  | crash l => exact ⟨ok_crash h.M _, h.b⟩
  | open_ =>
    refine ⟨ok_open h.M, ?_⟩
    show BkOk (D.M.open_.1.getD D.b)
    cases e : D.M.open_.1 with
    | none => exact h.b
    | some b => exact bkOk_open h.M e
  | list => exact h
  | ask s => exact h

theorem size_do {A : Bk → List UInt8 → List UInt8 × Int} (D : Dk) (c : Cmd) : (doM A D c).2.M.size ≤ D.M.size + 14 := by
  cases c with
  | add n => have := size_add D.M D.b n; show (D.M.add D.b n).2.2.size ≤ _; omega
  | change i n => exact size_change D.M D.b i n
  | fail k l => have := size_planned D.M k l; show (D.M.planned k l).2.size ≤ _; omega
  | crash l => have := size_crash D.M l; show (D.M.crash l).2.size ≤ _; omega
  | open_ => have := size_open D.M; show D.M.open_.2.2.size ≤ _; omega
  | list => exact Nat.le_add_right _ _
  | ask s => exact Nat.le_add_right _ _

end Go.Lin.Kp
namespace Go.Proofs.YtmohnddglmolgaaGreatDoor
open Go Go.RowKit Go.Lin Go.Lin.Kp

theorem ok229_any (n : Int) (w : World) : Calls Tryz.prog 229 #[.int .i64 n] w fun e w' => e = .returned (.tuple #[.string ⟨(okM n).1.toArray⟩, .int .i64 (okM n).2]) ∧ w = w' := by
  unfold okM
  by_cases h : n = 0
  · subst h
    rw [if_pos rfl]
    go_enter Tryz.func229, Tryz.ntmps229
    go_wp2
    go_ret2
    exact ⟨rfl, rfl⟩
  · rw [if_neg h]
    have e1 : (n != 0) = true := by rw [bne_iff_ne]; exact h
    clear h
    go_enter Tryz.func229, Tryz.ntmps229
    go_wp2
    go_ret2
    exact ⟨rfl, rfl⟩

/-- A desk: a memory, and the book on it. -/
structure DeskIs (w : World) (bd bm bb : Nat) (D : Dk) (F G : Nat → Prop) : Prop where
  obj : w.heap[bd]? = some (.cells #[ptr bm, ptr bb] 106 (0, 0))
  mem : IsMem w bm D.M F
  book : IsBook w bb bm D.b G
  dF : ¬ F bd
  dG : ¬ G bd
  disj : ∀ k, F k → ¬ G k

theorem DeskIs.c0 {w : World} {bd bm bb : Nat} {D : Dk} {F G : Nat → Prop} (h : DeskIs w bd bm bb D F G) : w.cell? ⟨bd, 0, none⟩ = some (ptr bm) := cell_of_row w bd 0 _ _ _ h.obj
theorem DeskIs.c1 {w : World} {bd bm bb : Nat} {D : Dk} {F G : Nat → Prop} (h : DeskIs w bd bm bb D F G) : w.cell? ⟨bd, 1, none⟩ = some (ptr bb) := cell_of_row w bd 1 _ _ _ h.obj
theorem DeskIs.grew {w w' : World} {bd bm bb : Nat} {D : Dk} {F G : Nat → Prop} (h : DeskIs w bd bm bb D F G) (hg : Grew w w') : DeskIs w' bd bm bb D F G :=
  ⟨(hg.block _ (lt_of_obj h.obj)).trans h.obj, h.mem.grew hg, h.book.grew hg, h.dF, h.dG, h.disj⟩
theorem DeskIs.ltF {w : World} {bd bm bb : Nat} {D : Dk} {F G : Nat → Prop} (h : DeskIs w bd bm bb D F G) : ∀ k, F k → k < w.heap.size := by obtain ⟨_, _, hm⟩ := h.mem; exact hm.lt
theorem DeskIs.ltG {w : World} {bd bm bb : Nat} {D : Dk} {F G : Nat → Prop} (h : DeskIs w bd bm bb D F G) : ∀ k, G k → k < w.heap.size := by obtain ⟨_, hm⟩ := h.book; exact hm.lt

/-- What a command leaves. -/
def DoneLeft (w : World) (bd bm : Nat) (F G : Nat → Prop) (r : (List UInt8 × Int) × Dk) (e : Ending) (w' : World) : Prop :=
  e = .returned (.tuple #[.string ⟨r.1.1.toArray⟩, .int .i64 r.1.2]) ∧ (∃ bb' F' G', DeskIs w' bd bm bb' r.2 F' G' ∧ Wider w F F' ∧ Wider w G G') ∧ Keeps (fun k _ => F k ∨ G k ∨ k = bd) w w'

theorem Keeps.ofGrewDrew {may : Nat → Obj → Prop} {w W : World} (h : Grew w W) : Keeps may w W := Grew.keeps h

theorem desk_after {W w2 : World} {bd bm bb bb' : Nat} {D : Dk} {M' : Mem} {b' : Bk} {F G F' G' : Nat → Prop} (h : DeskIs W bd bm bb D F G) (hm : IsMem w2 bm M' F') (hF : Wider W F F') (hb : IsBook w2 bb' bm b' G') (hG : Wider W G G') (ho : w2.heap[bd]? = some (.cells #[ptr bm, ptr bb'] 106 (0, 0))) (hd : ∀ k, F' k → ¬ G' k) :
    DeskIs w2 bd bm bb' ⟨M', b'⟩ F' G' := by
  have hl := lt_of_obj h.obj
  exact ⟨ho, hm, hb, fun e => (hF bd e).elim h.dF (fun e => by omega), fun e => (hG bd e).elim h.dG (fun e => by omega), hd⟩

theorem wider_disj1 {W : World} {bd bm bb : Nat} {D : Dk} {F G G' : Nat → Prop} (h : DeskIs W bd bm bb D F G) (hG : Wider W G G') : ∀ k, F k → ¬ G' k := fun k hF hG' => (hG k hG').elim (h.disj k hF) (fun e => by have := h.ltF k hF; omega)
theorem wider_disj2 {W : World} {bd bm bb : Nat} {D : Dk} {F G F' : Nat → Prop} (h : DeskIs W bd bm bb D F G) (hF : Wider W F F') : ∀ k, F' k → ¬ G k := fun k hF' hG => (hF k hF').elim (fun e => h.disj k e hG) (fun e => by have := h.ltG k hG; omega)

set_option maxHeartbeats 1000000 in
theorem add228_any (A : Bk → List UInt8 → List UInt8 × Int) (bd bm bb : Nat) (D : Dk) (F G : Nat → Prop) (n : Int) (w : World) (h : DeskIs w bd bm bb D F G) (hok : DkOk D) (hsz : D.M.size + 20 < 1000000000) :
    Calls Tryz.prog 228 #[.agg #[.int .i64 n], ptr bd] w (DoneLeft w bd bm F G (doM A D (.add n))) := by
  obtain ⟨w1, hw1, g1, k0, hz1⟩ := box1 w (.int .i64 n) 141
  have h1 := h.grew g1
  have HC := hid (fun (W : World) (hh : DeskIs W bd bm bb D F G) (hg : Grew w W) => add31_any bb bm D.b D.M F G n W hh.book hh.mem h.disj hok.M (by omega) hok.b.1)
  have HOK := hid (fun e W => ok229_any e W)
  have d1 := h1.c1
  have HD1 := hid h1; have HD := hid h; have HG1 := hid g1
  have hbd : bd < w.heap.size := lt_of_obj h.obj
  have HZF := hid (fun (e : F w.heap.size) => (by have := h.ltF _ e; omega : False))
  have HZG := hid (fun (e : G w.heap.size) => (by have := h.ltG _ e; omega : False))
  clear h hok hsz h1 g1
  go_enter Tryz.func228, Tryz.ntmps228
  go_wp2
  go_region_held3 (fun w' => w'.cell? ⟨bd, 1, none⟩ = some (ptr bb) ∧ w'.cell? ⟨w.heap.size, 0, none⟩ = some (.int .i64 n)) (first | exact ⟨d1, k0⟩ | exact ⟨d2, l0⟩)
    ((first
      | (go_at_call 31; (with_reducible refine (HC.out _ (HD1.out.grew (by repeat' (first | exact grew_refl _ | refine grew_drew ?_))) (grew_trans HG1.out (by repeat' (first | exact grew_refl _ | refine grew_drew ?_)))).mono ?_); rintro e w2 ⟨rfl, hm, ⟨G', hb, hwd⟩, hk⟩; have hkk : Keeps (fun k _ => F k ∨ G k) w1 w2 := (Keeps.ofGrewDrew (show Grew w1 _ by repeat' (first | exact grew_refl _ | refine grew_drew ?_))).trans hk; have ho2 := hkk.obj _ _ HD1.out.obj (fun e => e.elim HD1.out.dF HD1.out.dG); have hwd1 : Wider w1 G G' := (fun k e => (hwd k e).imp id (fun e => Nat.le_trans (show w1.heap.size ≤ _ by first | exact Nat.le_refl _ | (simp; done)) e)); have hD2 := desk_after HD1.out hm (fun k e => .inl e) hb hwd1 ho2 (wider_disj1 HD1.out hwd1); have hbx := hkk.obj w.heap.size _ (Array.getElem?_eq_getElem hz1) (fun e => e.elim HZF.out HZG.out); have d2 := hD2.c1; have l0 := cell_of_obj (Array.getElem?_eq_getElem hz1) hbx k0; have HD2 := hid hD2; have HWD := hid hwd1; have HKK := hid hkk; clear hm hk hkk ho2 hD2 hbx hb hwd hwd1)
      | (go_at_call 229; (with_reducible refine (HOK.out _ _).mono ?_); rintro e w3 ⟨rfl, rfl⟩)))
  go_wp2
  go_ret2
  exact ⟨rfl, ⟨bb, F, G', HD2.out.grew (by repeat' (first | exact grew_refl _ | refine grew_drew ?_)), fun k e => .inl e, fun k e => (HWD.out k e).imp id (fun e => Nat.le_trans HG1.out.size e)⟩, (Keeps.trans (HG1.out.keeps) ((HKK.out.mono (fun k _ e => by rcases e with e | e; exact .inl e; exact .inr (.inl e))))).trans (Grew.keeps (by repeat' (first | exact grew_refl _ | refine grew_drew ?_)))⟩

set_option maxHeartbeats 1000000 in
theorem change230_any (A : Bk → List UInt8 → List UInt8 × Int) (bd bm bb : Nat) (D : Dk) (F G : Nat → Prop) (i n : Int) (w : World) (h : DeskIs w bd bm bb D F G) (hok : DkOk D) (hsz : D.M.size + 20 < 1000000000) :
    Calls Tryz.prog 230 #[.agg #[.int .i64 i, .int .i64 n], ptr bd] w (DoneLeft w bd bm F G (doM A D (.change i n))) := by
  obtain ⟨w1, hw1, g1, k0, k1, hz1⟩ := box2 w (.int .i64 i) (.int .i64 n) 143
  have h1 := h.grew g1
  have HC := hid (fun (W : World) (hh : DeskIs W bd bm bb D F G) (hg : Grew w W) => change32_any bb bm D.b D.M F G i n W hh.book hh.mem h.disj hok.M (by omega) hok.b.1)
  have HOK := hid (fun e W => ok229_any e W)
  have d1 := h1.c1
  have HD1 := hid h1; have HD := hid h; have HG1 := hid g1
  have hbd : bd < w.heap.size := lt_of_obj h.obj
  have HZF := hid (fun (e : F w.heap.size) => (by have := h.ltF _ e; omega : False))
  have HZG := hid (fun (e : G w.heap.size) => (by have := h.ltG _ e; omega : False))
  clear h hok hsz h1 g1
  go_enter Tryz.func230, Tryz.ntmps230
  go_wp2
  go_region_held3 (fun w' => w'.cell? ⟨bd, 1, none⟩ = some (ptr bb) ∧ w'.cell? ⟨w.heap.size, 0, none⟩ = some (.int .i64 i) ∧ w'.cell? ⟨w.heap.size, 1, none⟩ = some (.int .i64 n)) (first | exact ⟨d1, k0, k1⟩ | exact ⟨d2, l0, l1⟩)
    ((first
      | (go_at_call 32; (with_reducible refine (HC.out _ (HD1.out.grew (by repeat' (first | exact grew_refl _ | refine grew_drew ?_))) (grew_trans HG1.out (by repeat' (first | exact grew_refl _ | refine grew_drew ?_)))).mono ?_); rintro e w2 ⟨rfl, hm, ⟨G', hb, hwd⟩, hk⟩; have hkk : Keeps (fun k _ => F k ∨ G k) w1 w2 := (Keeps.ofGrewDrew (show Grew w1 _ by repeat' (first | exact grew_refl _ | refine grew_drew ?_))).trans hk; have ho2 := hkk.obj _ _ HD1.out.obj (fun e => e.elim HD1.out.dF HD1.out.dG); have hwd1 : Wider w1 G G' := (fun k e => (hwd k e).imp id (fun e => Nat.le_trans (show w1.heap.size ≤ _ by first | exact Nat.le_refl _ | (simp; done)) e)); have hD2 := desk_after HD1.out hm (fun k e => .inl e) hb hwd1 ho2 (wider_disj1 HD1.out hwd1); have hbx := hkk.obj w.heap.size _ (Array.getElem?_eq_getElem hz1) (fun e => e.elim HZF.out HZG.out); have d2 := hD2.c1; have l0 := cell_of_obj (Array.getElem?_eq_getElem hz1) hbx k0; have l1 := cell_of_obj (Array.getElem?_eq_getElem hz1) hbx k1; have HD2 := hid hD2; have HWD := hid hwd1; have HKK := hid hkk; clear hm hk hkk ho2 hD2 hbx hb hwd hwd1)
      | (go_at_call 229; (with_reducible refine (HOK.out _ _).mono ?_); rintro e w3 ⟨rfl, rfl⟩)))
  go_wp2
  go_ret2
  exact ⟨rfl, ⟨bb, F, G', HD2.out.grew (by repeat' (first | exact grew_refl _ | refine grew_drew ?_)), fun k e => .inl e, fun k e => (HWD.out k e).imp id (fun e => Nat.le_trans HG1.out.size e)⟩, (Keeps.trans (HG1.out.keeps) ((HKK.out.mono (fun k _ e => by rcases e with e | e; exact .inl e; exact .inr (.inl e))))).trans (Grew.keeps (by repeat' (first | exact grew_refl _ | refine grew_drew ?_)))⟩

set_option maxHeartbeats 1000000 in
theorem crash231_any (A : Bk → List UInt8 → List UInt8 × Int) (bd bm bb : Nat) (D : Dk) (F G : Nat → Prop) (l : List Int) (ua : Option Addr) (uc base : Nat) (w : World) (hs : Seg w base 3 1 (.slice ua l.length uc) l.length (l.map (.int .i64))) (h : DeskIs w bd bm bb D F G) (_hok : DkOk D) (hsz : D.M.size + 20 < 1000000000) :
    Calls Tryz.prog 231 #[.agg #[.slice ua l.length uc], ptr bd] w (DoneLeft w bd bm F G (doM A D (.crash l))) := by
  obtain ⟨w1, hw1, g1, k0, hz1⟩ := box1 w (.slice ua l.length uc) 146
  have h1 := h.grew g1
  have HC := hid (fun (W : World) (hh : DeskIs W bd bm bb D F G) (hg : Grew w W) => crash30_any bm D.M F _ l _ W hh.mem (by omega) (Reads.re' (hs.grew hg).isInts (S' := fun k _ => k ≠ bm) (fun k o ho hS e => by obtain ⟨_, cur, rfl⟩ := hS; subst e; obtain ⟨_, _, hm⟩ := hh.mem; obtain ⟨c, hc, _⟩ := hm.row; rw [ho] at hc; cases hc)) (fun _ _ e => e))
  have HOK := hid (fun e W => ok229_any e W)
  have d1 := h1.c0
  have HD1 := hid h1; have HD := hid h; have HG1 := hid g1
  have hbd : bd < w.heap.size := lt_of_obj h.obj
  have HZF := hid (fun (e : F w.heap.size) => (by have := h.ltF _ e; omega : False))
  have HZG := hid (fun (e : G w.heap.size) => (by have := h.ltG _ e; omega : False))
  clear h hsz h1 g1
  go_enter Tryz.func231, Tryz.ntmps231
  go_wp2
  go_region_held3 (fun w' => w'.cell? ⟨bd, 0, none⟩ = some (ptr bm) ∧ w'.cell? ⟨w.heap.size, 0, none⟩ = some (.slice ua l.length uc)) (first | exact ⟨d1, k0⟩ | exact ⟨d2, l0⟩)
    ((first
      | (go_at_call 30; (with_reducible refine (HC.out _ (HD1.out.grew (by repeat' (first | exact grew_refl _ | refine grew_drew ?_))) (grew_trans HG1.out (by repeat' (first | exact grew_refl _ | refine grew_drew ?_)))).mono ?_); rintro e w2 ⟨rfl, hm, hk⟩; have hkk : Keeps (fun k _ => F k ∨ G k) w1 w2 := (Keeps.ofGrewDrew (show Grew w1 _ by repeat' (first | exact grew_refl _ | refine grew_drew ?_))).trans (hk.mono (fun _ _ e => .inl e)); have ho2 := hkk.obj _ _ HD1.out.obj (fun e => e.elim HD1.out.dF HD1.out.dG); have hkb : Keeps (InF F) w1 w2 := (Keeps.ofGrewDrew (show Grew w1 _ by repeat' (first | exact grew_refl _ | refine grew_drew ?_))).trans hk; have hD2 := desk_after HD1.out hm (fun k e => .inl e) (HD1.out.book.keeps hkb (fun k _ hG hF => HD1.out.disj k hF hG)) (fun k e => .inl e) ho2 HD1.out.disj; have hbx := hkk.obj w.heap.size _ (Array.getElem?_eq_getElem hz1) (fun e => e.elim HZF.out HZG.out); have d2 := hD2.c0; have l0 := cell_of_obj (Array.getElem?_eq_getElem hz1) hbx k0; have HD2 := hid hD2; have HKK := hid hkk; clear hm hk hkk ho2 hD2 hbx hkb)
      | (go_at_call 229; (with_reducible refine (HOK.out _ _).mono ?_); rintro e w3 ⟨rfl, rfl⟩)))
  go_wp2
  go_ret2
  exact ⟨rfl, ⟨bb, F, G, HD2.out.grew (by repeat' (first | exact grew_refl _ | refine grew_drew ?_)), fun k e => .inl e, fun k e => .inl e⟩, (Keeps.trans (HG1.out.keeps) ((HKK.out.mono (fun k _ e => by rcases e with e | e; exact .inl e; exact .inr (.inl e))))).trans (Grew.keeps (by repeat' (first | exact grew_refl _ | refine grew_drew ?_)))⟩

set_option maxHeartbeats 1000000 in
theorem fail232_any (A : Bk → List UInt8 → List UInt8 × Int) (bd bm bb : Nat) (D : Dk) (F G : Nat → Prop) (k : Int) (l : List Int) (ua : Option Addr) (uc base : Nat) (w : World) (hs : Seg w base 3 1 (.slice ua l.length uc) l.length (l.map (.int .i64))) (h : DeskIs w bd bm bb D F G) (_hok : DkOk D) (_hsz : D.M.size + 20 < 1000000000) :
    Calls Tryz.prog 232 #[.agg #[.int .i64 k, .slice ua l.length uc], ptr bd] w (DoneLeft w bd bm F G (doM A D (.fail k l))) := by
  obtain ⟨w1, hw1, g1, k0, k1, hz1⟩ := box2 w (.int .i64 k) (.slice ua l.length uc) 148
  have h1 := h.grew g1
  have HC := hid (fun (W : World) (hh : DeskIs W bd bm bb D F G) (hg : Grew w W) => fail20_any bm D.M F k _ l W hh.mem (hs.grew hg).isInts.any)
  have HOK := hid (fun e W => ok229_any e W)
  have d1 := h1.c0
  have HD1 := hid h1; have HD := hid h; have HG1 := hid g1
  have hbd : bd < w.heap.size := lt_of_obj h.obj
  have HZF := hid (fun (e : F w.heap.size) => (by have := h.ltF _ e; omega : False))
  have HZG := hid (fun (e : G w.heap.size) => (by have := h.ltG _ e; omega : False))
  clear h h1 g1
  go_enter Tryz.func232, Tryz.ntmps232
  go_wp2
  go_region_held3 (fun w' => w'.cell? ⟨bd, 0, none⟩ = some (ptr bm) ∧ w'.cell? ⟨w.heap.size, 0, none⟩ = some (.int .i64 k) ∧ w'.cell? ⟨w.heap.size, 1, none⟩ = some (.slice ua l.length uc)) (first | exact ⟨d1, k0, k1⟩ | exact ⟨d2, l0, l1⟩)
    ((first
      | (go_at_call 20; (with_reducible refine (HC.out _ (HD1.out.grew (by repeat' (first | exact grew_refl _ | refine grew_drew ?_))) (grew_trans HG1.out (by repeat' (first | exact grew_refl _ | refine grew_drew ?_)))).mono ?_); rintro e w2 ⟨rfl, hk, F', hm, hwd⟩; have hkk : Keeps (fun k _ => F k ∨ G k) w1 w2 := (Keeps.ofGrewDrew (show Grew w1 _ by repeat' (first | exact grew_refl _ | refine grew_drew ?_))).trans (hk.mono (fun _ _ e => .inl e)); have ho2 := hkk.obj _ _ HD1.out.obj (fun e => e.elim HD1.out.dF HD1.out.dG); have hwd1 : Wider w1 F F' := (fun k e => (hwd k e).imp id (fun e => Nat.le_trans (show w1.heap.size ≤ _ by first | exact Nat.le_refl _ | (simp; done)) e)); have hkb : Keeps (InF F) w1 w2 := (Keeps.ofGrewDrew (show Grew w1 _ by repeat' (first | exact grew_refl _ | refine grew_drew ?_))).trans hk; have hD2 := desk_after HD1.out hm hwd1 (HD1.out.book.keeps hkb (fun k _ hG hF => HD1.out.disj k hF hG)) (fun k e => .inl e) ho2 (wider_disj2 HD1.out hwd1); have hbx := hkk.obj w.heap.size _ (Array.getElem?_eq_getElem hz1) (fun e => e.elim HZF.out HZG.out); have d2 := hD2.c0; have l0 := cell_of_obj (Array.getElem?_eq_getElem hz1) hbx k0; have l1 := cell_of_obj (Array.getElem?_eq_getElem hz1) hbx k1; have HD2 := hid hD2; have HWD := hid hwd1; have HKK := hid hkk; clear hm hk hkk ho2 hD2 hbx hwd hwd1 hkb)
      | (go_at_call 229; (with_reducible refine (HOK.out _ _).mono ?_); rintro e w3 ⟨rfl, rfl⟩)))
  go_wp2
  go_ret2
  exact ⟨rfl, ⟨bb, F', G, HD2.out.grew (by repeat' (first | exact grew_refl _ | refine grew_drew ?_)), fun k e => (HWD.out k e).imp id (fun e => Nat.le_trans HG1.out.size e), fun k e => .inl e⟩, (Keeps.trans (HG1.out.keeps) ((HKK.out.mono (fun k _ e => by rcases e with e | e; exact .inl e; exact .inr (.inl e))))).trans (Grew.keeps (by repeat' (first | exact grew_refl _ | refine grew_drew ?_)))⟩

end Go.Proofs.YtmohnddglmolgaaGreatDoor
