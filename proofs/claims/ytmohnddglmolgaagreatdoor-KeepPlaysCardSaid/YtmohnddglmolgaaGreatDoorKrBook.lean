/- The reference's book; walks: gone (107), Add (80), Change (81). -/
import Derived.Test.YtmohnddglmolgaaGreatDoorKrOps
import Derived.Test.YtmohnddglmolgaaGreatDoorKrM
namespace Go.Lin.Kp
open Go Go.Lin

/-- Whether a book can do nothing any more. -/
def goneM (M : Mem) (b : Bk) : Bool := !M.on || (M.fails != b.fails || M.opened != b.opened)

theorem asked_gone {M : Mem} {b : Bk} (h : Le M b) (n : Int) : askedB M b n = if goneM M b = true then 101 else if isNum n = true then 0 else 103 := by
  have hg := gone_iff h
  unfold askedB
  by_cases e : M.on = false ∨ b.fails + b.opened ≠ M.fails + M.opened
  · have e2 := hg.1 e
    have : goneM M b = true := by
      unfold goneM
      rcases e2 with e2 | e2 | e2
      · rw [e2]; rfl
      · rw [Bool.or_eq_true, Bool.or_eq_true]; exact .inr (.inl (bne_iff_ne.2 e2))
      · rw [Bool.or_eq_true, Bool.or_eq_true]; exact .inr (.inr (bne_iff_ne.2 e2))
    rw [if_pos e, if_pos this]
  · have : ¬ goneM M b = true := by
      intro h2
      apply e
      apply hg.2
      unfold goneM at h2
      rw [Bool.or_eq_true, Bool.or_eq_true] at h2
      rcases h2 with h2 | h2 | h2
      · left; cases ho : M.on
        · rfl
        · rw [ho] at h2; cases h2
      · exact .inr (.inl (bne_iff_ne.1 h2))
      · exact .inr (.inr (bne_iff_ne.1 h2))
    rw [if_neg e, if_neg this]

end Go.Lin.Kp
namespace Go.Proofs.YtmohnddglmolgaaGreatDoor
open Go Go.RowKit Go.Lin Go.Lin.Kp

/-- The reference's book b in block bb, its memory in bm. G: its blocks. -/
structure RBookIs (w : World) (bb bm : Nat) (u : Value) (b : Bk) (G : Nat → Prop) : Prop where
  obj : w.heap[bb]? = some (.cells #[ptr bm, u, .int .i64 (b.fails : Int), .int .i64 (b.opened : Int)] 81 (0, 0))
  list : IsInts (fun k _ => G k ∧ k ≠ bb) w u b.list
  inB : G bb
  lt : ∀ k, G k → k < w.heap.size

def IsRBook (w : World) (bb bm : Nat) (b : Bk) (G : Nat → Prop) : Prop := ∃ u, RBookIs w bb bm u b G

section
variable {w w' : World} {bb bm : Nat} {u : Value} {b : Bk} {G : Nat → Prop}
theorem RBookIs.keeps {may : Nat → Obj → Prop} (h : RBookIs w bb bm u b G) (hk : Keeps may w w') (hm : ∀ k o, G k → ¬ may k o) : RBookIs w' bb bm u b G :=
  ⟨hk.obj _ _ h.obj (hm _ _ h.inB), h.list.keeps hk (fun k o hs => hm k o hs.1), h.inB, fun k e => Nat.lt_of_lt_of_le (h.lt k e) hk.size⟩
theorem IsRBook.keeps {may : Nat → Obj → Prop} (h : IsRBook w bb bm b G) (hk : Keeps may w w') (hm : ∀ k o, G k → ¬ may k o) : IsRBook w' bb bm b G := by
  obtain ⟨u, h⟩ := h; exact ⟨u, h.keeps hk hm⟩
theorem RBookIs.grew (h : RBookIs w bb bm u b G) (hg : Grew w w') : RBookIs w' bb bm u b G := h.keeps (may := fun _ _ => False) hg.keeps (fun _ _ _ h => h)
theorem IsRBook.grew (h : IsRBook w bb bm b G) (hg : Grew w w') : IsRBook w' bb bm b G := h.keeps (may := fun _ _ => False) hg.keeps (fun _ _ _ h => h)
theorem IsRBook.ltG (h : IsRBook w bb bm b G) : ∀ k, G k → k < w.heap.size := by obtain ⟨u, h⟩ := h; exact h.lt
theorem IsRBook.inB (h : IsRBook w bb bm b G) : G bb := by obtain ⟨u, h⟩ := h; exact h.inB
theorem RBookIs.c0 (h : RBookIs w bb bm u b G) : w.cell? ⟨bb, 0, none⟩ = some (ptr bm) := by have := cell_of_row w bb 0 _ _ _ h.obj; simpa using this
theorem RBookIs.c1 (h : RBookIs w bb bm u b G) : w.cell? ⟨bb, 1, none⟩ = some u := by have := cell_of_row w bb 1 _ _ _ h.obj; simpa using this
theorem RBookIs.c2 (h : RBookIs w bb bm u b G) : w.cell? ⟨bb, 2, none⟩ = some (.int .i64 (b.fails : Int)) := by have := cell_of_row w bb 2 _ _ _ h.obj; simpa using this
theorem RBookIs.c3 (h : RBookIs w bb bm u b G) : w.cell? ⟨bb, 3, none⟩ = some (.int .i64 (b.opened : Int)) := by have := cell_of_row w bb 3 _ _ _ h.obj; simpa using this
theorem RBookIs.f1 (h : RBookIs w bb bm u b G) : w.frozen? ⟨bb, 1, none⟩ = false := frozen_of_row w bb 1 _ _ h.obj
end

theorem bneI (a b : Nat) : ((a : Int) != (b : Int)) = (a != b) := by
  rw [Bool.eq_iff_iff, bne_iff_ne, bne_iff_ne]; omega

set_option maxHeartbeats 4000000 in
set_option maxRecDepth 20000 in
theorem rgone107_any (bb bm : Nat) (b : Bk) (M : Mem) (F G : Nat → Prop) (w : World) (hb : IsRBook w bb bm b G) (hm : IsRMem w bm M F) :
    Calls Tryz.prog 107 #[ptr bb] w fun e w' => e = .returned (.bool (goneM M b)) ∧ Grew w w' := by
  obtain ⟨u, hb⟩ := hb
  obtain ⟨ov, hm⟩ := hm
  have c0 := hb.c0; have c2 := hb.c2; have c3 := hb.c3
  have m0 := hm.cOn; have m1 := hm.cFa; have m2 := hm.cO
  have hlb : bb < w.heap.size := lt_of_obj hb.obj
  have hlm : bm < w.heap.size := hm.row.lt
  have b1 := bneI M.fails b.fails
  have b2 := bneI M.opened b.opened
  unfold goneM
  obtain ⟨o, ho⟩ : ∃ o, M.on = o := ⟨_, rfl⟩
  obtain ⟨x1, hx1⟩ : ∃ o, (M.fails != b.fails) = o := ⟨_, rfl⟩
  obtain ⟨x2, hx2⟩ : ∃ o, (M.opened != b.opened) = o := ⟨_, rfl⟩
  rw [ho] at m0 ⊢
  rw [hx1] at b1 ⊢
  rw [hx2] at b2 ⊢
  obtain ⟨p1, hp1⟩ : ∃ p : Int, (M.fails : Int) = p := ⟨_, rfl⟩
  obtain ⟨p2, hp2⟩ : ∃ p : Int, (M.opened : Int) = p := ⟨_, rfl⟩
  obtain ⟨q1, hq1⟩ : ∃ p : Int, (b.fails : Int) = p := ⟨_, rfl⟩
  obtain ⟨q2, hq2⟩ : ∃ p : Int, (b.opened : Int) = p := ⟨_, rfl⟩
  rw [hp1] at m1 b1
  rw [hp2] at m2 b2
  rw [hq1] at c2 b1
  rw [hq2] at c3 b2
  clear hb hm ho hx1 hx2 hp1 hp2 hq1 hq2
  cases o
  · go_enter Tryz.func107, Tryz.ntmps107
    go_wp2
    refine wp_region_later (by kernel_rfl) (by kernel_rfl) (fun hL => ?_)
    (try simp only [List.append_eq, List.cons_append, List.nil_append])
    repeat (go_big_quiet_step (fail))
    refine wpQuiet_nil ?_
    rintro wy ⟨y, hy⟩
    have hgy : Grew w wy := by rw [hy]; exact y.2
    clear hL hy y
    go_wp2
    go_ret
    exact ⟨rfl, hgy⟩
  · cases x1
    · cases x2
      all_goals (
        go_enter Tryz.func107, Tryz.ntmps107
        go_wp2
        refine wp_region_later (by kernel_rfl) (by kernel_rfl) (fun hL => ?_)
        (try simp only [List.append_eq, List.cons_append, List.nil_append])
        repeat (go_big_quiet_step (fail))
        refine wpQuiet_nil ?_
        rintro wy ⟨y, hy⟩
        have hgy : Grew w wy := by rw [hy]; exact y.2
        clear hL hy y
        go_wp2
        go_ret
        exact ⟨rfl, hgy⟩)
    · clear b2
      go_enter Tryz.func107, Tryz.ntmps107
      go_wp2
      refine wp_region_later (by kernel_rfl) (by kernel_rfl) (fun hL => ?_)
      (try simp only [List.append_eq, List.cons_append, List.nil_append])
      repeat (go_big_quiet_step (fail))
      refine wpQuiet_nil ?_
      rintro wy ⟨y, hy⟩
      have hgy : Grew w wy := by rw [hy]; exact y.2
      clear hL hy y
      go_wp2
      go_ret
      exact ⟨rfl, hgy⟩

/-- What a deed of the reference leaves. -/
def RDeed (w : World) (bb bm : Nat) (F G : Nat → Prop) (r : Int × Bk × Mem) (e : Ending) (w' : World) : Prop :=
  e = .returned (.int .i64 r.1) ∧ IsRMem w' bm r.2.2 F ∧ (∃ G', IsRBook w' bb bm r.2.1 G' ∧ Wider w G G') ∧ Keeps (fun k _ => F k ∨ G k) w w'

end Go.Proofs.YtmohnddglmolgaaGreatDoor
