/- Walks: a book: none (51), asked (64), Entries (19), Open (41). -/
import Derived.Test.YtmohnddglmolgaaGreatDoorKpOrd
import Derived.BigQuiet
import Derived.Deep.QuietTactic
namespace Go.Proofs.YtmohnddglmolgaaGreatDoor
open Go Go.RowKit Go.Lin Go.Lin.Kp

/-- Block bb is the book b on the memory bm, its entries in the slice v. G: its blocks. -/
structure BookIs (w : World) (bb bm : Nat) (v : Value) (b : Bk) (G : Nat → Prop) : Prop where
  obj : w.heap[bb]? = some (.cells #[ptr bm, .int .i64 ((b.fails + b.opened : Nat) : Int), v] 96 (0, 0))
  list : Seg w 0 3 1 v b.list.length (b.list.map (.int .i64))
  inB : G bb
  inL : ∀ k, v.ownBlock = some k → G k
  lt : ∀ k, G k → k < w.heap.size

def IsBook (w : World) (bb bm : Nat) (b : Bk) (G : Nat → Prop) : Prop := ∃ v, BookIs w bb bm v b G

section
variable {w w' : World} {bb bm : Nat} {v : Value} {b : Bk} {G : Nat → Prop}
theorem BookIs.c0 (h : BookIs w bb bm v b G) : w.cell? ⟨bb, 0, none⟩ = some (ptr bm) := cell_of_row w bb 0 _ _ _ h.obj
theorem BookIs.c1 (h : BookIs w bb bm v b G) : w.cell? ⟨bb, 1, none⟩ = some (.int .i64 ((b.fails + b.opened : Nat) : Int)) := cell_of_row w bb 1 _ _ _ h.obj
theorem BookIs.c2 (h : BookIs w bb bm v b G) : w.cell? ⟨bb, 2, none⟩ = some v := cell_of_row w bb 2 _ _ _ h.obj
theorem BookIs.fr (h : BookIs w bb bm v b G) (i : Nat) : w.frozen? ⟨bb, i, none⟩ = false := frozen_of_row w bb i _ _ h.obj
theorem BookIs.keeps {may : Nat → Obj → Prop} (h : BookIs w bb bm v b G) (hk : Keeps may w w') (hm : ∀ k o, G k → ¬ may k o) : BookIs w' bb bm v b G :=
  ⟨hk.obj _ _ h.obj (hm _ _ h.inB), h.list.keeps hk (fun k o e _ => hm k o (h.inL k e)), h.inB, h.inL, fun k hG => Nat.lt_of_lt_of_le (h.lt k hG) hk.size⟩
theorem IsBook.keeps {may : Nat → Obj → Prop} (h : IsBook w bb bm b G) (hk : Keeps may w w') (hm : ∀ k o, G k → ¬ may k o) : IsBook w' bb bm b G := by
  obtain ⟨v, h⟩ := h; exact ⟨v, h.keeps hk hm⟩
theorem BookIs.grew (h : BookIs w bb bm v b G) (hg : Grew w w') : BookIs w' bb bm v b G := h.keeps (may := fun _ _ => False) hg.keeps (fun _ _ _ h => h)
theorem IsBook.grew (h : IsBook w bb bm b G) (hg : Grew w w') : IsBook w' bb bm b G := h.keeps (may := fun _ _ => False) hg.keeps (fun _ _ _ h => h)
end

theorem none51_book (bb bm : Nat) (b : Bk) (G : Nat → Prop) (w : World) (h : IsBook w bb bm b G) : Calls Tryz.prog 51 #[ptr bb] w fun e w' => e = .returned (.bool false) ∧ w = w' := by
  obtain ⟨v, h⟩ := h
  have c0 := h.c0
  clear h
  go_enter Tryz.func51, Tryz.ntmps51
  go_wp2
  go_ret
  exact ⟨rfl, rfl⟩

/-- No book: whatever asks it says so. -/
def NoBook (v : Value) : Prop := ∀ w, Calls Tryz.prog 51 #[v] w fun e w' => e = .returned (.bool true) ∧ w = w'

theorem noBook_nil : NoBook (.pointer none) := fun w => by
  go_enter Tryz.func51, Tryz.ntmps51
  go_wp2
  go_ret
  exact ⟨rfl, rfl⟩

theorem none51_zero (bb : Nat) (w : World) (c0 : w.cell? ⟨bb, 0, none⟩ = some (.pointer none)) : Calls Tryz.prog 51 #[ptr bb] w fun e w' => e = .returned (.bool true) ∧ w = w' := by
  go_enter Tryz.func51, Tryz.ntmps51
  go_wp2
  go_ret
  exact ⟨rfl, rfl⟩

theorem entries19_any (bb bm : Nat) (b : Bk) (G : Nat → Prop) (w : World) (h : IsBook w bb bm b G) (hl : b.list.length ≤ 1000000) :
    Calls Tryz.prog 19 #[ptr bb] w fun e w' => ∃ u, e = .returned u ∧ Seg w' w.heap.size 3 1 u b.list.length (b.list.map (.int .i64)) ∧ Grew w w' := by
  have HN := hid (none51_book bb bm b G w h)
  obtain ⟨v, h⟩ := h
  have HC := hid (clone_ints v b.list.length b.list w rfl hl h.list.isInts.any)
  have c2 := h.c2
  clear h hl
  go_enter Tryz.func19, Tryz.ntmps19
  go_wp2_with (first
    | (go_at_call 51; (with_reducible refine HN.out.mono ?_); rintro e w1 ⟨rfl, rfl⟩)
    | (go_at_call 52; (with_reducible refine HC.out.mono ?_); rintro e w1 ⟨u, rfl, hs, hg⟩; have HS := hid hs; have HG := hid hg; clear hs hg))
  go_ret
  exact ⟨u, rfl, HS.out, HG.out⟩

theorem entries19_none (v : Value) (w : World) (h : Calls Tryz.prog 51 #[v] w fun e w' => e = .returned (.bool true) ∧ w = w') :
    Calls Tryz.prog 19 #[v] w fun e w' => e = .returned (.slice none 0 0) ∧ w = w' := by
  have HN := hid h
  clear h
  go_enter Tryz.func19, Tryz.ntmps19
  go_wp2_with (go_at_call 51; (with_reducible refine HN.out.mono ?_); rintro e w1 ⟨rfl, rfl⟩)
  go_ret
  exact ⟨rfl, rfl⟩

theorem asked64_none (v : Value) (n : Int) (w : World) (h : Calls Tryz.prog 51 #[v] w fun e w' => e = .returned (.bool true) ∧ w = w') : Calls Tryz.prog 64 #[v, .int .i64 n] w fun e w' => e = .returned (.int .i64 102) ∧ w = w' := by
  have HN := hid h
  clear h
  go_enter Tryz.func64, Tryz.ntmps64
  go_wp2_with (go_at_call 51; (with_reducible refine HN.out.mono ?_); rintro e w1 ⟨rfl, rfl⟩)
  go_ret
  exact ⟨rfl, rfl⟩

set_option maxHeartbeats 1000000 in
theorem asked64_any (bb bm : Nat) (b : Bk) (G : Nat → Prop) (M : Mem) (F : Nat → Prop) (n : Int) (w : World) (hb : IsBook w bb bm b G) (h : IsMem w bm M F) :
    Calls Tryz.prog 64 #[ptr bb, .int .i64 n] w fun e w' => e = .returned (.int .i64 (askedB M b n)) ∧ Grew w w' := by
  have HN := hid (none51_book bb bm b G w hb)
  have HI := hid (isNumber60_any n)
  obtain ⟨v, hb⟩ := hb
  obtain ⟨bn, sv, h⟩ := h
  have c0 := hb.c0; have c1 := hb.c1
  have d0 := h.off; have d1 := h.cA
  unfold askedB
  obtain ⟨o, ho⟩ : ∃ o, M.on = o := ⟨_, rfl⟩
  obtain ⟨x, hx⟩ : ∃ x, b.fails + b.opened = x := ⟨_, rfl⟩
  obtain ⟨y, hy⟩ : ∃ y, M.fails + M.opened = y := ⟨_, rfl⟩
  obtain ⟨z, hz⟩ : ∃ z, isNum n = z := ⟨_, rfl⟩
  rw [ho] at d0 ⊢
  rw [hx] at c1 ⊢
  rw [hy] at d1 ⊢
  rw [hz] at HI ⊢
  clear hb h ho hx hy hz
  cases o with
  | false =>
    rw [if_pos (.inl rfl)]
    go_enter Tryz.func64, Tryz.ntmps64
    go_wp2_with (go_at_call 51; (with_reducible refine HN.out.mono ?_); rintro e w1 ⟨rfl, rfl⟩)
    go_quiet (fail)
    go_wp2
    go_ret
    exact ⟨rfl, grew_drewN (grew_refl _) _⟩
  | true =>
    by_cases he : x = y
    · subst he
      have e1 : ((x : Int) != (x : Int)) = false := by simp
      have e2 : (x != x) = false := by simp
      rw [if_neg (by simp)]
      cases z
      · rw [if_neg (by decide)]
        go_enter Tryz.func64, Tryz.ntmps64
        go_wp2_with (go_at_call 51; (with_reducible refine HN.out.mono ?_); rintro e w1 ⟨rfl, rfl⟩)
        go_quiet (fail)
        go_wp2_with (go_at_call 60; (with_reducible refine (HI.out _).mono ?_); rintro e w1 ⟨rfl, rfl⟩)
        go_ret
        exact ⟨rfl, grew_drewN (grew_refl _) _⟩
      · rw [if_pos rfl]
        go_enter Tryz.func64, Tryz.ntmps64
        go_wp2_with (go_at_call 51; (with_reducible refine HN.out.mono ?_); rintro e w1 ⟨rfl, rfl⟩)
        go_quiet (fail)
        go_wp2_with (go_at_call 60; (with_reducible refine (HI.out _).mono ?_); rintro e w1 ⟨rfl, rfl⟩)
        go_ret
        exact ⟨rfl, grew_drewN (grew_refl _) _⟩
    · have e1 : ((x : Int) != (y : Int)) = true := by rw [bne_iff_ne]; omega
      have e2 : (x != y) = true := by rw [bne_iff_ne]; exact he
      rw [if_pos (.inr he)]
      clear he
      go_enter Tryz.func64, Tryz.ntmps64
      go_wp2_with (go_at_call 51; (with_reducible refine HN.out.mono ?_); rintro e w1 ⟨rfl, rfl⟩)
      go_quiet (fail)
      go_wp2
      go_ret
      exact ⟨rfl, grew_drewN (grew_refl _) _⟩

end Go.Proofs.YtmohnddglmolgaaGreatDoor
