/- Walk: New. -/
import Derived.Test.YtcifpigjcfkhmaaHCopy
import Derived.Deep.RegionLaw
namespace Go.Lin
open Go.RowKit

/-- Elements that lie in a block, appended to a slice that is owned, as a step of a region that draws its order. -/
theorem step_append_own {P : Program} {ops : Array Oper} {o : Oper} {a : Act} {w : World} {K : Act → World → Prop} {Q : Exit → Act → World → Prop} {E : Prop}
    (hg : o.guard = none) (s x : Operand) (t : TypeId) (hop : o.op = Op.call { callee := Callee.builtin Builtin.append, args := #[s, x], argTypes := #[t, t] })
    (base : Nat) (e : TypeId) {z : Value} {size bytes : Nat} (h1 : P.underlying t = some (.slice e)) (hinfo : (P.info? e).map (fun i => (i.zero, i.size, i.bytes)) = some (some z, size, bytes)) (h6 : z.cells.size = size) (h7 : 0 < size)
    (v : Value) (n : Nat) (xs : List Value) (hs : a.eval s = v) (hown : w.ownsRow base e size v n xs)
    (ad : Addr) (m c : Nat) (news : List Value) (hx : a.eval x = .slice (some ad) m c) (hn : news.length = m * size) (hc : ∀ j u, news[j]? = some u → w.cell? (ad.add j) = some u) (h1c : ∀ u ∈ news, u.oneCell' = true)
    (b1 : n + m ≤ maxLen) (b2 : (n + m) * bytes ≤ 140737488355328) (hbase : base ≤ w.heap.size)
    (hK : ∀ v' w', w'.ownsRow base e size v' (n + m) (xs ++ news) → w.grownBy w' v.ownBlock → K (a.put o.dst v') w') :
    if Region.wanted o (yielded ops a.tmps) = true then Oper.wp P o a w K Q else E := by
  have hw : Region.wanted o (yielded ops a.tmps) = true := by simp [Region.wanted, hg]
  rw [if_pos hw]
  obtain ⟨i, h2, h3, h4, h5⟩ := info_parts hinfo
  obtain ⟨v', w', hrun, r1, r2, _⟩ := run_append_own (P := P) w base t o.type e i z size bytes h1 h2 h3 h4 h5 h6 h7 v n xs hown ad m c news hn hc h1c b1 b2 hbase
  unfold Oper.wp
  simp [execOp, hop, resolve, invoke, builtin, hs, hx, hrun, Result.andThen]
  exact hK v' w' r1 r2

end Go.Lin
namespace Go.Proofs.Ytcifpigjcfkhmaa
open Go.RowKit Go.Lin Go.Lin.Hz

set_option maxHeartbeats 400000 in
theorem new_bad (t s : Int) (w : World) (h : isNew t s = false) : Calls Try.prog 27 #[.int .i64 t, .int .i64 s] w fun e w' => e = .returned (.tuple #[.pointer none, .int .i64 2]) ∧ Grew w w' := by
  unfold isNew at h
  have hg := grew_refl w
  by_cases h1 : (decide (1 ≤ t) && decide (t ≤ 4)) = true
  · have h2 : (decide (1 ≤ s) && decide (s ≤ 4)) = false := by rw [h1] at h; simpa using h
    have H1 := hid h1
    have H2 := hid h2
    clear h h1 h2
    go_enter Try.func27, Try.ntmps27
    go_wp2_with (first
      | (go_at_call 51; with_reducible refine (between_any 1 t 4 _).mono ?_; rw [H1.out]; rintro e w1 ⟨rfl, hx⟩; replace hg := grew_trans hg hx; have hc := (bcell hg).1)
      | (go_at_call 51; with_reducible refine (between_any 1 s 4 _).mono ?_; rw [H2.out]; rintro e w2 ⟨rfl, hx⟩; replace hg := grew_trans hg hx; have hc := (bcell hg).1))
    go_ret2
    exact ⟨rfl, hg⟩
  · have h1 : (decide (1 ≤ t) && decide (t ≤ 4)) = false := by simpa using h1
    have H1 := hid h1
    clear h h1
    go_enter Try.func27, Try.ntmps27
    go_wp2_with (go_at_call 51; with_reducible refine (between_any 1 t 4 _).mono ?_; rw [H1.out]; rintro e w1 ⟨rfl, hx⟩; replace hg := grew_trans hg hx; have hc := (bcell hg).1)
    go_ret2
    exact ⟨rfl, hg⟩

def newTo (s : Int) (j : Nat) : Yd := ⟨s, List.replicate 8 0, List.replicate j noTh⟩

/-- A thread in the making: s of its slots are laid. -/
def Slots (wr : World) (k : Nat) (i : Value) (w' : World) : Prop :=
  (k = 2 ∧ i = .int .i64 0 ∧ w' = wr.alloc (.cells #[.int .i64 0, .int .i64 0, .slice none 0 0] 81)) ∨
  (k = 1 ∧ i = .int .i64 1 ∧ w' = wr.alloc (.cells #[.int .i64 (-1), .int .i64 0, .slice none 0 0] 81)) ∨
  (k = 0 ∧ i = .int .i64 2 ∧ w' = wr.alloc (.cells #[.int .i64 (-1), .int .i64 (-1), .slice none 0 0] 81))

/-- A yard in the making. -/
structure Mk (base : Nat) (wr : World) (B : Nat) (s : Int) (j : Nat) (v : Value) : Prop where
  obj : wr.heap[B]? = some (.cells (yCells (newTo s j) v).toArray 66 (0, 0))
  own : wr.ownsRow base 81 3 v j (tCells (List.replicate j noTh) (List.replicate j (.slice none 0 0)))
  ne : v.ownBlock ≠ some B

theorem tCells_append : ∀ (a : List Th) (x : List Value) (b : List Th) (y : List Value), a.length = x.length → tCells (a ++ b) (x ++ y) = tCells a x ++ tCells b y
  | [], [], _, _, _ => rfl
  | [], _ :: _, _, _, h => by simp at h
  | _ :: _, [], _, _, h => by simp at h
  | t :: a, v :: x, b, y, h => by
    simp [tCells, tCells_append a x b y (by simpa using h)]

theorem Mk.c9 {base : Nat} {wr : World} {B : Nat} {s : Int} {j : Nat} {v : Value} (h : Mk base wr B s j v) : wr.cell? ⟨B, 9, none⟩ = some v ∧ wr.frozen? ⟨B, 9, none⟩ = false := by
  refine ⟨?_, frozen_of_row _ _ _ _ _ h.obj⟩
  rw [cell_of_row wr B _ _ _ _ h.obj]
  simpa using (yCells_at (Y := newTo s j) (tv := v) (by simp [newTo])).2.2

theorem Mk.grew {base : Nat} {wr w1 : World} {B : Nat} {s : Int} {j : Nat} {v : Value} (h : Mk base wr B s j v) (hg : Grew wr w1) : Mk base w1 B s j v := by
  refine ⟨(hg.block _ (lt_of_obj h.obj)).trans h.obj, ⟨h.own.1, ?_⟩, h.ne⟩
  rcases h.own.2 with h1 | ⟨g, cap, cur, a1, a2, a3, a4⟩
  · exact .inl h1
  · exact .inr ⟨g, cap, cur, a1, a2, (hg.block _ (lt_of_obj a3)).trans a3, a4⟩

theorem Mk.step {base : Nat} {w1 w2 : World} {B : Nat} {s : Int} {j : Nat} {v v' : Value} (h : Mk base w1 B s j v) (ho : w2.ownsRow base 81 3 v' (j + 1) (tCells (List.replicate j noTh) (List.replicate j (.slice none 0 0)) ++ [.int .i64 (-1), .int .i64 (-1), .slice none 0 0])) (hg : w1.grownBy w2 v.ownBlock) :
    Mk base (w2.setCell ⟨B, 9, none⟩ v') B s (j + 1) v' ∧ w2.cell? ⟨B, 9, none⟩ = some v ∧ w2.frozen? ⟨B, 9, none⟩ = false := by
  have hkp := keeps_store w2 B 9 v'
  have hB2 : w2.heap[B]? = some (.cells (yCells (newTo s j) v).toArray 66 (0, 0)) := (hg.block _ (lt_of_obj h.obj) (fun e => h.ne e.symm)).trans h.obj
  have hrep : tCells (List.replicate (j + 1) noTh) (List.replicate (j + 1) (.slice none 0 0)) = tCells (List.replicate j noTh) (List.replicate j (.slice none 0 0)) ++ [.int .i64 (-1), .int .i64 (-1), .slice none 0 0] := by
    rw [List.replicate_succ', List.replicate_succ', tCells_append _ _ _ _ (by simp)]
    simp [tCells, noTh]
  have hne : v'.ownBlock ≠ some B := by
    intro e
    rcases ho.2 with ⟨rfl, _⟩ | ⟨g, cap, cur, rfl, a2, a3, a4⟩
    · simp [Value.ownBlock] at e
    · simp [Value.ownBlock] at e
      subst e
      rw [hB2] at a3
      simp at a3
  have hc := (yCells_at (Y := newTo s j) (tv := v) (by simp [newTo])).2.2
  refine ⟨⟨?_, ⟨by rw [hrep]; exact ho.1, ?_⟩, hne⟩, ?_, frozen_of_row _ _ _ _ _ hB2⟩
  · rw [heap_setCell_same _ _ _ _ _ _ hB2]
    simp [yCells, newTo]
  · rw [hrep]
    rcases ho.2 with h1 | ⟨g, cap, cur, rfl, a2, a3, a4⟩
    · exact .inl h1
    · exact .inr ⟨g, cap, cur, rfl, a2, hkp.obj _ _ a3 (fun e => hne (by simp [Value.ownBlock, e])), a4⟩
  · rw [cell_of_row w2 B _ _ _ _ hB2]
    simpa using hc

theorem Mk.done {base : Nat} {wr : World} {B : Nat} {s : Int} {j : Nat} {v : Value} (h : Mk base wr B s j v) (hj : 0 < j) (hB : base ≤ B) : ∃ Fp, IsYard wr B (newTo s j) Fp ∧ ∀ k ∈ Fp, base ≤ k := by
  rcases h.own.2 with ⟨_, h1⟩ | ⟨g, cap, cur, rfl, a2, a3, a4, a5, a6, a7⟩
  · omega
  · have hfm : (List.replicate j (Value.slice none 0 0)).filterMap foot = [] := by
      rw [List.filterMap_eq_nil_iff]
      intro x hx
      rw [(List.mem_replicate.1 hx).2]; rfl
    have hgB : g ≠ B := fun e => h.ne (by simp [Value.ownBlock, e])
    refine ⟨[B, g], ⟨g, cap, cur, List.replicate j (.slice none 0 0), ?_, a3, by simpa [newTo] using a4, a5, by omega, by simpa [newTo] using a7, by simp [newTo], fun i hi => ⟨.slice none 0 0, ?_, ?_⟩, by rw [hfm], ?_⟩, ?_⟩
    · simpa [newTo] using h.obj
    · have : i < j := by simpa [newTo] using hi
      simp [this]
    · have : i < j := by simpa [newTo] using hi
      have hl : ((newTo s j).th.getD i noTh).l = [] := by simp [newTo, List.getD, this, noTh]
      rw [hl]; exact Lst.nil _ _ _
    · simp; exact fun e => hgB e.symm
    · intro k hk
      simp at hk
      rcases hk with rfl | rfl
      · exact hB
      · exact a2

set_option maxHeartbeats 4000000 in
theorem new_ok (t s : Int) (w : World) (h : isNew t s = true) : Calls Try.prog 27 #[.int .i64 t, .int .i64 s] w fun e w' => ∃ B Fp, e = .returned (.tuple #[.pointer (some ⟨B, 0, none⟩), .int .i64 0]) ∧ IsYard w' B (new t s) Fp ∧ (∀ k ∈ Fp, w.heap.size ≤ k) ∧ Grew w w' := by
  unfold isNew at h
  rw [Bool.and_eq_true] at h
  obtain ⟨h1, h2⟩ := h
  have H1 := hid h1
  have H2 := hid h2
  simp only [Bool.and_eq_true, decide_eq_true_eq] at h1 h2
  obtain ⟨n, rfl⟩ : ∃ n : Nat, t = n := ⟨t.toNat, by omega⟩
  have hn1 : 1 ≤ n := by omega
  have hn4 : n ≤ 4 := by omega
  have hg := grew_refl w
  clear h1 h2
  go_enter Try.func27, Try.ntmps27
  go_wp2_with (first
    | (go_at_call 51; with_reducible refine (between_any 1 n 4 _).mono ?_; rw [H1.out]; rintro e w1 ⟨rfl, hx⟩; replace hg := grew_trans hg hx; have hc := (bcell hg).1)
    | (go_at_call 51; with_reducible refine (between_any 1 s 4 _).mono ?_; rw [H2.out]; rintro e w2 ⟨rfl, hx⟩; replace hg := grew_trans hg hx; have hc := (bcell hg).1))
  have hM := hid (show Mk w.heap.size (w2.alloc (.cells #[.int .i64 s, .int .i64 0, .int .i64 0, .int .i64 0, .int .i64 0, .int .i64 0, .int .i64 0, .int .i64 0, .int .i64 0, .slice none 0 0] 66)) w2.heap.size s 0 (.slice none 0 0) from
    ⟨heap_alloc_new w2 _, World.ownsRow_nil _ _ _ _, by simp [Value.ownBlock]⟩)
  have hG := hid (grew_alloc hg (.cells #[.int .i64 s, .int .i64 0, .int .i64 0, .int .i64 0, .int .i64 0, .int .i64 0, .int .i64 0, .int .i64 0, .int .i64 0, .slice none 0 0] 66))
  obtain ⟨W3, hW3⟩ : ∃ W3, w2.alloc (.cells #[.int .i64 s, .int .i64 0, .int .i64 0, .int .i64 0, .int .i64 0, .int .i64 0, .int .i64 0, .int .i64 0, .int .i64 0, .slice none 0 0] 66) = W3 := ⟨_, rfl⟩
  obtain ⟨B, hB⟩ : ∃ B, w2.heap.size = B := ⟨_, rfl⟩
  have hBlo : w.heap.size ≤ B := by rw [← hB]; exact hg.size
  rw [hW3, hB] at hM
  rw [hW3] at hG
  rw [hW3, hB]
  clear hW3 hB hg hx hc
  go_loopg [7, 8, 21] n (fun k _ _ i wr => ∃ (j : Nat) (v : Value), j ≤ n ∧ i = .int .i64 j ∧ k = n - j ∧ Hid (Mk w.heap.size wr B s j v) ∧ Grew w wr)
  case atStart => exact ⟨0, _, by omega, rfl, rfl, hM, hG.out⟩
  case round =>
    obtain ⟨j, v, hj, rfl, hk, HM, hgr⟩ := hrel
    have HK := hid hk; clear hk
    by_cases hlt3 : j < n
    · rename World => wr
      go_wp2
      go_loopg [8, 24] 2 (fun k _ i w' => Slots wr k i w')
      case atStart => exact .inl ⟨rfl, rfl, rfl⟩
      case round =>
        rcases hrel with ⟨rfl, rfl, rfl⟩ | ⟨rfl, rfl, rfl⟩ | ⟨rfl, rfl, rfl⟩
        · go_wp2
          go_roundg 1
          case measure => omega
          case rel => exact .inr (.inl ⟨rfl, rfl, rfl⟩)
        · go_wp2
          go_roundg 0
          case measure => omega
          case rel => exact .inr (.inr ⟨rfl, rfl, rfl⟩)
        · go_wp2
          obtain ⟨W4, hW4, g4, k0, k1, k2, hz4⟩ := box3 wr (.int .i64 (-1)) (.int .i64 (-1)) (.slice none 0 0) 81
          have hM4 := HM.out.grew g4
          have hc9 := hM4.c9.1
          obtain ⟨va, vc, rfl, hvn⟩ := (Seg.of_ownsRow hM4.own).shape
          have HM4 := hid hM4
          have HG4 := hid (grew_trans hgr g4)
          have hB4 := lt_of_obj hM4.obj
          have hj4 : j < 4 := by omega
          rw [hW4]
          clear hM4 hW4 g4 hgr
          go_region_law (first
            | (refine step_append_own (by rfl) _ _ 64 (by rfl) w.heap.size 81 Try.underlying64 Try.info81 rfl (by decide) (.slice va j vc) j _ (by rfl) (HM4.out.grew (by repeat' (first | exact grew_refl _ | assumption | refine grew_alloc ?_ _ | refine Below.setCell ?_ (by (try simp); omega) _ | refine grew_drewN ?_ _ | refine grew_drew ?_ | refine grew_trans ?_ (by assumption)))).own ⟨_, 0, none⟩ 1 _ [.int .i64 (-1), .int .i64 (-1), .slice none 0 0] (by rfl) rfl (by intro i u hi; rw [Addr.add_lit, Nat.zero_add]; exact (show (World.alloc W4 (.cells #[.int .i64 (-1), .int .i64 (-1), .slice none 0 0] 81)).cell? ⟨W4.heap.size, i, none⟩ = some u by rw [World.cell?_alloc_new]; simpa using hi)) (by simp [Value.oneCell']) (by unfold maxLen; omega) (by omega) (by have := HG4.out.size; simp; omega) ?_
               go_loud (intro v8 w8 hown8 hgrow8
                        obtain ⟨a8, c8, rfl, _⟩ := (Seg.of_ownsRow hown8).shape
                        obtain ⟨hM8, hce8, hfz8⟩ := (HM4.out.grew (by repeat' (first | exact grew_refl _ | assumption | refine grew_alloc ?_ _ | refine Below.setCell ?_ (by (try simp); omega) _ | refine grew_drewN ?_ _ | refine grew_drew ?_ | refine grew_trans ?_ (by assumption)))).step hown8 hgrow8
                        have HM8 := hid hM8
                        have HG8 := hid (show Grew w (w8.setCell ⟨B, 9, none⟩ (.slice a8 (j + 1) c8)) from ((grew_trans HG4.out (by repeat' (first | exact grew_refl _ | assumption | refine grew_alloc ?_ _ | refine Below.setCell ?_ (by (try simp); omega) _ | refine grew_drewN ?_ _ | refine grew_drew ?_ | refine grew_trans ?_ (by assumption)))).grown hgrow8 (by have := HG4.out.size; simp; omega) (fun k e => (Seg.of_ownsRow HM4.out.own).own k e |>.1)).setCell hBlo _)
                        clear hM8 hown8 hgrow8)))
          all_goals
            go_wp2
            go_roundg (n - (j + 1))
            case measure => have := HK.out; omega
            case rel => exact ⟨j + 1, _, by omega, by go_num, rfl, HM8, HG8.out⟩
    · obtain rfl : j = n := by omega
      go_wp2
      go_ret2
      obtain ⟨Fp', h1, h2⟩ := HM.out.done hn1 hBlo
      exact ⟨B, Fp', rfl, by rw [show new (j : Int) s = newTo s j from by simp [new, newTo]]; exact h1, h2, hgr⟩

end Go.Proofs.Ytcifpigjcfkhmaa
