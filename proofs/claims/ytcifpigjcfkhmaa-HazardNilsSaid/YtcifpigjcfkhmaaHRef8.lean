/- Walk: the reference's New. -/
import Derived.Test.YtcifpigjcfkhmaaHRef7
namespace Go.Lin
open Go.RowKit

/-- Elements that lie in a block, appended to a slice that is owned. -/
theorem wpList_append_ownr {P : Program} {ops : Array Oper} {rest : List Oper} {o : Oper} {a : Act} {w : World} {Q : Exit → Act → World → Prop}
    (hg : o.guard = none) (s x : Operand) (t : TypeId) (hop : o.op = Op.call { callee := Callee.builtin Builtin.append, args := #[s, x], argTypes := #[t, t] })
    (base : Nat) (e : TypeId) {z : Value} {size bytes : Nat} (h1 : P.underlying t = some (.slice e)) (hinfo : (P.info? e).map (fun i => (i.zero, i.size, i.bytes)) = some (some z, size, bytes)) (h6 : z.cells.size = size) (h7 : 0 < size)
    (v : Value) (n : Nat) (xs : List Value) (hs : a.eval s = v) (hown : w.ownsRow base e size v n xs)
    (ad : Addr) (m c : Nat) (news : List Value) (hx : a.eval x = .slice (some ad) m c) (hn : news.length = m * size) (hc : ∀ j u, news[j]? = some u → w.cell? (ad.add j) = some u) (h1c : ∀ u ∈ news, u.oneCell' = true)
    (b1 : n + m ≤ maxLen) (b2 : (n + m) * bytes ≤ 140737488355328) (hbase : base ≤ w.heap.size)
    (hK : ∀ v' w', w'.ownsRow base e size v' (n + m) (xs ++ news) → w.grownBy w' v.ownBlock → wpList P ops Q rest (a.put o.dst v') w') :
    wpList P ops Q (o :: rest) a w := by
  refine wpList_plain hg fun K hKK => ?_
  obtain ⟨i, h2, h3, h4, h5⟩ := info_parts hinfo
  obtain ⟨v', w', hrun, r1, r2, _⟩ := run_append_own (P := P) w base t o.type e i z size bytes h1 h2 h3 h4 h5 h6 h7 v n xs hown ad m c news hn hc h1c b1 b2 hbase
  unfold Oper.wp
  simp [execOp, hop, resolve, invoke, builtin, hs, hx, hrun, Result.andThen]
  exact hKK _ _ (hK v' w' r1 r2)

theorem ownsRow_grew {w w' : World} {base : Nat} {e : TypeId} {size : Nat} {v : Value} {n : Nat} {xs : List Value} {may : Nat → Obj → Prop} (h : w.ownsRow base e size v n xs) (hk : Keeps may w w') (hm : ∀ k o, v.ownBlock = some k → ¬ may k o) : w'.ownsRow base e size v n xs := by
  refine ⟨h.1, ?_⟩
  rcases h.2 with h1 | ⟨g, cap, cur, rfl, a2, a3, a4⟩
  · exact .inl h1
  · exact .inr ⟨g, cap, cur, rfl, a2, hk.obj _ _ a3 (hm _ _ (by simp [Value.ownBlock])), a4⟩

theorem ownsRow_at {w : World} {base : Nat} {e : TypeId} {size : Nat} {v : Value} {n : Nat} {xs : List Value} (h : w.ownsRow base e size v n xs) {k : Nat} (hk : v.ownBlock = some k) : base ≤ k ∧ ∃ cur, w.heap[k]? = some (.cells cur e (0, 0)) := by
  rcases h.2 with ⟨rfl, _⟩ | ⟨g, cap, cur, rfl, a2, a3, a4⟩
  · simp [Value.ownBlock] at hk
  · simp [Value.ownBlock] at hk; subst hk; exact ⟨a2, cur, a3⟩

end Go.Lin
namespace Go.Proofs.Ytcifpigjcfkhmaa
open Go.RowKit Go.Lin Go.Lin.Hz

theorem Try.info75 : (Try.prog.info? 75).map (fun i => (i.zero, i.size, i.bytes)) = some (some (.agg #[.int .i64 0, .int .i64 0]), 2, 16) := by kernel_rfl
theorem Try.info24 : (Try.prog.info? 24).map (fun i => (i.zero, i.size, i.bytes)) = some (some (.slice none 0 0), 1, 24) := by kernel_rfl

/-- A reference's yard in the making: j threads have slots, k have lists. -/
structure RMk (base : Nat) (wr : World) (B : Nat) (s : Int) (n j k : Nat) (sv lv : Value) : Prop where
  obj : wr.heap[B]? = some (.cells (rCells (newTo s n) sv lv).toArray 74 (0, 0))
  own1 : wr.ownsRow base 75 2 sv j (sCells (List.replicate j noTh))
  own2 : wr.ownsRow base 24 1 lv k (List.replicate k (.slice none 0 0))

theorem RMk.ne {base : Nat} {wr : World} {B : Nat} {s : Int} {n j k : Nat} {sv lv : Value} (h : RMk base wr B s n j k sv lv) : sv.ownBlock ≠ some B ∧ lv.ownBlock ≠ some B ∧ ∀ q, sv.ownBlock = some q → lv.ownBlock ≠ some q := by
  refine ⟨fun e => ?_, fun e => ?_, fun q e1 e2 => ?_⟩
  · obtain ⟨_, cur, h1⟩ := ownsRow_at h.own1 e
    rw [h.obj] at h1; simp at h1
  · obtain ⟨_, cur, h1⟩ := ownsRow_at h.own2 e
    rw [h.obj] at h1; simp at h1
  · obtain ⟨_, cur, h1⟩ := ownsRow_at h.own1 e1
    obtain ⟨_, cur, h2⟩ := ownsRow_at h.own2 e2
    rw [h1] at h2; simp at h2

theorem RMk.cells {base : Nat} {wr : World} {B : Nat} {s : Int} {n j k : Nat} {sv lv : Value} (h : RMk base wr B s n j k sv lv) : wr.cell? ⟨B, 10, none⟩ = some sv ∧ wr.cell? ⟨B, 11, none⟩ = some lv ∧ (∀ q, wr.frozen? ⟨B, q, none⟩ = false) ∧ B < wr.heap.size := by
  obtain ⟨_, _, _, r10, r11⟩ := rCells_at (Y := newTo s n) (sv := sv) (lv := lv) (by simp [newTo])
  refine ⟨?_, ?_, fun _ => frozen_of_row _ _ _ _ _ h.obj, lt_of_obj h.obj⟩
  · rw [cell_of_row wr B _ _ _ _ h.obj]; simpa using r10
  · rw [cell_of_row wr B _ _ _ _ h.obj]; simpa using r11

theorem RMk.keeps {base : Nat} {wr w1 : World} {B : Nat} {s : Int} {n j k : Nat} {sv lv : Value} {may : Nat → Obj → Prop} (h : RMk base wr B s n j k sv lv) (hk : Keeps may wr w1) (hB : ∀ o, ¬ may B o) (h1 : ∀ q o, sv.ownBlock = some q → ¬ may q o) (h2 : ∀ q o, lv.ownBlock = some q → ¬ may q o) : RMk base w1 B s n j k sv lv :=
  ⟨hk.obj _ _ h.obj (hB _), ownsRow_grew h.own1 hk h1, ownsRow_grew h.own2 hk h2⟩

theorem RMk.grew {base : Nat} {wr w1 : World} {B : Nat} {s : Int} {n j k : Nat} {sv lv : Value} (h : RMk base wr B s n j k sv lv) (hg : Grew wr w1) : RMk base w1 B s n j k sv lv :=
  h.keeps (Grew.keeps (may := fun _ _ => False) hg) (fun _ h => h) (fun _ _ _ h => h) (fun _ _ _ h => h)

theorem sCells_snoc (j : Nat) : sCells (List.replicate (j + 1) noTh) = sCells (List.replicate j noTh) ++ [.int .i64 (-1), .int .i64 (-1)] := by
  have : ∀ (a b : List Th), sCells (a ++ b) = sCells a ++ sCells b := by
    intro a b
    induction a with
    | nil => rfl
    | cons t a ih => simp [sCells, ih]
  rw [List.replicate_succ', this]
  simp [sCells, noTh]

theorem RMk.step1 {base : Nat} {w1 w2 : World} {B : Nat} {s : Int} {n j k : Nat} {sv lv sv' : Value} (h : RMk base w1 B s n j k sv lv) (ho : w2.ownsRow base 75 2 sv' (j + 1) (sCells (List.replicate j noTh) ++ [.int .i64 (-1), .int .i64 (-1)])) (hg : w1.grownBy w2 sv.ownBlock) :
    RMk base (w2.setCell ⟨B, 10, none⟩ sv') B s n (j + 1) k sv' lv ∧ w2.cell? ⟨B, 10, none⟩ = some sv ∧ w2.frozen? ⟨B, 10, none⟩ = false := by
  have hkp := keeps_store w2 B 10 sv'
  have hkg := keeps_of_grown hg
  have hB2 : w2.heap[B]? = some (.cells (rCells (newTo s n) sv lv).toArray 74 (0, 0)) := hkg.obj _ _ h.obj h.ne.1
  have ho2 : w2.ownsRow base 24 1 lv k (List.replicate k (.slice none 0 0)) := ownsRow_grew h.own2 hkg (fun q o e1 e2 => h.ne.2.2 q e2 e1)
  have hne1 : sv'.ownBlock ≠ some B := by
    intro e
    obtain ⟨_, cur, h1⟩ := ownsRow_at ho e
    rw [hB2] at h1; simp at h1
  have hne2 : lv.ownBlock ≠ some B := h.ne.2.1
  obtain ⟨_, _, _, r10, r11⟩ := rCells_at (Y := newTo s n) (sv := sv) (lv := lv) (by simp [newTo])
  refine ⟨⟨?_, ?_, ownsRow_grew ho2 hkp (fun q o e1 e2 => hne2 (by rw [e1, e2]))⟩, ?_, frozen_of_row _ _ _ _ _ hB2⟩
  · rw [heap_setCell_same _ _ _ _ _ _ hB2]
    simp [rCells, newTo]
  · rw [sCells_snoc]
    exact ownsRow_grew ho hkp (fun q o e1 e2 => hne1 (by rw [e1, e2]))
  · rw [cell_of_row w2 B _ _ _ _ hB2]; simpa using r10

theorem RMk.step2 {base : Nat} {w1 w2 : World} {B : Nat} {s : Int} {n j k : Nat} {sv lv lv' : Value} (h : RMk base w1 B s n j k sv lv) (ho : w2.ownsRow base 24 1 lv' (k + 1) (List.replicate k (.slice none 0 0) ++ [.slice none 0 0])) (hg : w1.grownBy w2 lv.ownBlock) :
    RMk base (w2.setCell ⟨B, 11, none⟩ lv') B s n j (k + 1) sv lv' ∧ w2.cell? ⟨B, 11, none⟩ = some lv ∧ w2.frozen? ⟨B, 11, none⟩ = false := by
  have hkp := keeps_store w2 B 11 lv'
  have hkg := keeps_of_grown hg
  have hB2 : w2.heap[B]? = some (.cells (rCells (newTo s n) sv lv).toArray 74 (0, 0)) := hkg.obj _ _ h.obj h.ne.2.1
  have ho2 : w2.ownsRow base 75 2 sv j (sCells (List.replicate j noTh)) := ownsRow_grew h.own1 hkg (fun q o e1 e2 => h.ne.2.2 q e1 e2)
  have hne1 : lv'.ownBlock ≠ some B := by
    intro e
    obtain ⟨_, cur, h1⟩ := ownsRow_at ho e
    rw [hB2] at h1; simp at h1
  have hne2 : sv.ownBlock ≠ some B := h.ne.1
  obtain ⟨_, _, _, r10, r11⟩ := rCells_at (Y := newTo s n) (sv := sv) (lv := lv) (by simp [newTo])
  refine ⟨⟨?_, ownsRow_grew ho2 hkp (fun q o e1 e2 => hne2 (by rw [e1, e2])), ?_⟩, ?_, frozen_of_row _ _ _ _ _ hB2⟩
  · rw [heap_setCell_same _ _ _ _ _ _ hB2]
    simp [rCells, newTo]
  · rw [List.replicate_succ']
    exact ownsRow_grew ho hkp (fun q o e1 e2 => hne1 (by rw [e1, e2]))
  · rw [cell_of_row w2 B _ _ _ _ hB2]; simpa using r11

theorem RMk.done {base : Nat} {wr : World} {B : Nat} {s : Int} {n : Nat} {sv lv : Value} (h : RMk base wr B s n n n sv lv) (hn : 0 < n) (hB : base ≤ B) : ∃ Fp, IsRef wr B (newTo s n) Fp ∧ ∀ k ∈ Fp, base ≤ k := by
  have hne := h.ne
  rcases h.own1.2 with ⟨_, h1⟩ | ⟨g, cap, cur, rfl, a2, a3, a4, a5, a6, a7⟩
  · omega
  rcases h.own2.2 with ⟨_, h1⟩ | ⟨g', cap', cur', rfl, b2, b3, b4, b5, b6, b7⟩
  · omega
  have e1 : g ≠ B := fun e => hne.1 (by simp [Value.ownBlock, e])
  have e2 : g' ≠ B := fun e => hne.2.1 (by simp [Value.ownBlock, e])
  have e3 : g ≠ g' := fun e => hne.2.2 g (by simp [Value.ownBlock]) (by simp [Value.ownBlock, e])
  have hl : (newTo s n).th.length = n := by simp [newTo]
  refine ⟨[B, g, g'], ⟨g, cap, g', cap', List.replicate n (.slice none 0 0), [], ⟨by rw [hl]; exact h.obj, ⟨cur, a3, by rw [hl]; exact a7⟩, ⟨cur', b3, by rw [hl]; simpa using b7⟩, by simp [newTo], fun i hi => ⟨.slice none 0 0, ?_, ?_⟩, ⟨fun e => e1 e.symm, fun e => e2 e.symm, e3⟩, by simp, by simp [newTo]⟩, rfl⟩, ?_⟩
  · rw [hl] at hi; simp [hi]
  · rw [hl] at hi
    have hll : ((newTo s n).th.getD i noTh).l = [] := by simp [newTo, List.getD, hi, noTh]
    rw [hll]; exact Reads.nil _ _ _ _ _
  · intro k hk
    simp at hk
    rcases hk with rfl | rfl | rfl
    · exact hB
    · exact a2
    · exact b2

set_option maxHeartbeats 4000000 in
theorem rNew_ok (t s : Int) (w : World) (h : isNew t s = true) : Calls Try.prog 15 #[.int .i64 t, .int .i64 s] w fun e w' => ∃ B Fp, e = .returned (.pointer (some ⟨B, 0, none⟩)) ∧ IsRef w' B (new t s) Fp ∧ (∀ k ∈ Fp, w.heap.size ≤ k) ∧ Grew w w' := by
  unfold isNew at h
  simp only [Bool.and_eq_true, decide_eq_true_eq] at h
  obtain ⟨n, rfl⟩ : ∃ n : Nat, t = n := ⟨t.toNat, by omega⟩
  have hn1 : 1 ≤ n := by omega
  have hn4 : n ≤ 4 := by omega
  have hg := grew_refl w
  clear h
  have hM := hid (show RMk w.heap.size (w.alloc (.cells #[.int .i64 n, .int .i64 s, .int .i64 0, .int .i64 0, .int .i64 0, .int .i64 0, .int .i64 0, .int .i64 0, .int .i64 0, .int .i64 0, .slice none 0 0, .slice none 0 0] 74)) w.heap.size s n 0 0 (.slice none 0 0) (.slice none 0 0) from
    ⟨by rw [heap_alloc_new]; simp [rCells, newTo], World.ownsRow_nil _ _ _ _, World.ownsRow_nil _ _ _ _⟩)
  have hG := hid (grew_alloc hg (.cells #[.int .i64 n, .int .i64 s, .int .i64 0, .int .i64 0, .int .i64 0, .int .i64 0, .int .i64 0, .int .i64 0, .int .i64 0, .int .i64 0, .slice none 0 0, .slice none 0 0] 74))
  go_enter Try.func15, Try.ntmps15
  go_wp2
  obtain ⟨W3, hW3⟩ : ∃ W3, w.alloc (.cells #[.int .i64 n, .int .i64 s, .int .i64 0, .int .i64 0, .int .i64 0, .int .i64 0, .int .i64 0, .int .i64 0, .int .i64 0, .int .i64 0, .slice none 0 0, .slice none 0 0] 74) = W3 := ⟨_, rfl⟩
  rw [hW3] at hM hG ⊢
  clear hW3 hg
  go_loopg [6] n (fun k i wr => ∃ (j : Nat) (sv lv : Value), j ≤ n ∧ i = .int .i64 j ∧ k = n - j ∧ Hid (RMk w.heap.size wr w.heap.size s n j j sv lv) ∧ Grew w wr)
  case atStart => exact ⟨0, _, _, by omega, rfl, rfl, hM, hG.out⟩
  case round =>
    obtain ⟨j, sv, lv, hj, rfl, hk, HM, hgr⟩ := hrel
    have HK := hid hk; clear hk
    by_cases hlt3 : j < n
    · rename World => wr
      have hj4 : j < 4 := by omega
      obtain ⟨sva, svc, rfl, -⟩ := (Seg.of_ownsRow HM.out.own1).shape
      obtain ⟨lva, lvc, rfl, -⟩ := (Seg.of_ownsRow HM.out.own2).shape
      obtain ⟨c10, c11, -, hBl⟩ := HM.out.cells
      have hwr := hgr.size
      have HG := hid hgr
      clear hgr
      go_wp2_with (first
        | (at_builtin; refine wpList_append_ownr rfl _ _ 71 rfl w.heap.size 75 Try.underlying71 Try.info75 rfl (by decide) _ j _ rfl (HM.out.grew (grew_alloc (grew_refl _) _)).own1 ⟨_, 0, none⟩ 1 _ [.int .i64 (-1), .int .i64 (-1)] rfl rfl (by intro i u hi; rw [Addr.add_lit, Nat.zero_add, World.cell?_alloc_new]; simpa using hi) (by simp [Value.oneCell']) (by unfold maxLen; omega) (by omega) (by simp; omega) ?_; go_loud (
            intro v8 w8 hown8 hgrow8
            obtain ⟨a8, c8, rfl, _⟩ := (Seg.of_ownsRow hown8).shape
            obtain ⟨hM8, hce8, hfz8⟩ := (HM.out.grew (grew_alloc (grew_refl _) _)).step1 hown8 hgrow8
            have HG8 := hid (show Grew w (w8.setCell ⟨w.heap.size, 10, none⟩ (.slice a8 (j + 1) c8)) from ((grew_alloc HG.out _).grown hgrow8 (by simp; omega) (fun k e => (ownsRow_at HM.out.own1 e).1)).setCell (Nat.le_refl _) _)
            obtain ⟨W9, hW9⟩ : ∃ W9, w8.setCell ⟨w.heap.size, 10, none⟩ (.slice a8 (j + 1) c8) = W9 := ⟨_, rfl⟩
            rw [hW9] at hM8 HG8
            have HM8 := hid hM8
            obtain ⟨d10, d11, -, hBl9⟩ := hM8.cells
            have hwr9 := HG8.out.size
            clear hM8 hown8 hgrow8))
        | (at_builtin; refine wpList_append_ownr rfl _ _ 72 rfl w.heap.size 24 Try.underlying72 Try.info24 rfl (by decide) _ j _ rfl (HM8.out.grew (grew_alloc (grew_refl _) _)).own2 ⟨_, 0, none⟩ 1 _ [.slice none 0 0] rfl rfl (by intro i u hi; rw [Addr.add_lit, Nat.zero_add, World.cell?_alloc_new]; simpa using hi) (by simp [Value.oneCell']) (by unfold maxLen; omega) (by omega) (by simp; omega) ?_; go_loud (
            intro v10 w10 hown10 hgrow10
            obtain ⟨a10, c10', rfl, _⟩ := (Seg.of_ownsRow hown10).shape
            obtain ⟨hM10, hce10, hfz10⟩ := (HM8.out.grew (grew_alloc (grew_refl _) _)).step2 hown10 hgrow10
            have HG10 := hid (show Grew w (w10.setCell ⟨w.heap.size, 11, none⟩ (.slice a10 (j + 1) c10')) from ((grew_alloc HG8.out _).grown hgrow10 (by simp; omega) (fun k e => (ownsRow_at HM8.out.own2 e).1)).setCell (Nat.le_refl _) _)
            have HM10 := hid hM10
            clear hM10 hown10 hgrow10)))
      go_roundg (n - (j + 1))
      case measure => have := HK.out; omega
      case rel => exact ⟨j + 1, _, _, by omega, by go_num, rfl, HM10, HG10.out⟩
    · obtain rfl : j = n := by omega
      go_wp2
      go_ret
      obtain ⟨Fp', h1, h2⟩ := HM.out.done hn1 (Nat.le_refl _)
      exact ⟨_, Fp', rfl, by rw [show new (j : Int) s = newTo s j from by simp [new, newTo]]; exact h1, h2, hgr⟩

end Go.Proofs.Ytcifpigjcfkhmaa
