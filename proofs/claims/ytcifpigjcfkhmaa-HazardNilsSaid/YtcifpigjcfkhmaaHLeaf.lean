/- Walks of the yard's leaves: between, none, the questions, asked. -/
import Derived.Test.YtcifpigjcfkhmaaRows
import Derived.Test.YtcifpigjcfkhmaaHModel
import Derived.Test.YtcifpigjcfkhmaaAppend
namespace Go.Lin.Hz

/-- The cells of a yard's block. -/
def yCells (Y : Yd) (tv : Value) : List Value := .int .i64 Y.size :: (Y.st.map (.int .i64) ++ [tv])

/-- The cells of the threads' block. -/
def tCells : List Th → List Value → List Value
  | t :: l, v :: m => .int .i64 t.a :: .int .i64 t.b :: v :: tCells l m
  | _, _ => []

/-- The block that a list has for itself: one without room has none. -/
def foot : Value → Option Nat
  | .slice (some a) _ (_ + 1) => some a.block
  | _ => none

/-- The value v is the list l: it has no room, or owns its block. -/
def Lst (n : TypeId) (w : World) (v : Value) (l : List Int) : Prop :=
  (∃ a, v = .slice a 0 0 ∧ l = []) ∨ (foot v = v.ownBlock ∧ Seg w 0 n 1 v l.length (l.map (.int .i64)))

theorem Lst.cases {n : TypeId} {w : World} {v : Value} {l : List Int} (h : Lst n w v l) : (∃ a, v = .slice a 0 0 ∧ l = []) ∨
    (∃ g off c cur, v = .slice (some ⟨g, off, none⟩) l.length c ∧ foot v = some g ∧ w.heap[g]? = some (.cells cur n (0, 0)) ∧ l.length ≤ c ∧ c ≤ maxLen ∧ off + c ≤ cur.size ∧ Seg w 0 n 1 v l.length (l.map (.int .i64))) := by
  rcases h with h | ⟨hf, hs⟩
  · exact .inl h
  · rcases hs.2 with ⟨rfl, h0⟩ | ⟨g, off, c, cur, rfl, -, h1, h2, h3, h4, _⟩
    · exact .inl ⟨none, rfl, List.eq_nil_of_length_eq_zero h0⟩
    · exact .inr ⟨g, off, c, cur, rfl, hf.trans rfl, h1, h2, h3, by omega, hs⟩

theorem Lst.keeps {n : TypeId} {w w' : World} {v : Value} {l : List Int} {may : Nat → Obj → Prop} (h : Lst n w v l) (hk : Keeps may w w') (hm : ∀ k o, foot v = some k → ¬ may k o) : Lst n w' v l := by
  rcases h with h | ⟨hf, hs⟩
  · exact .inl h
  · exact .inr ⟨hf, hs.keeps hk (fun k o hb _ => hm k o (hf.trans hb))⟩

theorem Lst.grew {n : TypeId} {w w' : World} {v : Value} {l : List Int} (h : Lst n w v l) (hg : Grew w w') : Lst n w' v l :=
  h.keeps (Grew.keeps (may := fun _ _ => False) hg) (fun _ _ _ h => h)

theorem Lst.lt {n : TypeId} {w : World} {v : Value} {l : List Int} (h : Lst n w v l) {k : Nat} (hk : foot v = some k) : k < w.heap.size := by
  rcases h with ⟨a, rfl, _⟩ | ⟨hf, hs⟩
  · cases a <;> simp [foot] at hk
  · exact (hs.own k (hf.symm.trans hk)).2.1

theorem Lst.nil (n : TypeId) (w : World) (a : Option Addr) : Lst n w (.slice a 0 0) [] := .inl ⟨a, rfl, rfl⟩

theorem Lst.shape {n : TypeId} {w : World} {v : Value} {l : List Int} (h : Lst n w v l) : ∃ a cap, v = .slice a l.length cap ∧ l.length ≤ maxLen := by
  rcases h with ⟨a, rfl, rfl⟩ | ⟨_, hs⟩
  · exact ⟨a, 0, rfl, Nat.zero_le _⟩
  · exact hs.shape

theorem Lst.reads {n : TypeId} {w : World} {v : Value} {l : List Int} (h : Lst n w v l) : IsInts (fun k _ => foot v = some k) w v l := by
  rcases h.cases with ⟨a, rfl, rfl⟩ | ⟨g, off, c, cur, rfl, hf, h1, h2, h3, h4, hs⟩
  · exact Reads.nil _ _ _ _ _
  · refine ⟨_, _, rfl, by unfold maxLen at h3; omega, fun i hi => ⟨g, off, _, rfl, h1, hf, ?_⟩⟩
    obtain ⟨g', off', cap', cur', he, _, hc, hx⟩ := hs.cell i (by omega)
    simp only [Value.slice.injEq, Option.some.injEq, Addr.mk.injEq] at he
    obtain ⟨⟨rfl, rfl, -⟩, -⟩ := he
    rw [hx]; simp [nth_lt hi, hi]

/-- The yard Y lies at the block b; Fp: the blocks that it is made of; y, t, n: the types yard, thread and int. -/
def IsYardAt (y t n : TypeId) (w : World) (b : Nat) (Y : Yd) (Fp : List Nat) : Prop :=
  ∃ (tb cap : Nat) (cur : Array Value) (lv : List Value),
    w.heap[b]? = some (.cells (yCells Y (.slice (some ⟨tb, 0, none⟩) Y.th.length cap)).toArray y (0, 0)) ∧
    w.heap[tb]? = some (.cells cur t (0, 0)) ∧ Y.th.length ≤ cap ∧ cap ≤ maxLen ∧ cap * 3 ≤ cur.size ∧
    cur.toList.take (Y.th.length * 3) = tCells Y.th lv ∧ lv.length = Y.th.length ∧
    (∀ i, i < Y.th.length → ∃ v, lv[i]? = some v ∧ Lst n w v (Y.th.getD i noTh).l) ∧
    Fp = b :: tb :: lv.filterMap foot ∧ Fp.Nodup

theorem tCells_at : ∀ (th : List Th) (lv : List Value) (i : Nat), th.length = lv.length → i < th.length →
    (tCells th lv)[3 * i]? = some (.int .i64 (th.getD i noTh).a) ∧ (tCells th lv)[3 * i + 1]? = some (.int .i64 (th.getD i noTh).b) ∧ (tCells th lv)[3 * i + 2]? = lv[i]?
  | [], _, _, _, h => absurd h (by simp)
  | _ :: _, [], _, h, _ => absurd h (by simp)
  | t :: th, v :: lv, 0, _, _ => by simp [tCells]
  | t :: th, v :: lv, i + 1, hl, hi => by
    have := tCells_at th lv i (by simpa using hl) (by simpa using hi)
    simp only [tCells, show 3 * (i + 1) = 3 * i + 3 from by omega, show 3 * i + 3 + 1 = 3 * i + 1 + 3 from by omega, show 3 * i + 3 + 2 = 3 * i + 2 + 3 from by omega]
    simpa using this

end Go.Lin.Hz
namespace Go.Proofs.Ytcifpigjcfkhmaa
open Go.RowKit Go.Lin Go.Lin.Hz

abbrev IsYard := IsYardAt 66 81 3

set_option maxHeartbeats 400000 in
theorem between_any (a n b : Int) (w : World) : Calls Try.prog 51 #[.int .i64 a, .int .i64 n, .int .i64 b] w fun e w' => e = .returned (.bool (decide (a ≤ n) && decide (n ≤ b))) ∧ Grew w w' := by
  by_cases h1 : a ≤ n <;> by_cases h2 : n ≤ b
  all_goals (
    go_enter Try.func51, Try.ntmps51
    go_wp2
    go_ret
    exact ⟨ret_bool (by simp [h1, h2]), grew_refl _⟩)

set_option maxHeartbeats 400000 in
theorem none_nil (w : World) : Calls Try.prog 56 #[.pointer none] w fun e w' => e = .returned (.bool true) ∧ Grew w w' := by
  go_enter Try.func56, Try.ntmps56
  go_wp2
  go_ret
  exact ⟨rfl, grew_refl _⟩

set_option maxHeartbeats 400000 in
theorem none_at (b : Nat) (s : Int) (w : World) (h : w.cell? ⟨b, 0, none⟩ = some (.int .i64 s)) : Calls Try.prog 56 #[.pointer (some ⟨b, 0, none⟩)] w fun e w' => e = .returned (.bool (s == 0)) ∧ Grew w w' := by
  go_enter Try.func56, Try.ntmps56
  go_wp2
  go_ret
  exact ⟨rfl, grew_refl _⟩

/-- The function g, with what it has captured, says p, in whatever later world. -/
def Says0 (g : Nat) (caps : Array Value) (p : Bool) (w : World) : Prop :=
  ∀ w', Grew w w' → Calls Try.prog g caps w' fun e w'' => e = .returned (.bool p) ∧ Grew w' w''

theorem Says0.grew {g : Nat} {caps : Array Value} {p : Bool} {w w' : World} (h : Says0 g caps p w) (hg : Grew w w') : Says0 g caps p w' := fun w2 h2 => h w2 (grew_trans hg h2)

set_option maxHeartbeats 400000 in
theorem isSlot1_any (B : Nat) (s : Int) (w : World) (hlt : B < w.heap.size) (h : w.cell? ⟨B, 0, none⟩ = some (.int .i64 s)) : Says0 81 #[.pointer (some ⟨B, 0, none⟩)] (isS s) w := by
  intro w' hg
  have hcell := (hg.cell (p := ⟨B, 0, none⟩) hlt).trans h
  clear hg
  have hg := grew_refl w'
  go_enter Try.func81, Try.ntmps81
  go_wp2_with (go_at_call 51; with_reducible refine (between_any _ _ _ _).mono ?_; rintro e w1 ⟨rfl, hx⟩; replace hg := grew_trans hg hx; have hc := (bcell hg).1)
  go_ret
  exact ⟨rfl, hg⟩

set_option maxHeartbeats 400000 in
theorem isNode1_any (B : Nat) (s : Int) (w : World) (hlt : B < w.heap.size) (h : w.cell? ⟨B, 0, none⟩ = some (.int .i64 s)) : Says0 79 #[.pointer (some ⟨B, 0, none⟩)] (isN s) w := by
  intro w' hg
  have hcell := (hg.cell (p := ⟨B, 0, none⟩) hlt).trans h
  clear hg
  have hg := grew_refl w'
  go_enter Try.func79, Try.ntmps79
  go_wp2_with (go_at_call 51; with_reducible refine (between_any _ _ _ _).mono ?_; rintro e w1 ⟨rfl, hx⟩; replace hg := grew_trans hg hx; have hc := (bcell hg).1)
  go_ret
  exact ⟨rfl, hg⟩

set_option maxHeartbeats 400000 in
theorem isThread1_any (B B2 b : Nat) (t : Int) (tv : Option Addr) (n cap : Nat) (w : World) (hlt : B < w.heap.size) (h : w.cell? ⟨B, 0, none⟩ = some (.int .i64 t)) (hlt2 : B2 < w.heap.size) (h2 : w.cell? ⟨B2, 0, none⟩ = some (.pointer (some ⟨b, 0, none⟩)))
    (hlt3 : b < w.heap.size) (h3 : w.cell? ⟨b, 9, none⟩ = some (.slice tv n cap)) (hn : n ≤ 4) : Says0 80 #[.pointer (some ⟨B, 0, none⟩), .pointer (some ⟨B2, 0, none⟩)] (decide (0 ≤ t) && decide (t ≤ (n : Int) - 1)) w := by
  intro w' hg
  have hcell := (hg.cell (p := ⟨B, 0, none⟩) hlt).trans h
  have hcell2 := (hg.cell (p := ⟨B2, 0, none⟩) hlt2).trans h2
  have hcell3 := (hg.cell (p := ⟨b, 9, none⟩) hlt3).trans h3
  have hl1 := Nat.lt_of_lt_of_le hlt hg.size
  have hl2 := Nat.lt_of_lt_of_le hlt2 hg.size
  have hl3 := Nat.lt_of_lt_of_le hlt3 hg.size
  clear hg h h2 h3
  go_enter Try.func80, Try.ntmps80
  go_wp2
  refine wp_region_later (by kernel_rfl) (by kernel_rfl) (fun hL => ?_)
  repeat (go_big_quiet_step ((go_at_call 51; exact calls_later (between_any _ _ _ _))))
  refine wpQuiet_nil ?_
  rintro wy ⟨y, hy⟩
  have hgy : Grew w' wy := by rw [hy]; exact y.2
  clear hL hy y
  go_wp2
  go_ret
  exact ⟨rfl, hgy⟩

/-- A question: the function, what it has captured, and what it says. -/
structure Qn where
  g : Nat
  caps : Array Value
  p : Bool

def noQn : Qn := ⟨0, #[], true⟩
def Qn.val (q : Qn) : Value := .func (.func q.g) #[] q.caps

set_option maxHeartbeats 400000 in
theorem asked_none (yv v : Value) (w : World) (hN : ∀ y, Grew w y → Calls Try.prog 56 #[yv] y fun e w' => e = .returned (.bool true) ∧ Grew y w') :
    Calls Try.prog 49 #[yv, v] w fun e w' => e = .returned (.int .i64 60) ∧ Grew w w' := by
  have HN := hid hN; clear hN
  have hg := grew_refl w
  go_enter Try.func49, Try.ntmps49
  go_wp2_with (go_at_call 56; with_reducible refine (HN.out _ hg).mono ?_; rintro e w1 ⟨rfl, hx⟩; replace hg := grew_trans hg hx; have hc := (bcell hg).1)
  go_ret
  exact ⟨rfl, hg⟩

set_option maxHeartbeats 1000000 in
theorem asked_some (yv v : Value) (qs : List Qn) (w : World) (hN : ∀ y, Grew w y → Calls Try.prog 56 #[yv] y fun e w' => e = .returned (.bool false) ∧ Grew y w')
    (hr : Reads Any w v qs.length (fun i => (qs.getD i noQn).val)) (hE : ∀ i, i < qs.length → ∀ args w, (callFunc (qs.getD i noQn).g args).run Try.prog w = .ok (.enter (qs.getD i noQn).g args) w)
    (hS : ∀ i, i < qs.length → (∀ j, j < i → (qs.getD j noQn).p = true) → Says0 (qs.getD i noQn).g (qs.getD i noQn).caps (qs.getD i noQn).p w) :
    Calls Try.prog 49 #[yv, v] w fun e w' => e = .returned (.int .i64 (if qs.all Qn.p then 0 else 2)) ∧ Grew w w' := by
  obtain ⟨a, cap, rfl, hm, hc⟩ := hr
  obtain ⟨n, hn⟩ : ∃ n, qs.length = n := ⟨_, rfl⟩
  obtain ⟨r, hr⟩ : ∃ r : Int, (if qs.all Qn.p then 0 else 2) = r := ⟨_, rfl⟩
  rw [hn] at hm hc hE hS
  rw [hr, hn]
  have HR := hid hr; clear hr
  have HN := hid hN; clear hN
  have HC := hid hc; clear hc
  have HE := hid hE; clear hE
  have HS := hid hS; clear hS
  have HNN := hid hn; clear hn
  have hg := grew_refl w
  go_enter Try.func49, Try.ntmps49
  go_wp2_with (go_at_call 56; with_reducible refine (HN.out _ hg).mono ?_; rintro e w1 ⟨rfl, hx⟩; replace hg := grew_trans hg hx; have hc := (bcell hg).1)
  go_loopg [6, 11] n (fun k _ i wr => ∃ j : Nat, j ≤ n ∧ i = .int .i64 j ∧ k = n - j ∧ Hid (∀ t, t < j → (qs.getD t noQn).p = true) ∧ Grew w wr)
  case atStart => exact ⟨0, Nat.zero_le _, rfl, rfl, hid (fun t ht => by omega), hg⟩
  case round =>
    clear hg hc
    obtain ⟨j, hj, rfl, hk, HT, hg⟩ := hrel
    have HK := hid hk; clear hk
    by_cases hlt : j < n
    · obtain ⟨b, off, o, rfl, hb, _, hcj⟩ := HC.out j hlt
      have hbl := lt_of_obj hb
      have HSj := hid (HS.out j hlt HT.out)
      have HEj := HE.out j hlt
      obtain ⟨q, hq⟩ : ∃ q, qs.getD j noQn = q := ⟨_, rfl⟩
      rw [hq] at hcj HSj HEj
      have hcj0 := (hg.cell (p := ⟨b, off + j, none⟩) hbl).trans hcj
      clear hb hcj
      obtain ⟨gq, cq, pq⟩ := q
      simp only [Qn.val] at hcj0
      have HQ := hid hq; clear hq
      cases pq
      · go_wp2_with (refine (show Calls _ _ _ _ _ from HSj.out _ hg).mono ?_; rintro e w1 ⟨rfl, hx⟩; replace hg := grew_trans hg hx; have hc := (bcell hg).1)
        go_ret
        refine ⟨ret_int (Eq.trans ?_ HR.out), hg⟩
        have : qs.all Qn.p = false := by
          rw [List.all_eq_false]
          refine ⟨qs.getD j noQn, ?_, by rw [HQ.out]; simp⟩
          have hl : j < qs.length := by rw [HNN.out]; exact hlt
          simp [List.getD, hl]
        rw [this]; rfl
      · go_wp2_with (refine (show Calls _ _ _ _ _ from HSj.out _ hg).mono ?_; rintro e w1 ⟨rfl, hx⟩; replace hg := grew_trans hg hx; have hc := (bcell hg).1)
        go_roundg (n - (j + 1))
        case measure => have := HK.out; omega
        case rel => exact ⟨j + 1, by omega, by go_num, rfl, hid (lt_succ_all HT.out (by rw [HQ.out])), hg⟩
    · obtain rfl : j = n := by omega
      go_wp2
      go_ret
      refine ⟨ret_int (Eq.trans ?_ HR.out), hg⟩
      have : qs.all Qn.p = true := by
        rw [List.all_eq_true]
        intro x hx
        obtain ⟨i, hi, rfl⟩ := List.getElem_of_mem hx
        have := HT.out i (by rw [← HNN.out]; exact hi)
        simpa [List.getD, hi] using this
      rw [this]; rfl

set_option maxHeartbeats 400000 in
theorem isThread_any (pa : Option Addr) (t : Int) (w : World) : Calls Try.prog 59 #[.pointer pa, .int .i64 t] w fun e w' => ∃ B, e = .returned (.func (.func 80) #[] #[.pointer (some ⟨B + 1, 0, none⟩), .pointer (some ⟨B, 0, none⟩)]) ∧
    w'.cell? ⟨B + 1, 0, none⟩ = some (.int .i64 t) ∧ w'.cell? ⟨B, 0, none⟩ = some (.pointer pa) ∧ w.heap.size ≤ B ∧ B + 1 < w'.heap.size ∧ Grew w w' := by
  go_enter Try.func59, Try.ntmps59
  go_wp2
  go_ret
  exact ⟨_, rfl, by simp, ((grew_alloc (grew_refl _) _).cell (p := ⟨w.heap.size, 0, none⟩) (by simp)).trans (by simp), Nat.le_refl _, by simp, grew_alloc (grew_alloc (grew_refl w) _) _⟩

set_option maxHeartbeats 400000 in
theorem isSlot_any (yv : Value) (t : Int) (w : World) : Calls Try.prog 60 #[yv, .int .i64 t] w fun e w' => ∃ B, e = .returned (.func (.func 81) #[] #[.pointer (some ⟨B, 0, none⟩)]) ∧
    w'.cell? ⟨B, 0, none⟩ = some (.int .i64 t) ∧ w.heap.size ≤ B ∧ B < w'.heap.size ∧ Grew w w' := by
  go_enter Try.func60, Try.ntmps60
  go_wp2
  go_ret
  exact ⟨_, rfl, by simp, Nat.le_refl _, by simp, grew_alloc (grew_refl w) _⟩

set_option maxHeartbeats 400000 in
theorem isNode_any (yv : Value) (t : Int) (w : World) : Calls Try.prog 58 #[yv, .int .i64 t] w fun e w' => ∃ B, e = .returned (.func (.func 79) #[] #[.pointer (some ⟨B, 0, none⟩)]) ∧
    w'.cell? ⟨B, 0, none⟩ = some (.int .i64 t) ∧ w.heap.size ≤ B ∧ B < w'.heap.size ∧ Grew w w' := by
  go_enter Try.func58, Try.ntmps58
  go_wp2
  go_ret
  exact ⟨_, rfl, by simp, Nat.le_refl _, by simp, grew_alloc (grew_refl w) _⟩

end Go.Proofs.Ytcifpigjcfkhmaa
