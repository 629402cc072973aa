/- Walks: slices.Index at states and ints, Contains, and whether a node is held. -/
import Derived.Test.YtcifpigjcfkhmaaHAsk
namespace Go.Lin.Hz

/-- The first place of a number, or -1. -/
def idx (xs : List Int) (x : Int) : Int := match xs.findIdx? (· == x) with
  | some k => (k : Int)
  | none => -1

theorem idx_at {xs : List Int} {x : Int} {k : Nat} (hk : k < xs.length) (h : nth xs k = x) (h0 : ∀ t, t < k → nth xs t ≠ x) : idx xs x = k := by
  have : xs.findIdx? (· == x) = some k := by
    rw [List.findIdx?_eq_some_iff_getElem]
    refine ⟨hk, by rw [← nth_lt hk, h]; simp, fun j hj => ?_⟩
    have := h0 j hj
    rw [nth_lt (by omega)] at this
    simpa using this
  simp [idx, this]

theorem idx_none {xs : List Int} {x : Int} (h0 : ∀ t, t < xs.length → nth xs t ≠ x) : idx xs x = -1 := by
  have : xs.findIdx? (· == x) = none := by
    rw [List.findIdx?_eq_none_iff]
    intro y hy
    obtain ⟨i, hi, rfl⟩ := List.getElem_of_mem hy
    have := h0 i hi
    rw [nth_lt hi] at this
    simpa using this
  simp [idx, this]

end Go.Lin.Hz
namespace Go.Proofs.Ytcifpigjcfkhmaa
open Go.RowKit Go.Lin Go.Lin.Hz

set_option maxHeartbeats 1000000 in
theorem index67_any (v : Value) (xs : List Int) (x : Int) (w : World) (hx : IsInts Any w v xs) : Calls Try.prog 67 #[v, .int .i64 x] w fun e w' => e = .returned (.int .i64 (idx xs x)) ∧ Grew w w' := by
  obtain ⟨a, cap, rfl, hm, hc⟩ := hx
  have HC := hid hc; clear hc
  obtain ⟨r, hr⟩ : ∃ r, idx xs x = r := ⟨_, rfl⟩
  rw [hr]
  have HR := hid hr; clear hr
  go_enter Try.func67, Try.ntmps67
  go_wp2
  go_loopg [5, 8] (xs.length) (fun k _ i wr => ∃ j : Nat, j ≤ xs.length ∧ i = .int .i64 j ∧ k = xs.length - j ∧ Hid (∀ t, t < j → nth xs t ≠ x) ∧ Grew w wr)
  case atStart => exact ⟨0, Nat.zero_le _, rfl, rfl, hid (fun t ht => by omega), grew_refl _⟩
  case round =>
    obtain ⟨j, hj, rfl, hk, HT, hg⟩ := hrel
    have HK := hid hk; clear hk
    by_cases hlt : j < xs.length
    · obtain ⟨b, off, o, rfl, hb, _, hcj⟩ := HC.out j hlt
      have hbl := lt_of_obj hb
      have hcj0 := (hg.cell (p := ⟨b, off + j, none⟩) hbl).trans hcj
      clear hb hcj
      by_cases hop : x = nth xs j
      · have HOP := hid hop
        have hop2 : (x == nth xs j) = true := by simpa using hop
        clear hop
        go_wp2
        go_ret
        exact ⟨ret_int (by rw [← HR.out]; exact (idx_at hlt HOP.out.symm HT.out).symm), hg⟩
      · have HOP := hid hop
        have hop2 : (x == nth xs j) = false := by simpa using hop
        clear hop
        go_wp2
        go_roundg (xs.length - (j + 1))
        case measure => have := HK.out; omega
        case rel => exact ⟨j + 1, by omega, by go_num, rfl, hid (lt_succ_all HT.out (fun h => HOP.out h.symm)), hg⟩
    · obtain rfl : j = xs.length := by omega
      go_wp2
      go_ret
      exact ⟨ret_int (by rw [← HR.out]; exact (idx_none HT.out).symm), hg⟩

set_option maxHeartbeats 1000000 in
theorem index85_any (v : Value) (xs : List Int) (x : Int) (w : World) (hx : IsInts Any w v xs) : Calls Try.prog 85 #[v, .int .i64 x] w fun e w' => e = .returned (.int .i64 (idx xs x)) ∧ Grew w w' := by
  obtain ⟨a, cap, rfl, hm, hc⟩ := hx
  have HC := hid hc; clear hc
  obtain ⟨r, hr⟩ : ∃ r, idx xs x = r := ⟨_, rfl⟩
  rw [hr]
  have HR := hid hr; clear hr
  go_enter Try.func85, Try.ntmps85
  go_wp2
  go_loopg [5, 8] (xs.length) (fun k _ i wr => ∃ j : Nat, j ≤ xs.length ∧ i = .int .i64 j ∧ k = xs.length - j ∧ Hid (∀ t, t < j → nth xs t ≠ x) ∧ Grew w wr)
  case atStart => exact ⟨0, Nat.zero_le _, rfl, rfl, hid (fun t ht => by omega), grew_refl _⟩
  case round =>
    obtain ⟨j, hj, rfl, hk, HT, hg⟩ := hrel
    have HK := hid hk; clear hk
    by_cases hlt : j < xs.length
    · obtain ⟨b, off, o, rfl, hb, _, hcj⟩ := HC.out j hlt
      have hbl := lt_of_obj hb
      have hcj0 := (hg.cell (p := ⟨b, off + j, none⟩) hbl).trans hcj
      clear hb hcj
      by_cases hop : x = nth xs j
      · have HOP := hid hop
        have hop2 : (x == nth xs j) = true := by simpa using hop
        clear hop
        go_wp2
        go_ret
        exact ⟨ret_int (by rw [← HR.out]; exact (idx_at hlt HOP.out.symm HT.out).symm), hg⟩
      · have HOP := hid hop
        have hop2 : (x == nth xs j) = false := by simpa using hop
        clear hop
        go_wp2
        go_roundg (xs.length - (j + 1))
        case measure => have := HK.out; omega
        case rel => exact ⟨j + 1, by omega, by go_num, rfl, hid (lt_succ_all HT.out (fun h => HOP.out h.symm)), hg⟩
    · obtain rfl : j = xs.length := by omega
      go_wp2
      go_ret
      exact ⟨ret_int (by rw [← HR.out]; exact (idx_none HT.out).symm), hg⟩

set_option maxHeartbeats 400000 in
theorem contains78_any (v : Value) (xs : List Int) (x : Int) (w : World) (hx : IsInts Any w v xs) : Calls Try.prog 78 #[v, .int .i64 x] w fun e w' => e = .returned (.bool (decide (0 ≤ idx xs x))) ∧ Grew w w' := by
  have HI := hid (fun (y : World) (hy : Grew w y) => index85_any v xs x y (hx.grew hy))
  obtain ⟨a, cap, rfl, hm, hc⟩ := hx
  clear hc
  have hg := grew_refl w
  obtain ⟨r, hr⟩ : ∃ r, idx xs x = r := ⟨_, rfl⟩
  rw [hr] at HI ⊢
  go_enter Try.func78, Try.ntmps78
  go_wp2_with (go_at_call 85; with_reducible refine (HI.out _ hg).mono ?_; rintro e w1 ⟨rfl, hx⟩; replace hg := grew_trans hg hx; have hc := (bcell hg).1)
  go_ret
  exact ⟨rfl, hg⟩

/-- A thread's value. -/
def thVal (t : Th) (v : Value) : Value := .agg #[.int .i64 t.a, .int .i64 t.b, v]

theorem has_idx (t : Th) (n : Int) : decide (0 ≤ idx [t.a, t.b] n) = t.has n := by
  unfold idx Th.has
  simp only [List.findIdx?_cons, List.findIdx?_nil]
  by_cases h1 : t.a == n <;> by_cases h2 : t.b == n <;> simp [h1, h2]

set_option maxHeartbeats 1000000 in
theorem held1_any (t : Th) (v : Value) (n : Int) (B : Nat) (w : World) (hlt : B < w.heap.size) (h : w.cell? ⟨B, 0, none⟩ = some (.int .i64 n)) :
    Calls Try.prog 77 #[thVal t v, .pointer (some ⟨B, 0, none⟩)] w fun e w' => e = .returned (.bool (t.has n)) ∧ Grew w w' := by
  unfold thVal
  obtain ⟨W0, hW0, g0, k0, k1, k2, hz⟩ := box3 w (.int .i64 t.a) (.int .i64 t.b) v 81
  have h' := (g0.cell (p := ⟨B, 0, none⟩) hlt).trans h
  have hlt' := Nat.lt_of_lt_of_le hlt g0.size
  have HR := hid (has_idx t n)
  have HI := hid (fun (y : World) (hy : Grew W0 y) => contains78_any (.slice (some ⟨w.heap.size, 0, none⟩) 2 2) [t.a, t.b] n y (show IsInts Any y _ _ from ⟨_, _, rfl, by simp, fun i hi => by
    have hz' := Nat.lt_of_lt_of_le hz hy.size
    refine ⟨_, _, _, rfl, Array.getElem?_eq_getElem hz', trivial, ?_⟩
    rw [hy.cell (p := ⟨w.heap.size, 0 + i, none⟩) hz]
    obtain rfl | rfl : i = 0 ∨ i = 1 := by simp at hi; omega
    · exact k0
    · exact k1⟩))
  rw [HR.out] at HI
  clear h
  go_enter Try.func77, Try.ntmps77
  go_wp2
  clear hW0
  refine wp_region_later (by kernel_rfl) (by kernel_rfl) (fun hL => ?_)
  repeat (go_big_quiet_step ((go_at_call 78; exact calls_later (HI.out _ (Subtype.property _)))))
  refine wpQuiet_nil ?_
  rintro wy ⟨y, hy⟩
  have hgy : Grew w wy := by rw [hy]; exact grew_trans g0 y.2
  clear hL hy y
  go_wp2
  go_ret
  exact ⟨rfl, hgy⟩

/-- The threads, as they lie: the block tb, whose cells are each thread's slots and list. -/
structure ThAt (w : World) (tb : Nat) (th : List Th) (lv : List Value) : Prop where
  lt : tb < w.heap.size
  a : ∀ i, i < th.length → w.cell? ⟨tb, i * 3, none⟩ = some (.int .i64 (th.getD i noTh).a)
  b : ∀ i, i < th.length → w.cell? ⟨tb, i * 3 + 1, none⟩ = some (.int .i64 (th.getD i noTh).b)
  l : ∀ i, i < th.length → w.cell? ⟨tb, i * 3 + 2, none⟩ = lv[i]?
  len : lv.length = th.length

theorem ThAt.grew {w w' : World} {tb : Nat} {th : List Th} {lv : List Value} (h : ThAt w tb th lv) (hg : Grew w w') : ThAt w' tb th lv :=
  ⟨Nat.lt_of_lt_of_le h.lt hg.size, fun i hi => (hg.cell (p := ⟨tb, i * 3, none⟩) h.lt).trans (h.a i hi), fun i hi => (hg.cell (p := ⟨tb, i * 3 + 1, none⟩) h.lt).trans (h.b i hi), fun i hi => (hg.cell (p := ⟨tb, i * 3 + 2, none⟩) h.lt).trans (h.l i hi), h.len⟩

set_option maxHeartbeats 2000000 in
theorem indexTh84_any (th : List Th) (lv : List Value) (tb cap B : Nat) (n : Int) (w : World) (ht : ThAt w tb th lv) (hn : th.length ≤ 4) (hlt : B < w.heap.size) (h : w.cell? ⟨B, 0, none⟩ = some (.int .i64 n)) :
    Calls Try.prog 84 #[.slice (some ⟨tb, 0, none⟩) th.length cap, .func (.func 77) #[] #[.pointer (some ⟨B, 0, none⟩)]] w fun e w' => ∃ r : Int, e = .returned (.int .i64 r) ∧ Hid (decide (0 ≤ r) = th.any fun t => t.has n) ∧ Grew w w' := by
  have HT0 := hid ht
  have H1 := hid (fun (t : Th) (v : Value) (y : World) (hy : Grew w y) => held1_any t v n B y (Nat.lt_of_lt_of_le hlt hy.size) ((hy.cell (p := ⟨B, 0, none⟩) hlt).trans h))
  have hcf' : ∀ args w, (callFunc 77 args).run Try.prog w = .ok (.enter 77 args) w := fun _ _ => by kernel_rfl
  have hlt0 := ht.lt
  obtain ⟨m, hm⟩ : ∃ m, th.length = m := ⟨_, rfl⟩
  rw [hm] at hn ⊢
  have HM := hid hm; clear hm ht h
  go_enter Try.func84, Try.ntmps84
  go_wp2
  go_loopg [5, 8] m (fun k _ i wr => ∃ j : Nat, j ≤ m ∧ i = .int .i64 j ∧ k = m - j ∧ Hid (∀ t, t < j → (th.getD t noTh).has n = false) ∧ Grew w wr)
  case atStart => exact ⟨0, Nat.zero_le _, rfl, rfl, hid (fun t ht => by omega), grew_refl _⟩
  case round =>
    obtain ⟨j, hj, rfl, hk, HT, hg⟩ := hrel
    have HK := hid hk; clear hk
    by_cases hjm : j < m
    · have ht1 := HT0.out.grew hg
      have c0 := ht1.a j (by rw [HM.out]; exact hjm)
      have c1 := ht1.b j (by rw [HM.out]; exact hjm)
      have c2 := ht1.l j (by rw [HM.out]; exact hjm)
      obtain ⟨v, hv⟩ : ∃ v, lv[j]? = some v := ⟨_, List.getElem?_eq_getElem (by rw [ht1.len, HM.out]; exact hjm)⟩
      rw [hv] at c2
      obtain ⟨t, hteq⟩ : ∃ t, th.getD j noTh = t := ⟨_, rfl⟩
      rw [hteq] at c0 c1
      have HTE := hid hteq; clear hteq hv ht1
      obtain ⟨p, hp⟩ : ∃ p, t.has n = p := ⟨_, rfl⟩
      have HP := hid hp; clear hp
      have H2 := hid (fun (y : World) (hy : Grew w y) => H1.out t v y hy)
      rw [HP.out] at H2
      unfold thVal at H2
      cases p
      · go_wp2_with (refine (show Calls _ _ _ _ _ from H2.out _ hg).mono ?_; rintro e w1 ⟨rfl, hx⟩; replace hg := grew_trans hg hx; have hc := (bcell hg).1)
        go_roundg (m - (j + 1))
        case measure => have := HK.out; omega
        case rel => exact ⟨j + 1, by omega, by go_num, rfl, hid (lt_succ_all HT.out (by rw [HTE.out]; exact HP.out)), hg⟩
      · go_wp2_with (refine (show Calls _ _ _ _ _ from H2.out _ hg).mono ?_; rintro e w1 ⟨rfl, hx⟩; replace hg := grew_trans hg hx; have hc := (bcell hg).1)
        go_ret
        refine ⟨(j : Int), rfl, hid ?_, hg⟩
        rw [show decide ((0 : Int) ≤ (j : Int)) = true by simp]
        refine (List.any_eq_true.2 ⟨th.getD j noTh, ?_, by rw [HTE.out]; exact HP.out⟩).symm
        have : j < th.length := by rw [HM.out]; exact hjm
        simp [List.getD, this]
    · obtain rfl : j = m := by omega
      go_wp2
      go_ret
      refine ⟨-1, rfl, hid ?_, hg⟩
      rw [show decide ((0 : Int) ≤ -1) = false by decide]
      refine (List.any_eq_false.2 ?_).symm
      intro x hx
      obtain ⟨i, hi, rfl⟩ := List.getElem_of_mem hx
      have := HT.out i (by rw [← HM.out]; exact hi)
      simpa [List.getD, hi] using this

end Go.Proofs.Ytcifpigjcfkhmaa
