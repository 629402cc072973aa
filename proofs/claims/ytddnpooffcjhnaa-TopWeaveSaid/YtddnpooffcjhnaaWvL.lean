/- Letters in memory; walks: between, the reference's IsLetter, IsWord, depend, free. Walks: the reference's depend, free. Walks of the reference: IsWord, starts. The append steps of a drawn region. Of no program. Walks: without, of the reference. Walk: the reference's FirstForm. Walks of the reference: SameInts, rest. -/
import Derived.Test.YtddnpooffcjhnaaWvM
import Derived.Test.YtddnpooffcjhnaaRows
import Derived.Test.YtddnpooffcjhnaaAppend
import Derived.Deep.RegionLaw
namespace Go.Proofs.Ytddnpooffcjhnaa
open Go.RowKit Go.Lin Go.Lin.Wv

theorem Try.info3 : (Try.prog.info? 3).map (fun i => (i.zero, i.size, i.bytes)) = some (some (.int .i64 0), 1, 8) := by kernel_rfl
theorem Try.info25 : (Try.prog.info? 25).map (fun i => (i.zero, i.size, i.bytes)) = some (some (.slice none 0 0), 1, 24) := by kernel_rfl

/-- A pair lies there. -/
structure PairAt (w : World) (b o : Nat) (x : Int × Int) : Prop where
  lt : b < w.heap.size
  c0 : w.cell? ⟨b, o, none⟩ = some (.int .i64 x.1)
  c1 : w.cell? ⟨b, o + 1, none⟩ = some (.int .i64 x.2)

theorem PairAt.grew {B : Nat} {w w' : World} {b o : Nat} {x : Int × Int} (h : PairAt w b o x) (hb : b < B) (hg : Below B w w') : PairAt w' b o x :=
  ⟨Nat.lt_of_lt_of_le h.lt hg.size, (hg.cell (p := ⟨b, o, none⟩) hb).trans h.c0, (hg.cell (p := ⟨b, o + 1, none⟩) hb).trans h.c1⟩

/-- A slice of pairs. -/
def IsPairs (w : World) (v : Value) (l : List (Int × Int)) : Prop :=
  ∃ (a : Option Addr) (cap : Nat), v = .slice a l.length cap ∧ (l.length ≤ 9223372036854775807 ∧ l.length ≤ cap) ∧ ∀ i x, l[i]? = some x → ∃ b off, a = some ⟨b, off, none⟩ ∧ PairAt w b (off + i * 2) x

theorem IsPairs.grew {w w' : World} {v : Value} {l : List (Int × Int)} (h : IsPairs w v l) (hg : Grew w w') : IsPairs w' v l := by
  obtain ⟨a, cap, h1, h2, h3⟩ := h
  refine ⟨a, cap, h1, h2, fun i x hx => ?_⟩
  obtain ⟨b, off, h4, h5⟩ := h3 i x hx
  exact ⟨b, off, h4, h5.grew h5.lt hg⟩

/-- Letters as a value. -/
def IsLt (w : World) (v : Value) (L : Lt) : Prop := ∃ s, v = .agg #[.int .i64 L.n, s] ∧ IsPairs w s L.ps

theorem IsLt.grew {w w' : World} {v : Value} {L : Lt} (h : IsLt w v L) (hg : Grew w w') : IsLt w' v L := let ⟨s, h1, h2⟩ := h; ⟨s, h1, h2.grew hg⟩

theorem IsLt.small {w : World} {v : Value} {L : Lt} (h : IsLt w v L) : L.ps.length ≤ 9223372036854775807 := let ⟨_, _, _, _, _, h, _⟩ := h; h.1

/-- between. -/
theorem between_any (l n h : Int) (w : World) : Calls Try.prog 61 #[.int .i64 l, .int .i64 n, .int .i64 h] w fun e w' => e = .returned (.bool (decide (l ≤ n) && decide (n ≤ h))) ∧ Grew w w' := by
  obtain ⟨p, hp⟩ : ∃ p, decide (l ≤ n) = p := ⟨_, rfl⟩
  obtain ⟨q, hq⟩ : ∃ q, decide (n ≤ h) = q := ⟨_, rfl⟩
  rw [hp, hq]
  have hg := grew_refl w
  cases p <;> cases q
  all_goals (
    go_enter Try.func61, Try.ntmps61
    go_wp2
    go_ret
    exact ⟨rfl, hg⟩)

set_option maxHeartbeats 1000000 in
theorem isL_any (v : Value) (L : Lt) (a : Int) (w : World) (hv : IsLt w v L) : Calls Try.prog 79 #[v, .int .i64 a] w fun e w' => e = .returned (.bool (isL L a)) ∧ Grew w w' := by
  obtain ⟨s, rfl, -⟩ := hv
  obtain ⟨n, ps⟩ := L
  simp only
  obtain ⟨W0, hW0, g0, k0, k1, hz⟩ := box2 w (.int .i64 n) s 24
  have hg := g0
  have he : isL ⟨n, ps⟩ a = (decide (0 ≤ a) && decide (a < n)) := by unfold isL; simp only; congr 1; rw [decide_eq_decide]; omega
  rw [he]
  obtain ⟨p, hp⟩ : ∃ p, decide (0 ≤ a) = p := ⟨_, rfl⟩
  obtain ⟨q, hq⟩ : ∃ q, decide (a < n) = q := ⟨_, rfl⟩
  rw [hp, hq]
  clear he
  cases p <;> cases q
  all_goals (
    go_enter Try.func79, Try.ntmps79
    go_wp2
    go_ret
    exact ⟨rfl, hg⟩)

end Go.Proofs.Ytddnpooffcjhnaa
namespace Go.Lin.Wv

/-- What depends by the first j pairs. -/
def depTo (L : Lt) (a b : Int) (j : Nat) : Bool := a == b || (L.ps.take j).any (hits a b)

theorem depTo_succ {L : Lt} {a b : Int} {j : Nat} {x : Int × Int} (h : L.ps[j]? = some x) : depTo L a b (j + 1) = (depTo L a b j || (((x.1 == a) && (x.2 == b)) || ((x.1 == b) && (x.2 == a)))) := by
  unfold depTo
  rw [List.take_add_one, h]
  simp [hits, Bool.or_assoc]

theorem depTo_zero (L : Lt) (a b : Int) : depTo L a b 0 = (a == b) := by simp [depTo]
theorem depTo_all (L : Lt) (a b : Int) : depTo L a b L.ps.length = dep L a b := by unfold depTo dep; rw [List.take_length]

end Go.Lin.Wv
namespace Go.Proofs.Ytddnpooffcjhnaa
open Go.RowKit Go.Lin Go.Lin.Wv

set_option maxHeartbeats 4000000 in
theorem depend_any (v : Value) (L : Lt) (a b : Int) (w : World) (hv : IsLt w v L) : Calls Try.prog 74 #[v, .int .i64 a, .int .i64 b] w fun e w' => e = .returned (.bool (dep L a b)) ∧ Grew w w' := by
  obtain ⟨s, rfl, va, vc, rfl, hm, hdd⟩ := hv
  obtain ⟨m, hmm⟩ : ∃ m, L.ps.length = m := ⟨_, rfl⟩
  obtain ⟨W0, hW0, g0, k0, k1, hz⟩ := box2 w (.int .i64 L.n) (.slice va m vc) 24
  have hall := depTo_all L a b
  rw [hmm] at hm hall ⊢
  have HM := hid hmm
  have HDD := hid hdd
  have HALL := hid hall
  have hz0 := depTo_zero L a b
  obtain ⟨q, hq⟩ : ∃ q, (a == b) = q := ⟨_, rfl⟩
  rw [hq] at hz0
  have HZ0 := hid hz0
  have hg := g0
  clear hmm hdd hall hz0
  go_enter Try.func74, Try.ntmps74
  go_wp2
  go_loopg [7, 9, 16] m (fun k is _ i wr => ∃ (j : Nat) (p : Bool), j ≤ m ∧ i = .int .i64 j ∧ k = m - j ∧ is = .bool p ∧ Hid (depTo L a b j = p) ∧ Hid (Grew W0 wr))
  case atStart => exact ⟨0, q, by omega, rfl, rfl, rfl, HZ0, hid (grew_refl _)⟩
  case round =>
    obtain ⟨j, p, hj, rfl, hk, rfl, HP, HG⟩ := hrel
    have HK := hid hk; clear hk
    rename World => wr
    by_cases hlt : j < m
    · obtain ⟨x, hx⟩ : ∃ x, L.ps[j]? = some x := ⟨_, List.getElem?_eq_getElem (by rw [HM.out]; exact hlt)⟩
      obtain ⟨bb, off, rfl, hpa⟩ := HDD.out j x hx
      have hpa' := (hpa.grew hpa.lt g0)
      have hpa2 := (hpa'.grew hpa'.lt HG.out)
      have c0 := hpa2.c0
      have c1 := hpa2.c1
      have hlt2 := hpa2.lt
      have hsucc := depTo_succ (a := a) (b := b) hx
      rw [HP.out] at hsucc
      obtain ⟨x1, x2⟩ := x
      simp only at c0 c1 hsucc
      obtain ⟨p1, hp1⟩ : ∃ q, (x1 == a) = q := ⟨_, rfl⟩
      obtain ⟨p2, hp2⟩ : ∃ q, (x2 == b) = q := ⟨_, rfl⟩
      obtain ⟨p3, hp3⟩ : ∃ q, (x1 == b) = q := ⟨_, rfl⟩
      obtain ⟨p4, hp4⟩ : ∃ q, (x2 == a) = q := ⟨_, rfl⟩
      rw [hp1, hp2, hp3, hp4] at hsucc
      obtain ⟨r, hr⟩ : ∃ r, (p || (p1 && p2 || p3 && p4)) = r := ⟨_, rfl⟩
      rw [hr] at hsucc
      have HS := hid hsucc
      have hg := HG.out
      clear hsucc hx hpa hpa' hpa2
      cases p <;> cases p1 <;> cases p2 <;> cases p3 <;> cases p4
      all_goals (
        subst hr
        go_wp2
        go_roundg (m - (j + 1))
        case measure => have := HK.out; omega
        case rel => exact ⟨j + 1, _, by omega, by go_num, rfl, rfl, HS, hid (grew_alloc HG.out _)⟩)
    · obtain rfl : m = j := by omega
      have hpe := HP.out.symm.trans HALL.out
      have HPE := hid hpe
      clear hpe
      go_wp2
      go_ret
      exact ⟨by rw [HPE.out]; rfl, grew_trans g0 HG.out⟩

/-- What the program says for an index. -/
def ix : Option Nat → Int
  | none => -1
  | some i => i

theorem free_drop {D : Int → Int → Bool} {w : List Int} {a b : Int} {j : Nat} (h : w[j]? = some b) : free D (w.drop j) a = if b = a then some 0 else if D a b then none else (free D (w.drop (j + 1)) a).map (· + 1) := by
  have : w.drop j = b :: w.drop (j + 1) := by
    obtain ⟨h1, h2⟩ := List.getElem?_eq_some_iff.1 h
    rw [← h2]
    exact List.drop_eq_getElem_cons h1
  rw [this]
  rfl

set_option maxHeartbeats 4000000 in
theorem free_any (v : Value) (L : Lt) (wv : Value) (x : List Int) (a : Int) (w : World) (hv : IsLt w v L) (hx : IsInts Any w wv x) : Calls Try.prog 98 #[v, wv, .int .i64 a] w fun e w' => e = .returned (.int .i64 (ix (free (dep L) x a))) ∧ Grew w w' := by
  have HDEP := hid (fun (b : Int) (y : World) (hy : Grew w y) => depend_any v L a b y (hv.grew hy))
  obtain ⟨s, rfl, hps⟩ := hv
  obtain ⟨W0, hW0, g0, k0, k1, hz⟩ := box2 w (.int .i64 L.n) s 24
  obtain ⟨va, vc, rfl, hm, hc⟩ := hx
  obtain ⟨m, hmm⟩ : ∃ m, x.length = m := ⟨_, rfl⟩
  obtain ⟨r, hr⟩ : ∃ r, free (dep L) x a = r := ⟨_, rfl⟩
  rw [hr]
  rw [hmm] at hm hc ⊢
  have HM := hid hmm
  have HC := hid hc
  have HR := hid (show free (dep L) (x.drop 0) a = r by simpa using hr)
  have hg := g0
  clear hmm hc hr hps
  go_enter Try.func98, Try.ntmps98
  go_wp2
  go_loopg [7, 8, 11] m (fun k _ _ i wr => ∃ (j : Nat) (q : Option Nat), j ≤ m ∧ i = .int .i64 j ∧ k = m - j ∧ Hid (free (dep L) (x.drop j) a = q) ∧ Hid (r = q.map (· + j)) ∧ Hid (Grew W0 wr))
  case atStart => exact ⟨0, r, by omega, rfl, rfl, HR, hid (by simp), hid (grew_refl _)⟩
  case round =>
    obtain ⟨j, q, hj, rfl, hk, HQ, HRQ, HG⟩ := hrel
    have HK := hid hk; clear hk
    rename World => wr
    by_cases hlt : j < m
    · obtain ⟨b, off, o, hva, hob, -, hcc⟩ := HC.out j hlt
      subst hva
      have hbl := lt_of_obj hob
      have hxj : x[j]? = some (nth x j) := by rw [nth_lt (by rw [HM.out]; exact hlt)]; exact List.getElem?_eq_getElem _
      replace hcc : _ = some (Value.int .i64 (nth x j)) := hcc
      have hfd := free_drop (D := dep L) (a := a) hxj
      obtain ⟨y, hy⟩ : ∃ y, nth x j = y := ⟨_, rfl⟩
      rw [hy] at hcc hfd
      have hg := grew_trans g0 HG.out
      have hcw := (hg.cell (p := ⟨b, off + j, none⟩) hbl).trans hcc
      have hbw := Nat.lt_of_lt_of_le hbl hg.size
      have kw0 := (HG.out.cell (p := ⟨w.heap.size, 0, none⟩) hz).trans k0
      have kw1 := (HG.out.cell (p := ⟨w.heap.size, 1, none⟩) hz).trans k1
      have hzw := Nat.lt_of_lt_of_le hz HG.out.size
      clear hob hxj hcc hy
      cases hya : (y == a)
      · have hne : y ≠ a := by simpa using hya
        rw [if_neg hne] at hfd
        have HD := hid (HDEP.out y wr hg)
        obtain ⟨d, hd⟩ : ∃ d, dep L a y = d := ⟨_, rfl⟩
        rw [hd] at HD hfd
        cases d
        · have HFD := hid hfd
          clear hfd hd hne
          go_wp2_with (go_at_call 74; with_reducible refine HD.out.mono ?_; rintro e w1 ⟨rfl, hx1⟩; have HX1 := hid hx1; clear hx1)
          go_roundg (m - (j + 1))
          case measure => have := HK.out; omega
          case rel =>
            refine ⟨j + 1, free (dep L) (x.drop (j + 1)) a, by omega, by go_num, rfl, hid rfl, hid ?_, hid (grew_trans HG.out HX1.out)⟩
            rw [HRQ.out, ← HQ.out, HFD.out]
            simp [Function.comp_def, Nat.add_comm, Nat.add_left_comm]
        · have hq : q = none := by rw [← HQ.out, hfd]; rfl
          have hrn : r = none := by rw [HRQ.out, hq]; rfl
          clear hfd hd hne hq
          have HRN := hid hrn
          clear hrn
          go_wp2_with (go_at_call 74; with_reducible refine HD.out.mono ?_; rintro e w1 ⟨rfl, hx1⟩; have HX1 := hid hx1; clear hx1)
          go_ret
          exact ⟨by rw [HRN.out]; rfl, grew_trans hg HX1.out⟩
      · have he : y = a := by simpa using hya
        have hq : q = some 0 := by rw [← HQ.out, hfd, if_pos he]
        have hrn : r = some j := by rw [HRQ.out, hq]; simp
        have HRN := hid hrn
        clear hfd he hq hrn
        go_wp2
        go_ret
        exact ⟨by rw [HRN.out]; rfl, hg⟩
    · obtain rfl : m = j := by omega
      have hq : q = none := by rw [← HQ.out, List.drop_of_length_le (by rw [HM.out]; exact Nat.le_refl _)]; rfl
      have hrn : r = none := by rw [HRQ.out, hq]; rfl
      have HRN := hid hrn
      clear hq hrn
      go_wp2
      go_ret
      exact ⟨by rw [HRN.out]; rfl, grew_trans g0 HG.out⟩

end Go.Proofs.Ytddnpooffcjhnaa
namespace Go.Lin

theorem keeps_of_grown {w w' : World} {row : Option Nat} (h : w.grownBy w' row) : Keeps (fun k _ => row = some k) w w' :=
  (Keeps.refl _ w).grown h (fun _ _ e _ => e)

end Go.Lin
namespace Go.Lin.Wv

theorem starts_succ {D : Int → Int → Bool} {j : Nat} {x : List Int} : starts D (j + 1) x = if (free D x (j : Int)).isSome then starts D j x ++ [(j : Int)] else starts D j x := by
  unfold starts
  rw [List.range_succ, List.map_append, List.filter_append]
  cases h : (free D x (j : Int)).isSome <;> simp [h]

theorem starts_le (D : Int → Int → Bool) (j : Nat) (x : List Int) : (starts D j x).length ≤ j := by
  unfold starts
  refine Nat.le_trans (List.length_filter_le _ _) ?_
  simp

end Go.Lin.Wv
namespace Go.Proofs.Ytddnpooffcjhnaa
open Go.RowKit Go.Lin Go.Lin.Wv

theorem isInts_any {w : World} {base : Nat} {e : TypeId} {v : Value} {n : Nat} {xs : List Int} (h : Seg w base e 1 v n (xs.map (.int .i64))) : IsInts Any w v xs := Reads.any h.isInts

set_option maxHeartbeats 4000000 in
theorem isW_any (v : Value) (L : Lt) (wv : Value) (x : List Int) (w : World) (hv : IsLt w v L) (hx : IsInts Any w wv x) : Calls Try.prog 53 #[v, wv] w fun e w' => e = .returned (.bool (isW L x)) ∧ Grew w w' := by
  have HISL := hid (fun (b : Int) (y : World) (hy : Grew w y) => isL_any v L b y (hv.grew hy))
  obtain ⟨s, rfl, hps⟩ := hv
  obtain ⟨W0, hW0, g0, k0, k1, hz⟩ := box2 w (.int .i64 L.n) s 24
  obtain ⟨va, vc, rfl, hm, hc⟩ := hx
  obtain ⟨m, hmm⟩ : ∃ m, x.length = m := ⟨_, rfl⟩
  obtain ⟨r, hr⟩ : ∃ r, isW L x = r := ⟨_, rfl⟩
  rw [hr]
  rw [hmm] at hm hc ⊢
  have HM := hid hmm
  have HC := hid hc
  have HR := hid hr
  have hg := g0
  clear hmm hc hr hps
  go_enter Try.func53, Try.ntmps53
  go_wp2
  go_loopg [6, 9] m (fun k _ i wr => ∃ j : Nat, j ≤ m ∧ i = .int .i64 j ∧ k = m - j ∧ Hid ((x.take j).all (isL L) = true) ∧ Hid (Grew W0 wr))
  case atStart => exact ⟨0, by omega, rfl, rfl, hid rfl, hid (grew_refl _)⟩
  case round =>
    obtain ⟨j, hj, rfl, hk, HA, HG⟩ := hrel
    have HK := hid hk; clear hk
    rename World => wr
    by_cases hlt : j < m
    · obtain ⟨b, off, o, hva, hob, -, hcc⟩ := HC.out j hlt
      subst hva
      have hbl := lt_of_obj hob
      have hjx : j < x.length := by rw [HM.out]; exact hlt
      have htk := take_succ_nth hjx
      have hmem : nth x j ∈ x := by rw [nth_lt hjx]; exact List.getElem_mem _
      replace hcc : _ = some (Value.int .i64 (nth x j)) := hcc
      obtain ⟨y, hy⟩ : ∃ y, nth x j = y := ⟨_, rfl⟩
      rw [hy] at hcc htk hmem
      have hg := grew_trans g0 HG.out
      have hcw := (hg.cell (p := ⟨b, off + j, none⟩) hbl).trans hcc
      have hbw := Nat.lt_of_lt_of_le hbl hg.size
      have kw0 := (HG.out.cell (p := ⟨w.heap.size, 0, none⟩) hz).trans k0
      have kw1 := (HG.out.cell (p := ⟨w.heap.size, 1, none⟩) hz).trans k1
      have hzw := Nat.lt_of_lt_of_le hz HG.out.size
      have HI := hid (HISL.out y wr hg)
      have HTK := hid htk
      clear hob hcc hy htk
      cases hq : isL L y
      · have hrn : r = false := by
          rw [← HR.out]; unfold isW
          rw [show x.all (isL L) = false from List.all_eq_false.2 ⟨y, hmem, by rw [hq]; simp⟩, Bool.and_false]
        have HRN := hid hrn
        rw [hq] at HI
        clear hrn hq hmem
        go_wp2_with (go_at_call 79; with_reducible refine HI.out.mono ?_; rintro e w1 ⟨rfl, hx1⟩; have HX1 := hid hx1; clear hx1)
        go_ret
        exact ⟨by rw [HRN.out]; rfl, grew_trans hg HX1.out⟩
      · have HQ := hid hq
        rw [hq] at HI
        clear hq hmem
        go_wp2_with (go_at_call 79; with_reducible refine HI.out.mono ?_; rintro e w1 ⟨rfl, hx1⟩; have HX1 := hid hx1; clear hx1)
        go_roundg (m - (j + 1))
        case measure => have := HK.out; omega
        case rel => exact ⟨j + 1, by omega, by go_num, rfl, hid (by rw [HTK.out, List.all_append, HA.out]; simp [HQ.out]), hid (grew_trans HG.out HX1.out)⟩
    · obtain rfl : m = j := by omega
      have hrn : r = decide (m ≤ 10) := by
        rw [← HR.out]; unfold isW
        have := HA.out
        rw [List.take_of_length_le (by rw [HM.out]; exact Nat.le_refl _)] at this
        rw [this, Bool.and_true, HM.out]
      have HRN := hid hrn
      clear hrn
      go_wp2
      go_ret
      refine ⟨?_, grew_trans g0 HG.out⟩
      rw [HRN.out]
      exact ret_bool (by rw [decide_eq_decide]; omega)

set_option maxHeartbeats 4000000 in
theorem rStarts_any (v : Value) (L : Lt) (wv : Value) (x : List Int) (N : Nat) (w : World) (hN : L.n = (N : Int)) (hN6 : N ≤ 6) (hv : IsLt w v L) (hx : IsInts Any w wv x) : Calls Try.prog 94 #[v, wv] w fun e w' => ∃ u, e = .returned u ∧ Seg w' w.heap.size 3 1 u (starts (dep L) N x).length ((starts (dep L) N x).map (.int .i64)) ∧ Grew w w' := by
  have HFR := hid (fun (a : Int) (y : World) (hy : Grew w y) => free_any v L wv x a y (hv.grew hy) (Reads.grew hx hy))
  obtain ⟨s, rfl, hps⟩ := hv
  rw [hN] at HFR ⊢
  obtain ⟨W0, hW0, g0, k0, k1, hz⟩ := box2 w (.int .i64 (N : Int)) s 24
  have hg := g0
  clear hps hx
  go_enter Try.func94, Try.ntmps94
  go_wp2
  go_loopg [5, 6, 9] N (fun k out _ i wr => ∃ (j c : Nat), j ≤ N ∧ i = .int .i64 j ∧ k = N - j ∧ c ≤ j ∧ Hid (c = (starts (dep L) j x).length) ∧ Hid (Seg wr W0.heap.size 3 1 out c ((starts (dep L) j x).map (.int .i64))) ∧ Hid (Grew W0 wr))
  case atStart => exact ⟨0, 0, by omega, rfl, rfl, by omega, hid rfl, hid (Seg.nil _ _ _ _), hid (grew_refl _)⟩
  case round =>
    obtain ⟨j, c, hj, rfl, hk, hcj, HCL, HSG, HG⟩ := hrel
    have HK := hid hk; clear hk
    rename World => wr
    by_cases hlt : j < N
    · have hg := grew_trans g0 HG.out
      have hwr := HG.out.size
      have kw0 := (HG.out.cell (p := ⟨w.heap.size, 0, none⟩) hz).trans k0
      have kw1 := (HG.out.cell (p := ⟨w.heap.size, 1, none⟩) hz).trans k1
      have hzw := Nat.lt_of_lt_of_le hz HG.out.size
      have HF := hid (HFR.out (j : Int) wr hg)
      have hsu := starts_succ (D := dep L) (j := j) (x := x)
      obtain ⟨q, hq⟩ : ∃ q, free (dep L) x (j : Int) = q := ⟨_, rfl⟩
      rw [hq] at HF hsu
      have HSU := hid hsu
      clear hsu hq
      rcases q with _ | q
      · have h1 : decide (0 ≤ ix none) = false := by decide
        obtain ⟨z, hz1⟩ : ∃ z, ix none = z := ⟨_, rfl⟩
        rw [hz1] at HF h1
        clear hz1
        go_wp2_with (go_at_call 98; with_reducible refine HF.out.mono ?_; rintro e w1 ⟨rfl, hx1⟩; have HX1 := hid hx1; clear hx1)
        go_roundg (N - (j + 1))
        case measure => have := HK.out; omega
        case rel => exact ⟨j + 1, c, by omega, by go_num, rfl, by omega, hid (by rw [HSU.out]; exact HCL.out), hid (by rw [HSU.out]; exact HSG.out.grew HX1.out), hid (grew_trans HG.out HX1.out)⟩
      · have h1 : decide (0 ≤ ix (some q)) = true := by simp [ix]
        obtain ⟨z, hz1⟩ : ∃ z, ix (some q) = z := ⟨_, rfl⟩
        rw [hz1] at HF h1
        clear hz1
        obtain ⟨vs, hvs⟩ : ∃ vs, (starts (dep L) j x).map (Value.int .i64) = vs := ⟨_, rfl⟩
        have HVS := hid hvs
        rw [hvs] at HSG
        clear hvs
        go_wp2_with (first
          | (go_at_call 98; with_reducible refine HF.out.mono ?_; rintro e w1 ⟨rfl, hx1⟩; have HX1 := hid hx1; have hseg := HSG.out.grew hx1; have hsz1 := hx1.size; clear hx1)
          | (at_builtin; go_loud (refine wpList_append_one rfl _ _ 25 rfl W0.heap.size 3 Try.underlying25 Try.info3 rfl (by decide) _ c _ rfl (hseg.alloc _) _ _ _ rfl (one_new _ _ _) rfl (by omega) ?_ ?_); (simp only [World.size_alloc]; omega); intro v9 w9 hown9 hgrow9 hblk9; have HGR9 := hid hgrow9; clear hgrow9 hblk9))
        have hk9 := ((Keeps.refl (fun k _ => u5.ownBlock = some k) w1).alloc (.cells #[.int .i64 (j : Int)] 3)).trans (keeps_of_grown HGR9.out)
        have hb9 : Below W0.heap.size w1 w9 := hk9.below (by omega) (fun k o e => (hseg.own k e).1)
        have HW9 := hid (show Grew W0 w9 from (grew_trans HG.out HX1.out).trans hb9)
        clear hk9 hb9 hseg
        go_roundg (N - (j + 1))
        case measure => have := HK.out; omega
        case rel => exact ⟨j + 1, c + 1, by omega, by go_num, rfl, by omega, hid (by rw [HSU.out, HCL.out]; simp), hid (by rw [HSU.out, Option.isSome_some, if_pos rfl, List.map_append, HVS.out]; exact hown9), HW9⟩
    · obtain rfl : N = j := by omega
      have hgw := grew_trans g0 HG.out
      go_wp2
      go_ret
      exact ⟨_, rfl, by rw [← HCL.out]; exact HSG.out.mono g0.size, hgw⟩

end Go.Proofs.Ytddnpooffcjhnaa
namespace Go.Lin
open Go.RowKit

/-- A list. -/
theorem step_append_seg {P : Program} {w : World} {ops : Array Oper} {o : Oper} {a : Act} {K : Act → World → Prop} {Q : Exit → Act → World → Prop} {E : Prop} (hgd : o.guard = none) (s x : Operand) (t tx : TypeId)
    (ho : o.op = .call { callee := .builtin .append, args := #[s, x], argTypes := #[t, tx] })
    (base : Nat) (e : TypeId) (i : TypeInfo) (z : Value) (size bytes : Nat) (ht : P.underlying t = some (.slice e)) (hi : P.info? e = some i) (hz : i.zero = some z)
    (hsize : i.size = size) (hby : i.bytes = bytes) (hzs : z.cells.size = size)
    (v : Value) (n : Nat) (xs : List Value) (hs : a.eval s = v) (hown : Seg w base e size v n xs) (y : Value) (hy : a.eval x = y) (m : Nat) (news : List Value) (hsrc : Src P size tx y m news w)
    (h63 : n + m ≤ maxLen) (hbytes : (n + m) * bytes ≤ 140737488355328) (hbase : base ≤ w.heap.size)
    (h : ∀ v' w', Seg w' base e size v' (n + m) (xs ++ news) → w.grownBy w' v.ownBlock → (v'.ownBlock = v.ownBlock ∨ v'.ownBlock = some w.heap.size) → K (a.put o.dst v') w') :
    if Region.wanted o (yielded ops a.tmps) = true then Oper.wp P o a w K Q else E := by
  have hw : Region.wanted o (yielded ops a.tmps) = true := by simp [Region.wanted, hgd]
  rw [if_pos hw]
  exact wp_append_seg s x t tx ho base e i z size bytes ht hi hz hsize hby hzs v n xs hs hown y hy m news hsrc h63 hbytes hbase h

/-- One element. -/
theorem step_append_one {P : Program} {w : World} {ops : Array Oper} {o : Oper} {a : Act} {K : Act → World → Prop} {Q : Exit → Act → World → Prop} {E : Prop} (hgd : o.guard = none) (s x : Operand) (t : TypeId)
    (ho : o.op = .call { callee := .builtin .append, args := #[s, x], argTypes := #[t, t] })
    (base : Nat) (e : TypeId) {z : Value} {bytes : Nat} (ht : P.underlying t = some (.slice e)) (hinfo : (P.info? e).map (fun i => (i.zero, i.size, i.bytes)) = some (some z, 1, bytes)) (hzs : z.cells.size = 1) (hb : bytes ≤ 64)
    (v : Value) (n : Nat) (xs : List Value) (hs : a.eval s = v) (hown : Seg w base e 1 v n xs) (b c : Nat) (u : Value) (hx : a.eval x = .slice (some ⟨b, 0, none⟩) 1 c) (hc : w.cell? ⟨b, 0, none⟩ = some u) (h1 : u.oneCell' = true)
    (hn : n < 1000000000) (hbase : base ≤ w.heap.size)
    (h : ∀ v' w', Seg w' base e 1 v' (n + 1) (xs ++ [u]) → w.grownBy w' v.ownBlock → (v'.ownBlock = v.ownBlock ∨ v'.ownBlock = some w.heap.size) → K (a.put o.dst v') w') :
    if Region.wanted o (yielded ops a.tmps) = true then Oper.wp P o a w K Q else E := by
  have hw : Region.wanted o (yielded ops a.tmps) = true := by simp [Region.wanted, hgd]
  rw [if_pos hw]
  obtain ⟨i, hi, hz0, hz1, hz2⟩ := info_parts hinfo
  refine wp_append_seg s x t t ho base e i z 1 bytes ht hi hz0 hz1 hz2 hzs v n xs hs hown _ hx 1 [u] (Src.ofSlice _ ht ⟨b, 0, none⟩ 1 c [u] rfl ?_ (by simpa using h1)) (by unfold maxLen; omega) ?_ hbase h
  · intro j w' hj
    have : j = 0 := by
      rcases j with _ | j
      · rfl
      · simp at hj
    subst this
    simp at hj
    subst hj
    rw [Addr.add_lit]; exact hc
  · calc (n + 1) * bytes ≤ 1000000000 * 64 := Nat.mul_le_mul (by omega) hb
      _ ≤ 140737488355328 := by decide

end Go.Lin
namespace Go.Proofs.Ytddnpooffcjhnaa
open Go.RowKit Go.Lin Go.Lin.Wv

/-- A list of ints as what is appended. -/
theorem src_ints {w : World} {v : Value} {xs : List Int} (h : IsInts Any w v xs) : Src Try.prog 1 25 v xs.length (xs.map (.int .i64)) w := by
  obtain ⟨a, cap, rfl, hm, hc⟩ := h
  rcases a with _ | ad
  · have h0 : xs.length = 0 := by
      rcases Nat.eq_zero_or_pos xs.length with h | h
      · exact h
      · obtain ⟨_, _, _, h2, _⟩ := hc 0 h; cases h2
    have : xs = [] := List.length_eq_zero_iff.1 h0
    subst this
    exact Src.ofNil _ Try.underlying25 cap
  · refine Src.ofSlice _ Try.underlying25 ad _ cap _ (by simp) ?_ ?_
    · intro j u hj
      have hjn : j < xs.length := by have := (List.getElem?_eq_some_iff.1 hj).1; simpa using this
      simp only [List.getElem?_map, List.getElem?_eq_getElem hjn, Option.map_some, Option.some.injEq] at hj
      obtain ⟨b, off, o, h2, h3, _, h5⟩ := hc j hjn
      cases h2
      rw [Addr.add_lit, h5, ← hj]
      simp only [nth_lt hjn]
    · intro u hu
      obtain ⟨i, _, rfl⟩ := List.mem_map.1 hu
      rfl

/-- A part of a list. -/
theorem part_ints {w : World} {b off cap n : Nat} {xs : List Int} (h : Reads Any w (.slice (some ⟨b, off, none⟩) n cap) n (fun i => .int .i64 (nth xs i))) (hn : xs.length = n) (j k c : Nat) (hjk : j + k ≤ n) : IsInts Any w (.slice (some ⟨b, off + j, none⟩) ((xs.drop j).take k).length c) ((xs.drop j).take k) := by
  obtain ⟨a, cap', hv, hm, hc⟩ := h
  have hl : ((xs.drop j).take k).length = k := by simp; omega
  refine ⟨_, _, rfl, by omega, fun i hi => ?_⟩
  obtain ⟨b', off', o', h1, h2, h3, h4⟩ := hc (j + i) (by omega)
  simp only [Value.slice.injEq] at hv
  obtain ⟨rfl, -⟩ := hv
  cases h1
  refine ⟨b, off + j, o', rfl, h2, h3, ?_⟩
  rw [Nat.add_assoc, h4]
  simp only [nth_lt (show j + i < xs.length by omega), nth_lt hi]
  simp

/-- A list of ints whose room is no less than its length. -/
def IsWd (w : World) (v : Value) (xs : List Int) : Prop := ∃ a cap, v = .slice a xs.length cap ∧ xs.length ≤ cap ∧ IsInts Any w v xs

theorem IsWd.grew {w w' : World} {v : Value} {xs : List Int} (h : IsWd w v xs) (hg : Grew w w') : IsWd w' v xs := let ⟨a, c, h1, h2, h3⟩ := h; ⟨a, c, h1, h2, Reads.grew h3 hg⟩
theorem IsWd.ints {w : World} {v : Value} {xs : List Int} (h : IsWd w v xs) : IsInts Any w v xs := let ⟨_, _, _, _, h3⟩ := h; h3
theorem IsWd.of_seg {w : World} {base : Nat} {v : Value} {n : Nat} {xs : List Int} (h : Seg w base 3 1 v n (xs.map (.int .i64))) : IsWd w v xs := by
  have hl : n = xs.length := by have := h.1; simp at this; omega
  have hi := isInts_any h
  rcases h.2 with ⟨rfl, h0⟩ | ⟨g, off, cap, cur, rfl, _, _, hn, _⟩
  · exact ⟨none, 0, by rw [← hl, h0], by omega, hi⟩
  · exact ⟨_, cap, by rw [hl], by omega, hi⟩

set_option maxHeartbeats 4000000 in
theorem rWithout_any (wv : Value) (x : List Int) (i : Nat) (w : World) (hi : i < x.length) (hs : x.length ≤ 1000000) (hx : IsWd w wv x) : Calls Try.prog 97 #[wv, .int .i64 (i : Int)] w fun e w' => ∃ u, e = .returned u ∧ Seg w' w.heap.size 3 1 u (x.eraseIdx i).length ((x.eraseIdx i).map (.int .i64)) ∧ Grew w w' := by
  obtain ⟨va, vc, rfl, hcap, va0, vc0, hveq, hm, hc⟩ := hx
  obtain ⟨rfl, rfl⟩ : va = va0 ∧ vc = vc0 := by simp at hveq; exact ⟨hveq.1, hveq.2⟩
  clear hveq
  obtain ⟨m, hmm⟩ : ∃ m, x.length = m := ⟨_, rfl⟩
  rw [hmm] at hm hc hi hs hcap ⊢
  obtain ⟨b, off, o, hva, hob, -, -⟩ := hc 0 (by omega)
  subst hva
  have hR : Reads Any w (.slice (some ⟨b, off, none⟩) m vc) m (fun i => .int .i64 (nth x i)) := ⟨_, _, rfl, hm, hc⟩
  obtain ⟨i0, hi0, hi1, hi2, hi3⟩ := info_parts Try.info3
  have hl1 : ((x.drop 0).take i).length = i := by simp; omega
  have hl2 : ((x.drop (i + 1)).take (m - (i + 1))).length = m - (i + 1) := by simp; omega
  have hsrc1 := fun (y : World) (hy : Grew w y) (c : Nat) => src_ints (part_ints (Reads.grew hR hy) hmm 0 i c (by omega))
  have hsrc2 := fun (y : World) (hy : Grew w y) (c : Nat) => src_ints (part_ints (Reads.grew hR hy) hmm (i + 1) (m - (i + 1)) c (by omega))
  rw [hl1] at hsrc1
  rw [hl2] at hsrc2
  have hseg0 : Seg (w.drew.alloc (.cells #[] 3)) w.heap.size 3 1 (.slice (some ⟨w.heap.size, 0, none⟩) 0 0) 0 [] :=
    ⟨by simp, .inr ⟨w.heap.size, 0, 0, #[], rfl, Nat.le_refl _, heap_alloc_new w.drew _, Nat.le_refl _, by unfold maxLen; omega, by simp, by simp⟩⟩
  have HSEG0 := hid hseg0
  have HSRC1 := hid hsrc1
  have HSRC2 := hid hsrc2
  have HM := hid hmm
  have hiv : i ≤ vc := by omega
  have hiv2 : i + 1 ≤ vc := by omega
  have him : i + 1 ≤ m := by omega
  clear hseg0 hsrc1 hsrc2 hl1 hl2 hR hc hob hmm
  have he : (x.take i ++ (x.drop (i + 1)).take (m - (i + 1))) = x.eraseIdx i := by
    rw [List.eraseIdx_eq_take_drop_succ, List.take_of_length_le (l := x.drop (i + 1)) (by rw [List.length_drop, HM.out]; exact Nat.le_refl _)]
  have HE := hid he
  have hlen : i + (m - (i + 1)) = (x.eraseIdx i).length := by rw [List.length_eraseIdx, HM.out, if_pos hi]; omega
  have HLEN := hid hlen
  obtain ⟨r, hr⟩ : ∃ r, m - (i + 1) = r := ⟨_, rfl⟩
  rw [hr] at HSRC2 HE HLEN
  have hmr : m = i + 1 + r := by omega
  subst hmr
  clear he hlen hr
  have hwr : IntKind.i64.wrap ((i : Int) + 1) = (i : Int) + 1 := IntWalk.i64_in _ (by omega)
  have htn : ((i : Int) + 1).toNat = i + 1 := by omega
  have hp0 : (0 : Int) ≤ (i : Int) + 1 := by omega
  have hle : (i : Int) + 1 ≤ (i : Int) + 1 + (r : Int) := by omega
  by_cases hvc : vc = i + 1
  · obtain rfl : r = 0 := by omega
    subst hvc
    have hia : (i : Int) ≤ (i : Int) + 1 := by omega
    have HSRC3 := hid (fun (y : World) => src_ints (w := y) (v := .slice (some ⟨b, off, none⟩) 0 0) (xs := []) (Reads.nil _ _ _ _ _))
    go_enter Try.func97, Try.ntmps97
    go_wp2
    go_region_law (first
      | (refine step_append_seg (by rfl) _ _ 25 25 (by rfl) w.heap.size 3 i0 (.int .i64 0) 1 8 Try.underlying25 hi0 hi1 hi2 hi3 rfl _ 0 [] (by rfl) HSEG0.out _ (by rfl) i _ (HSRC1.out _ (grew_alloc (grew_drew (grew_refl w)) _) _) (by unfold maxLen; omega) (by omega) (by simp) ?_; intro v7 w7 hown7 hgrow7 hblk7; rw [Nat.zero_add, List.nil_append] at hown7; have hg7 : Grew w w7 := ((grew_drew (grew_refl w)).alloc (Nat.le_refl _) _).grown hgrow7 (by simp) (fun k e => by simp [Value.ownBlock] at e; omega); obtain ⟨a7, c7, rfl, _⟩ := hown7.shape; have HOWN7 := hid hown7; clear hown7)
      | (refine step_append_seg (by rfl) _ _ 25 25 (by rfl) w.heap.size 3 i0 (.int .i64 0) 1 8 Try.underlying25 hi0 hi1 hi2 hi3 rfl _ i _ (by rfl) HOWN7.out _ (by rfl) 0 [] (HSRC3.out _) (by unfold maxLen; omega) (by omega) hg7.size ?_; intro v8 w8 hown8 hgrow8 hblk8; have HOWN8 := hid hown8; clear hown8))
    all_goals (
      have hg8 : Grew w w8 := hg7.grown hgrow8 hg7.size (fun k e => (HOWN7.out.own k e).1)
      have HG8 := hid hg8
      clear hg8 hgrow8 hblk8 hgrow7 hblk7
      go_wp2
      go_ret
      refine ⟨_, rfl, ?_, HG8.out⟩
      have h := HOWN8.out
      rw [List.drop_zero] at h
      rw [← HLEN.out, ← HE.out, List.take_zero, List.append_nil]
      simp only [List.append_nil, Nat.add_zero] at h
      exact h)
  · have hvc2 : ¬ vc ≤ i + 1 := by omega
    go_enter Try.func97, Try.ntmps97
    go_wp2
    go_region_law (first
      | (refine step_append_seg (by rfl) _ _ 25 25 (by rfl) w.heap.size 3 i0 (.int .i64 0) 1 8 Try.underlying25 hi0 hi1 hi2 hi3 rfl _ 0 [] (by rfl) HSEG0.out _ (by rfl) i _ (HSRC1.out _ (grew_alloc (grew_drew (grew_refl w)) _) _) (by unfold maxLen; omega) (by omega) (by simp) ?_; intro v7 w7 hown7 hgrow7 hblk7; rw [Nat.zero_add, List.nil_append] at hown7; have hg7 : Grew w w7 := ((grew_drew (grew_refl w)).alloc (Nat.le_refl _) _).grown hgrow7 (by simp) (fun k e => by simp [Value.ownBlock] at e; omega); obtain ⟨a7, c7, rfl, _⟩ := hown7.shape; have HOWN7 := hid hown7; clear hown7)
      | go_loud (refine step_append_seg (by rfl) _ _ 25 25 (by rfl) w.heap.size 3 i0 (.int .i64 0) 1 8 Try.underlying25 hi0 hi1 hi2 hi3 rfl _ i _ (by rfl) HOWN7.out _ (by rfl) r _ (HSRC2.out _ hg7 _) (by unfold maxLen; omega) (by omega) hg7.size ?_; intro v8 w8 hown8 hgrow8 hblk8; have HOWN8 := hid hown8; clear hown8))
    all_goals (
      have hg8 : Grew w w8 := hg7.grown hgrow8 hg7.size (fun k e => (HOWN7.out.own k e).1)
      have HG8 := hid hg8
      clear hg8 hgrow8 hblk8 hgrow7 hblk7
      go_wp2
      go_ret
      refine ⟨_, rfl, ?_, HG8.out⟩
      have h := HOWN8.out
      rw [List.drop_zero] at h
      rw [← HLEN.out, ← HE.out, List.map_append]
      exact h)

end Go.Proofs.Ytddnpooffcjhnaa
namespace Go.Lin.Wv

theorem firstN_cons {D : Int → Int → Bool} {n : Nat} {y : List Int} {a : Int} {l : List Int} {i : Nat} {m : Nat} (hs : starts D n y = a :: l) (hf : free D y a = some i) (hm : y.length = m + 1) : firstN D n y.length y = a :: firstN D n (y.eraseIdx i).length (y.eraseIdx i) := by
  obtain ⟨hl, _⟩ := free_lt hf
  rw [hm]
  unfold firstN
  rw [hs]
  simp only [rem, hf]
  congr 1
  have : (y.eraseIdx i).length = m := by rw [List.length_eraseIdx, if_pos hl]; omega
  rw [this]
  cases m <;> rfl

end Go.Lin.Wv
namespace Go.Proofs.Ytddnpooffcjhnaa
open Go.RowKit Go.Lin Go.Lin.Wv

theorem reads_re {S S' : Nat → Obj → Prop} {w : World} {v : Value} {n : Nat} {f : Nat → Value} (h : Reads S w v n f) (hS : ∀ k o, w.heap[k]? = some o → S k o → S' k o) : Reads S' w v n f := by
  obtain ⟨a, cap, hv, hm, hc⟩ := h
  exact ⟨a, cap, hv, hm, fun i hi => let ⟨b, off, o, h1, h2, h3, h4⟩ := hc i hi; ⟨b, off, o, h1, h2, hS _ _ h2 h3, h4⟩⟩

/-- A list with room, off some blocks. -/
def WdOff (S : Nat → Obj → Prop) (w : World) (v : Value) (xs : List Int) : Prop := (∃ a cap, v = .slice a xs.length cap ∧ xs.length ≤ cap) ∧ IsInts S w v xs

theorem WdOff.wd {S : Nat → Obj → Prop} {w : World} {v : Value} {xs : List Int} (h : WdOff S w v xs) : IsWd w v xs := let ⟨⟨a, c, h1, h2⟩, h3⟩ := h; ⟨a, c, h1, h2, Reads.any h3⟩
theorem WdOff.grew {S : Nat → Obj → Prop} {w w' : World} {v : Value} {xs : List Int} (h : WdOff S w v xs) (hg : Grew w w') : WdOff S w' v xs := ⟨h.1, Reads.grew h.2 hg⟩
theorem WdOff.keeps {S may : Nat → Obj → Prop} {w w' : World} {v : Value} {xs : List Int} (h : WdOff S w v xs) (hk : Keeps may w w') (hS : ∀ k o, S k o → ¬ may k o) : WdOff S w' v xs := ⟨h.1, Reads.keeps h.2 hk hS⟩
theorem WdOff.re {S S' : Nat → Obj → Prop} {w : World} {v : Value} {xs : List Int} (h : WdOff S w v xs) (hS : ∀ k o, w.heap[k]? = some o → S k o → S' k o) : WdOff S' w v xs := ⟨h.1, reads_re h.2 hS⟩
theorem IsWd.off {w : World} {v : Value} {xs : List Int} (h : IsWd w v xs) : WdOff Any w v xs := let ⟨a, c, h1, h2, h3⟩ := h; ⟨⟨a, c, h1, h2⟩, h3⟩
theorem WdOff.of_seg {w : World} {base : Nat} {v : Value} {n : Nat} {xs : List Int} (h : Seg w base 3 1 v n (xs.map (.int .i64))) : WdOff (fun k _ => base ≤ k) w v xs := by
  obtain ⟨a, c, h1, h2, _⟩ := IsWd.of_seg h
  exact ⟨⟨a, c, h1, h2⟩, Reads.mono h.isInts (fun _ _ h => h.1)⟩

set_option maxHeartbeats 8000000 in
theorem rFirst_any (v : Value) (L : Lt) (wv : Value) (x : List Int) (N : Nat) (w : World) (hN : L.n = (N : Int)) (hN6 : N ≤ 6) (hw : ∀ z ∈ x, 0 ≤ z ∧ z < (N : Int)) (hlen : x.length ≤ 1000) (hv : IsLt w v L) (hx : IsWd w wv x) :
    Calls Try.prog 69 #[v, wv] w fun e w' => ∃ u, e = .returned u ∧ Seg w' w.heap.size 3 1 u x.length ((first (dep L) N x).map (.int .i64)) ∧ Grew w w' := by
  have HST := hid (fun (lv : Value) (y : List Int) (W : World) (hy : Grew w W) (hr : IsInts Any W lv y) => rStarts_any v L lv y N W hN hN6 (hv.grew hy) hr)
  have HFR := hid (fun (lv : Value) (y : List Int) (a : Int) (W : World) (hy : Grew w W) (hr : IsInts Any W lv y) => free_any v L lv y a W (hv.grew hy) hr)
  obtain ⟨s, rfl, hps⟩ := hv
  rw [hN] at HST HFR ⊢
  obtain ⟨W0, hW0, g0, k0, k1, hz⟩ := box2 w (.int .i64 (N : Int)) s 24
  obtain ⟨m, hmm⟩ : ∃ m, x.length = m := ⟨_, rfl⟩
  obtain ⟨F, hF⟩ : ∃ F, first (dep L) N x = F := ⟨_, rfl⟩
  rw [hF]
  rw [hmm] at hlen ⊢
  have HX := hid ((hx.off.re (S' := fun k _ => (Value.slice none 0 0).ownBlock ≠ some k) (fun k o _ _ e => by simp [Value.ownBlock] at e)).grew g0)
  have HFX := hid (show F = [] ++ firstN (dep L) N x.length x from by rw [← hF]; rfl)
  have HW := hid hw
  have hg := g0
  clear hF hps hx hw
  go_enter Try.func69, Try.ntmps69
  go_wp2
  go_loopg [5, 6, 7] m (fun k out lv _ wr => ∃ (y : List Int) (c : Nat), k = y.length ∧ c + y.length = m ∧ Hid (∀ z ∈ y, 0 ≤ z ∧ z < (N : Int)) ∧ Hid (∃ pre, F = pre ++ firstN (dep L) N y.length y ∧ c = pre.length ∧ Seg wr W0.heap.size 3 1 out c (pre.map (.int .i64))) ∧ Hid (WdOff (fun k _ => out.ownBlock ≠ some k) wr lv y) ∧ Hid (Grew W0 wr))
  case atStart => exact ⟨x, 0, hmm.symm, by omega, HW, hid ⟨[], HFX.out, rfl, Seg.nil _ _ _ _⟩, HX, hid (grew_refl _)⟩
  case round =>
    obtain ⟨y, c, hk, hcy, HWY, HPRE, HLV, HG⟩ := hrel
    have HK := hid hk; clear hk
    rename World => wr
    obtain ⟨⟨la, lc, hlv, hlc⟩, -⟩ := HLV.out
    obtain ⟨n, hn⟩ : ∃ n, y.length = n := ⟨_, rfl⟩
    rw [hn] at hcy hlv
    subst hlv
    have HN := hid hn
    clear hlc
    by_cases hn0 : 0 < n
    · have hg := grew_trans g0 HG.out
      have kw0 := (HG.out.cell (p := ⟨w.heap.size, 0, none⟩) hz).trans k0
      have kw1 := (HG.out.cell (p := ⟨w.heap.size, 1, none⟩) hz).trans k1
      have hzw := Nat.lt_of_lt_of_le hz HG.out.size
      have hwr := HG.out.size
      have hne : y ≠ [] := by intro e; rw [e] at hn; simp at hn; omega
      have hst := starts_ne (D := dep L) HWY.out hne
      obtain ⟨a, l, hal⟩ := List.exists_cons_of_ne_nil hst
      have hfs := (mem_starts.1 (show a ∈ starts (dep L) N y by rw [hal]; simp)).2
      obtain ⟨i, hi⟩ := Option.isSome_iff_exists.1 hfs
      obtain ⟨hil, -⟩ := free_lt hi
      have hfc := firstN_cons (m := n - 1) hal hi (by omega)
      have hS := HST.out _ y wr hg HLV.out.wd.ints
      rw [hal] at hS
      obtain ⟨M, hM⟩ : ∃ M, (a :: l).length = M := ⟨_, rfl⟩
      have hM0 : 0 < M := by rw [← hM]; simp
      rw [hM] at hS
      have hce : ((a :: l).map (Value.int .i64))[0]? = some (.int .i64 a) := rfl
      obtain ⟨ms, hms⟩ : ∃ ms, (a :: l).map (Value.int .i64) = ms := ⟨_, rfl⟩
      rw [hms] at hS hce
      have HCE := hid hce
      have HS := hid hS
      have HFC := hid hfc
      have HI := hid hi
      have HIL := hid hil
      have hin : i < n := by omega
      have hel : (y.eraseIdx i).length = n - 1 := by rw [List.length_eraseIdx, if_pos hil]; omega
      have HEL := hid hel
      obtain ⟨pre, hp1, hp2, hp3⟩ := HPRE.out
      have HP1 := hid hp1
      have HP2 := hid hp2
      obtain ⟨vs, hvs⟩ : ∃ vs, pre.map (Value.int .i64) = vs := ⟨_, rfl⟩
      rw [hvs] at hp3
      have HP3 := hid hp3
      have HVS := hid hvs
      clear hS hst hal hfs hi hil hfc hM hne hn hce hms hel hp1 hp2 hp3 hvs
      go_wp2_with (first
        | (go_at_call 94; (with_reducible refine HS.out.mono ?_); go_loud (
            rintro e w1 ⟨u, rfl, hsg, hx1⟩
            obtain ⟨g, off, cap, cur, rfl, -, hgo, hcell⟩ := hsg.cell 0 (by omega)
            have hcell0 : w1.cell? ⟨g, off, none⟩ = some (.int .i64 a) := by have := hcell.trans HCE.out; simpa using this
            have hgl := lt_of_obj hgo
            have HX1 := hid hx1
            have hw1 := hx1.size
            have hseg := HP3.out.grew hx1
            clear hsg hx1 hcell hgo))
        | (at_builtin; refine wpList_append_one rfl _ _ 25 rfl W0.heap.size 3 Try.underlying25 Try.info3 rfl (by decide) _ c _ rfl (hseg.alloc _) _ _ _ rfl (one_new _ _ _) rfl (by omega) ?_ ?_; (simp only [World.size_alloc]; omega); go_loud (
            intro v9 w9 hown9 hgrow9 hblk9
            have hk9 := ((Keeps.refl (fun k _ => u5.ownBlock = some k) w1).alloc (.cells #[.int .i64 a] 3)).trans (keeps_of_grown hgrow9)
            have hb9 : Below W0.heap.size w1 w9 := hk9.below (by omega) (fun k o e => (hseg.own k e).1)
            have HG9 := hid (show Grew W0 w9 from (grew_trans HG.out HX1.out).trans hb9)
            have HL9 := hid (((HLV.out.grew HX1.out).re (S' := fun k _ => v9.ownBlock ≠ some k ∧ u5.ownBlock ≠ some k) (fun k o ho h => ⟨fun e => by
              rcases hblk9 with h9 | h9
              · exact h (h9 ▸ e)
              · rw [h9] at e; simp at e; have := lt_of_obj ho; omega, h⟩)).keeps hk9 (fun k o h e => h.2 e))
            have HOWN9 := hid hown9
            have hF9 := HFR.out _ y a w9 (grew_trans g0 HG9.out) HL9.out.wd.ints
            rw [HI.out, show ix (some i) = (i : Int) from rfl] at hF9
            have HF9 := hid hF9
            have kv0 := (HG9.out.cell (p := ⟨w.heap.size, 0, none⟩) hz).trans k0
            have kv1 := (HG9.out.cell (p := ⟨w.heap.size, 1, none⟩) hz).trans k1
            have hzv := Nat.lt_of_lt_of_le hz HG9.out.size
            clear hown9 hgrow9 hblk9 hk9 hb9 hseg hF9))
        | (go_at_call 98; (with_reducible refine HF9.out.mono ?_); rintro e w10 ⟨rfl, hx10⟩; have HX10 := hid hx10; clear hx10)
        | (go_at_call 97; (with_reducible refine (rWithout_any _ y i _ (by rw [HN.out]; exact hin) (by rw [HN.out]; omega) (HL9.out.grew HX10.out).wd).mono ?_); rintro e w11 ⟨v11, rfl, hs11, hx11⟩; have HS11 := hid hs11; have HX11 := hid hx11; clear hs11 hx11))
      go_roundg ((y.eraseIdx i).length)
      case measure => rw [HEL.out, HK.out, HN.out]; omega
      case rel =>
        refine ⟨y.eraseIdx i, c + 1, rfl, by rw [HEL.out]; omega, hid (fun z hz => HWY.out z (List.mem_of_mem_eraseIdx hz)), hid ⟨pre ++ [a], by rw [HP1.out, HFC.out]; simp, by rw [HP2.out]; simp, ?_⟩, hid ?_, hid (grew_trans HG9.out (grew_trans HX10.out HX11.out))⟩
        · rw [List.map_append, HVS.out]
          exact HOWN9.out.grew (grew_trans HX10.out HX11.out)
        · exact (WdOff.of_seg HS11.out).re (fun k o _ hk e => by have h1 := (HOWN9.out.own k e).2.1; have h2 := HX10.out.size; omega)
    · obtain rfl : n = 0 := by omega
      have hy0 : y = [] := List.length_eq_zero_iff.1 hn
      subst hy0
      have hgw := grew_trans g0 HG.out
      obtain ⟨pre, hp1, hp2, hp3⟩ := HPRE.out
      have hcm : c = m := by omega
      have hpF : F = pre := by rw [hp1]; simp [firstN]
      have HS := hid (show Seg wr w.heap.size 3 1 u5 m (F.map (.int .i64)) by rw [hpF, ← hcm]; exact hp3.mono g0.size)
      clear hp1 hp2 hp3 hcm hpF hn
      go_wp2
      go_ret
      exact ⟨_, rfl, HS.out, hgw⟩

end Go.Proofs.Ytddnpooffcjhnaa
namespace Go.Lin

theorem take_eq_succ {l m : List Int} {j : Nat} (h : l.take j = m.take j) (hj : j < l.length) (hjm : j < m.length) (he : nth l j = nth m j) : l.take (j + 1) = m.take (j + 1) := by
  rw [take_succ_nth hj, take_succ_nth hjm, h, he]

namespace Wv

theorem rest_drop {D : Int → Int → Bool} {p y : List Int} {a : Int} {j : Nat} (h : p[j]? = some a) : rest D (p.drop j) y = match free D y a with | none => none | some i => rest D (p.drop (j + 1)) (y.eraseIdx i) := by
  have : p.drop j = a :: p.drop (j + 1) := by
    obtain ⟨h1, h2⟩ := List.getElem?_eq_some_iff.1 h
    rw [← h2]
    exact List.drop_eq_getElem_cons h1
  rw [this]
  rfl

end Wv
end Go.Lin
namespace Go.Proofs.Ytddnpooffcjhnaa
open Go.RowKit Go.Lin Go.Lin.Wv

set_option maxHeartbeats 2000000 in
theorem sameInts_any (v v' : Value) (l m : List Int) (w : World) (hv : IsInts Any w v l) (hv' : IsInts Any w v' m) :
    Calls Try.prog 23 #[v, v'] w fun e w' => e = .returned (.bool (l == m)) ∧ Grew w w' := by
  obtain ⟨a, cap, rfl, hm, hc⟩ := hv
  obtain ⟨a', cap', rfl, hm', hc'⟩ := hv'
  have HC := hid hc; clear hc
  have HC' := hid hc'; clear hc'
  obtain ⟨r, hr⟩ : ∃ r, (l == m) = r := ⟨_, rfl⟩
  rw [hr]
  have HR := hid hr; clear hr
  obtain ⟨n, hn⟩ : ∃ n, l.length = n := ⟨_, rfl⟩
  obtain ⟨n', hn'⟩ : ∃ n, m.length = n := ⟨_, rfl⟩
  rw [hn] at hm HC ⊢
  rw [hn'] at hm' HC' ⊢
  have HN := hid hn
  have HN' := hid hn'
  by_cases hne : n = n'
  · subst hne
    clear hn hn'
    have hg := grew_refl w
    go_enter Try.func23, Try.ntmps23
    go_wp2
    go_loopg [5, 13] n (fun k _ i wr => ∃ j : Nat, j ≤ n ∧ i = .int .i64 j ∧ k = n - j ∧ Hid (l.take j = m.take j) ∧ Grew w wr)
    case atStart => exact ⟨0, by omega, rfl, rfl, hid (by simp), hg⟩
    case round =>
      clear hg
      obtain ⟨j, hj, rfl, hk, HT, hg⟩ := hrel
      have HK := hid hk; clear hk
      by_cases hlt : j < n
      · obtain ⟨b1, off1, o1, rfl, hb1, _, hcj1⟩ := HC.out j hlt
        obtain ⟨b2, off2, o2, rfl, hb2, _, hcj2⟩ := HC'.out j hlt
        have hbl1 := lt_of_obj hb1
        have hbl2 := lt_of_obj hb2
        have d1 := (hg.cell (p := ⟨b1, off1 + j, none⟩) hbl1).trans hcj1
        have d2 := (hg.cell (p := ⟨b2, off2 + j, none⟩) hbl2).trans hcj2
        clear hb1 hb2 hcj1 hcj2
        by_cases he : nth l j = nth m j
        · have hd : (nth l j != nth m j) = false := by simp [he]
          have HE := hid he; clear he
          go_wp2
          go_quiet (fail)
          go_wp2
          go_roundg (n - (j + 1))
          case measure => have := HK.out; omega
          case rel => exact ⟨j + 1, by omega, by go_num, rfl, hid (take_eq_succ HT.out (by rw [HN.out]; exact hlt) (by rw [HN'.out]; exact hlt) HE.out), grew_drewN hg _⟩
        · have hd : (nth l j != nth m j) = true := by simpa using he
          have HE := hid he; clear he
          go_wp2
          go_quiet (fail)
          go_wp2
          go_ret
          refine ⟨ret_bool (Eq.trans ?_ HR.out), grew_drewN hg _⟩
          symm
          rw [beq_eq_false_iff_ne]
          rintro rfl
          exact HE.out rfl
      · obtain rfl : j = n := by omega
        go_wp2
        go_ret
        refine ⟨ret_bool (Eq.trans ?_ HR.out), hg⟩
        have h1 := HT.out
        rw [List.take_of_length_le (by rw [HN.out]; omega), List.take_of_length_le (by rw [HN'.out]; omega)] at h1
        rw [h1]; simp
  · have hd : ((n : Int) != (n' : Int)) = true := by simp; omega
    have HNE := hid hne
    clear hne hn hn'
    go_enter Try.func23, Try.ntmps23
    go_wp2
    go_ret
    refine ⟨ret_bool (Eq.trans ?_ HR.out), grew_refl _⟩
    symm
    rw [beq_eq_false_iff_ne]
    rintro rfl
    exact HNE.out (HN.out.symm.trans HN'.out)

set_option maxHeartbeats 8000000 in
set_option maxRecDepth 20000 in
theorem rRest_any (v : Value) (L : Lt) (uv wv : Value) (p x : List Int) (w : World) (hlen : x.length ≤ 1000) (hv : IsLt w v L) (hp : IsInts Any w uv p) (hx : IsWd w wv x) :
    Calls Try.prog 77 #[v, uv, wv] w fun e w' => (∃ y, rest (dep L) p x = some y ∧ ∃ u, e = .returned (.tuple #[u, .bool true]) ∧ Seg w' w.heap.size 3 1 u y.length (y.map (.int .i64)) ∧ Grew w w') ∨ (rest (dep L) p x = none ∧ e = .returned (.tuple #[.slice none 0 0, .bool false]) ∧ Grew w w') := by
  have HFR := hid (fun (lv : Value) (y : List Int) (a : Int) (W : World) (hy : Grew w W) (hr : IsInts Any W lv y) => free_any v L lv y a W (hv.grew hy) hr)
  obtain ⟨s, rfl, hps⟩ := hv
  obtain ⟨W0, hW0, g0, k0, k1, hz⟩ := box2 w (.int .i64 L.n) s 24
  have hg := g0
  obtain ⟨i0, hi0, hi1, hi2, hi3⟩ := info_parts Try.info3
  obtain ⟨pa, pc, rfl, hpm, hpcell⟩ := hp
  obtain ⟨m, hmm⟩ : ∃ m, p.length = m := ⟨_, rfl⟩
  rw [hmm] at hpm hpcell ⊢
  have HM := hid hmm
  have HPC := hid hpcell
  have HSRC := hid (src_ints (Reads.grew hx.ints (grew_alloc g0 (.cells #[] 3))))
  have hseg0 : Seg (W0.alloc (.cells #[] 3)) W0.heap.size 3 1 (.slice (some ⟨W0.heap.size, 0, none⟩) 0 0) 0 [] :=
    ⟨by simp, .inr ⟨W0.heap.size, 0, 0, #[], rfl, Nat.le_refl _, heap_alloc_new W0 _, Nat.le_refl _, by unfold maxLen; omega, by simp, by simp⟩⟩
  have HSEG0 := hid hseg0
  obtain ⟨R, hR⟩ : ∃ R, rest (dep L) p x = R := ⟨_, rfl⟩
  have HR0 := hid (show R = rest (dep L) (p.drop 0) x from hR ▸ rfl)
  rw [hR]
  obtain ⟨n, hn⟩ : ∃ n, x.length = n := ⟨_, rfl⟩
  rw [hn] at HSRC hlen
  have HN := hid hn
  clear hseg0 hR hmm hpcell hps hn hx
  go_enter Try.func77, Try.ntmps77
  go_wp2_with (at_builtin; refine wpList_append_seg rfl _ _ 25 25 rfl W0.heap.size 3 i0 (.int .i64 0) 1 8 Try.underlying25 hi0 hi1 hi2 hi3 rfl _ 0 [] rfl HSEG0.out _ rfl n _ HSRC.out (by unfold maxLen; omega) (by omega) ?_ ?_; (simp only [World.size_alloc]; omega); go_loud (
    intro v1 w1 hown1 hgrow1 hblk1
    rw [Nat.zero_add, List.nil_append] at hown1
    have hg1 : Grew W0 w1 := ((grew_refl W0).alloc (Nat.le_refl _) _).grown hgrow1 (by simp) (fun k e => by cases e; exact Nat.le_refl _)
    have HG1 := hid hg1
    have HOWN1 := hid (show Seg w1 W0.heap.size 3 1 v1 x.length (x.map (.int .i64)) by rw [HN.out]; exact hown1)
    clear hown1 hgrow1 hblk1 hg1))
  go_loopg [8, 10, 11, 17] m (fun k lv _ _ i wr => ∃ (j : Nat) (y : List Int), j ≤ m ∧ i = .int .i64 j ∧ k = m - j ∧ y.length ≤ 1000 ∧ Hid (R = rest (dep L) (p.drop j) y) ∧ Hid (Seg wr W0.heap.size 3 1 lv y.length (y.map (.int .i64))) ∧ Hid (Grew W0 wr))
  case atStart => exact ⟨0, x, by omega, rfl, rfl, by rw [HN.out]; omega, HR0, HOWN1, HG1⟩
  case round =>
    obtain ⟨j, y, hj, rfl, hk, hy1, HR, HSG, HG⟩ := hrel
    have HK := hid hk; clear hk
    rename World => wr
    by_cases hlt : j < m
    · obtain ⟨b, off, o, hva, hob, -, hcc⟩ := HPC.out j hlt
      subst hva
      have hbl := lt_of_obj hob
      have hpj : p[j]? = some (nth p j) := by rw [nth_lt (by rw [HM.out]; exact hlt)]; exact List.getElem?_eq_getElem _
      replace hcc : _ = some (Value.int .i64 (nth p j)) := hcc
      have hrd := rest_drop (D := dep L) (y := y) hpj
      obtain ⟨a, ha⟩ : ∃ a, nth p j = a := ⟨_, rfl⟩
      rw [ha] at hcc hrd
      rw [← HR.out] at hrd
      have hg := grew_trans g0 HG.out
      have hcw := (hg.cell (p := ⟨b, off + j, none⟩) hbl).trans hcc
      have hbw := Nat.lt_of_lt_of_le hbl hg.size
      have kw0 := (HG.out.cell (p := ⟨w.heap.size, 0, none⟩) hz).trans k0
      have kw1 := (HG.out.cell (p := ⟨w.heap.size, 1, none⟩) hz).trans k1
      have hzw := Nat.lt_of_lt_of_le hz HG.out.size
      have hF := HFR.out _ y a wr hg (isInts_any HSG.out)
      cases hq : free (dep L) y a with
      | none =>
        rw [hq] at hF hrd
        rw [show ix none = -1 from rfl] at hF
        have HF := hid hF
        have HRD := hid hrd
        clear hF hrd hq hob hpj hcc ha
        go_wp2_with (go_at_call 98; (with_reducible refine HF.out.mono ?_); rintro e w2 ⟨rfl, hx2⟩; have HX2 := hid hx2; clear hx2)
        go_ret2
        exact .inr ⟨HRD.out, rfl, grew_trans hg HX2.out⟩
      | some i =>
        obtain ⟨hil, -⟩ := free_lt hq
        rw [hq] at hF hrd
        rw [show ix (some i) = (i : Int) from rfl] at hF
        have HF := hid hF
        have HRD := hid hrd
        have hel : (y.eraseIdx i).length ≤ 1000 := by rw [List.length_eraseIdx, if_pos hil]; omega
        have HEL := hid hel
        have HIL := hid hil
        have HY1 := hid hy1
        clear hF hrd hq hob hpj hcc ha hil hel hy1
        go_wp2_with (first
          | (go_at_call 98; (with_reducible refine HF.out.mono ?_); rintro e w2 ⟨rfl, hx2⟩; have HX2 := hid hx2; clear hx2)
          | (go_at_call 97; (with_reducible refine (rWithout_any _ y i _ HIL.out (Nat.le_trans HY1.out (by omega)) (IsWd.of_seg (HSG.out.grew HX2.out))).mono ?_); rintro e w3 ⟨v3, rfl, hs3, hx3⟩; have HS3 := hid hs3; have HX3 := hid hx3; clear hs3 hx3))
        go_roundg (m - (j + 1))
        case measure => have := HK.out; omega
        case rel => exact ⟨j + 1, y.eraseIdx i, by omega, by go_num, rfl, HEL.out, HRD, hid (HS3.out.mono (by have h1 := HG.out.size; have h2 := HX2.out.size; omega)), hid (grew_trans HG.out (grew_trans HX2.out HX3.out))⟩
    · obtain rfl : m = j := by omega
      have hre : R = some y := by rw [HR.out, List.drop_of_length_le (by rw [HM.out]; exact Nat.le_refl _)]; rfl
      have HRE := hid hre
      have hgw := grew_trans g0 HG.out
      clear hre
      go_wp2
      go_ret2
      exact .inl ⟨y, HRE.out, _, rfl, HSG.out.mono g0.size, hgw⟩

end Go.Proofs.Ytddnpooffcjhnaa
