/- Letters in memory; walks: between, the reference's IsLetter, IsWord, depend, free. Walks: the reference's depend, free. Walks of the reference: IsWord, starts. The append steps of a drawn region. Of no program. Walks: without, of the reference. Walk: the reference's FirstForm. Walks of the reference: SameInts, rest. The program's loom in memory; walks: letter, start. Walks: slices.Clone. Walk: slices.Grow of a nil slice. Walk: slices.Concat. Walk: without, of the program. Walk: the closure of newLoom that asks whether a number is no letter. Walks: slices.IndexFunc and ContainsFunc at ints with a pure function. The key types of this program's maps: pairs of ints, words as arrays. Walk: the program's Valid. Walk: newLoom. Walk: newLoom. -/
import Derived.Test.YtmohnddglmolgaaGreatDoorWvM
import Derived.Test.YtmohnddglmolgaaGreatDoorChecked
import Derived.Test.YtmohnddglmolgaaGreatDoorAppend
import Derived.Deep.RegionLaw
import Derived.Lib.AppendZerosOnto
import Derived.Test.YtmohnddglmolgaaGreatDoorMaps
import Derived.DeepKeys4
import Derived.Laws.Rows
import Derived.Deep.RegionHeld3
namespace Go.Proofs.YtmohnddglmolgaaGreatDoor.Kw
open Go.RowKit Go.Lin Go.Lin.Wv

theorem Tryz.info3 : (Tryz.prog.info? 3).map (fun i => (i.zero, i.size, i.bytes)) = some (some (.int .i64 0), 1, 8) := by kernel_rfl
theorem Tryz.info39 : (Tryz.prog.info? 39).map (fun i => (i.zero, i.size, i.bytes)) = some (some (.slice none 0 0), 1, 24) := by kernel_rfl

/-- A pair lies there. -/
structure PairAt (w : World) (b o : Nat) (x : Int × Int) : Prop where
  lt : b < w.heap.size
  c0 : w.cell? ⟨b, o, none⟩ = some (.int .i64 x.1)
  c1 : w.cell? ⟨b, o + 1, none⟩ = some (.int .i64 x.2)

theorem PairAt.grew {B : Nat} {w w' : World} {b o : Nat} {x : Int × Int} (h : PairAt w b o x) (hb : b < B) (hg : Below B w w') : PairAt w' b o x :=
  ⟨Nat.lt_of_lt_of_le h.lt hg.size, (hg.cell (p := ⟨b, o, none⟩) hb).trans h.c0, (hg.cell (p := ⟨b, o + 1, none⟩) hb).trans h.c1⟩

/-- A slice of pairs. -/
def IsPairs (w : World) (v : Value) (l : List (Int × Int)) : Prop :=
  ∃ (a : Option Addr) (cap : Nat), v = .slice a l.length cap ∧ (l.length ≤ 9223372036854775807 ∧ l.length ≤ cap) ∧ ∀ i x, l[i]? = some x → ∃ b off, a = some ⟨b, off, none⟩ ∧ PairAt w b (off + i * 2) x

theorem IsPairs.grew {w w' : World} {v : Value} {l : List (Int × Int)} (h : IsPairs w v l) (hg : Grew w w') : IsPairs w' v l := by
  obtain ⟨a, cap, h1, h2, h3⟩ := h
  refine ⟨a, cap, h1, h2, fun i x hx => ?_⟩
  obtain ⟨b, off, h4, h5⟩ := h3 i x hx
  exact ⟨b, off, h4, h5.grew h5.lt hg⟩

/-- Letters as a value. -/
def IsLt (w : World) (v : Value) (L : Lt) : Prop := ∃ s, v = .agg #[.int .i64 L.n, s] ∧ IsPairs w s L.ps

theorem IsLt.grew {w w' : World} {v : Value} {L : Lt} (h : IsLt w v L) (hg : Grew w w') : IsLt w' v L := let ⟨s, h1, h2⟩ := h; ⟨s, h1, h2.grew hg⟩

theorem IsLt.small {w : World} {v : Value} {L : Lt} (h : IsLt w v L) : L.ps.length ≤ 9223372036854775807 := let ⟨_, _, _, _, _, h, _⟩ := h; h.1

/-- between. -/
theorem between_any (l n h : Int) (w : World) : Calls Tryz.prog 177 #[.int .i64 l, .int .i64 n, .int .i64 h] w fun e w' => e = .returned (.bool (decide (l ≤ n) && decide (n ≤ h))) ∧ Grew w w' := by
  obtain ⟨p, hp⟩ : ∃ p, decide (l ≤ n) = p := ⟨_, rfl⟩
  obtain ⟨q, hq⟩ : ∃ q, decide (n ≤ h) = q := ⟨_, rfl⟩
  rw [hp, hq]
  have hg := grew_refl w
  cases p <;> cases q
  all_goals (
    go_enter Tryz.func177, Tryz.ntmps177
    go_wp2
    go_ret
    exact ⟨rfl, hg⟩)

set_option maxHeartbeats 1000000 in
theorem isL_any (v : Value) (L : Lt) (a : Int) (w : World) (hv : IsLt w v L) : Calls Tryz.prog 176 #[v, .int .i64 a] w fun e w' => e = .returned (.bool (isL L a)) ∧ Grew w w' := by
  obtain ⟨s, rfl, -⟩ := hv
  obtain ⟨n, ps⟩ := L
  simp only
  obtain ⟨W0, hW0, g0, k0, k1, hz⟩ := box2 w (.int .i64 n) s 173
  have hg := g0
  have he : isL ⟨n, ps⟩ a = (decide (0 ≤ a) && decide (a < n)) := by unfold isL; simp only; congr 1; rw [decide_eq_decide]; omega
  rw [he]
  obtain ⟨p, hp⟩ : ∃ p, decide (0 ≤ a) = p := ⟨_, rfl⟩
  obtain ⟨q, hq⟩ : ∃ q, decide (a < n) = q := ⟨_, rfl⟩
  rw [hp, hq]
  clear he
  cases p <;> cases q
  all_goals (
    go_enter Tryz.func176, Tryz.ntmps176
    go_wp2
    go_ret
    exact ⟨rfl, hg⟩)

end Go.Proofs.YtmohnddglmolgaaGreatDoor.Kw
namespace Go.Lin.Wv

/-- What depends by the first j pairs. -/
def depTo (L : Lt) (a b : Int) (j : Nat) : Bool := a == b || (L.ps.take j).any (hits a b)

theorem depTo_succ {L : Lt} {a b : Int} {j : Nat} {x : Int × Int} (h : L.ps[j]? = some x) : depTo L a b (j + 1) = (depTo L a b j || (((x.1 == a) && (x.2 == b)) || ((x.1 == b) && (x.2 == a)))) := by
  unfold depTo
  rw [List.take_add_one, h]
  simp [hits, Bool.or_assoc]

theorem depTo_zero (L : Lt) (a b : Int) : depTo L a b 0 = (a == b) := by simp [depTo]
theorem depTo_all (L : Lt) (a b : Int) : depTo L a b L.ps.length = dep L a b := by unfold depTo dep; rw [List.take_length]

end Go.Lin.Wv
namespace Go.Proofs.YtmohnddglmolgaaGreatDoor.Kw
open Go.RowKit Go.Lin Go.Lin.Wv

set_option maxHeartbeats 4000000 in
theorem depend_any (v : Value) (L : Lt) (a b : Int) (w : World) (hv : IsLt w v L) : Calls Tryz.prog 151 #[v, .int .i64 a, .int .i64 b] w fun e w' => e = .returned (.bool (dep L a b)) ∧ Grew w w' := by
  obtain ⟨s, rfl, va, vc, rfl, hm, hdd⟩ := hv
  obtain ⟨m, hmm⟩ : ∃ m, L.ps.length = m := ⟨_, rfl⟩
  obtain ⟨W0, hW0, g0, k0, k1, hz⟩ := box2 w (.int .i64 L.n) (.slice va m vc) 173
  have hall := depTo_all L a b
  rw [hmm] at hm hall ⊢
  have HM := hid hmm
  have HDD := hid hdd
  have HALL := hid hall
  have hz0 := depTo_zero L a b
  obtain ⟨q, hq⟩ : ∃ q, (a == b) = q := ⟨_, rfl⟩
  rw [hq] at hz0
  have HZ0 := hid hz0
  have hg := g0
  clear hmm hdd hall hz0
  go_enter Tryz.func151, Tryz.ntmps151
  go_wp2
  go_loopg [7, 9, 16] m (fun k is _ i wr => ∃ (j : Nat) (p : Bool), j ≤ m ∧ i = .int .i64 j ∧ k = m - j ∧ is = .bool p ∧ Hid (depTo L a b j = p) ∧ Hid (Grew W0 wr))
  case atStart => exact ⟨0, q, by omega, rfl, rfl, rfl, HZ0, hid (grew_refl _)⟩
  case round =>
    obtain ⟨j, p, hj, rfl, hk, rfl, HP, HG⟩ := hrel
    have HK := hid hk; clear hk
    rename World => wr
    by_cases hlt : j < m
    · obtain ⟨x, hx⟩ : ∃ x, L.ps[j]? = some x := ⟨_, List.getElem?_eq_getElem (by rw [HM.out]; exact hlt)⟩
      obtain ⟨bb, off, rfl, hpa⟩ := HDD.out j x hx
      have hpa' := (hpa.grew hpa.lt g0)
      have hpa2 := (hpa'.grew hpa'.lt HG.out)
      have c0 := hpa2.c0
      have c1 := hpa2.c1
      have hlt2 := hpa2.lt
      have hsucc := depTo_succ (a := a) (b := b) hx
      rw [HP.out] at hsucc
      obtain ⟨x1, x2⟩ := x
      simp only at c0 c1 hsucc
      obtain ⟨p1, hp1⟩ : ∃ q, (x1 == a) = q := ⟨_, rfl⟩
      obtain ⟨p2, hp2⟩ : ∃ q, (x2 == b) = q := ⟨_, rfl⟩
      obtain ⟨p3, hp3⟩ : ∃ q, (x1 == b) = q := ⟨_, rfl⟩
      obtain ⟨p4, hp4⟩ : ∃ q, (x2 == a) = q := ⟨_, rfl⟩
      rw [hp1, hp2, hp3, hp4] at hsucc
      obtain ⟨r, hr⟩ : ∃ r, (p || (p1 && p2 || p3 && p4)) = r := ⟨_, rfl⟩
      rw [hr] at hsucc
      have HS := hid hsucc
      have hg := HG.out
      clear hsucc hx hpa hpa' hpa2
      cases p <;> cases p1 <;> cases p2 <;> cases p3 <;> cases p4
      all_goals (
        subst hr
        go_wp2
        go_roundg (m - (j + 1))
        case measure => have := HK.out; omega
        case rel => exact ⟨j + 1, _, by omega, by go_num, rfl, rfl, HS, hid (grew_alloc HG.out _)⟩)
    · obtain rfl : m = j := by omega
      have hpe := HP.out.symm.trans HALL.out
      have HPE := hid hpe
      clear hpe
      go_wp2
      go_ret
      exact ⟨by rw [HPE.out]; rfl, grew_trans g0 HG.out⟩

/-- What the program says for an index. -/
def ix : Option Nat → Int
  | none => -1
  | some i => i

theorem free_drop {D : Int → Int → Bool} {w : List Int} {a b : Int} {j : Nat} (h : w[j]? = some b) : free D (w.drop j) a = if b = a then some 0 else if D a b then none else (free D (w.drop (j + 1)) a).map (· + 1) := by
  have : w.drop j = b :: w.drop (j + 1) := by
    obtain ⟨h1, h2⟩ := List.getElem?_eq_some_iff.1 h
    rw [← h2]
    exact List.drop_eq_getElem_cons h1
  rw [this]
  rfl

end Go.Proofs.YtmohnddglmolgaaGreatDoor.Kw
namespace Go.Lin

theorem keeps_of_grown {w w' : World} {row : Option Nat} (h : w.grownBy w' row) : Keeps (fun k _ => row = some k) w w' :=
  (Keeps.refl _ w).grown h (fun _ _ e _ => e)

end Go.Lin
namespace Go.Lin.Wv

theorem starts_succ {D : Int → Int → Bool} {j : Nat} {x : List Int} : starts D (j + 1) x = if (free D x (j : Int)).isSome then starts D j x ++ [(j : Int)] else starts D j x := by
  unfold starts
  rw [List.range_succ, List.map_append, List.filter_append]
  cases h : (free D x (j : Int)).isSome <;> simp [h]

theorem starts_le (D : Int → Int → Bool) (j : Nat) (x : List Int) : (starts D j x).length ≤ j := by
  unfold starts
  refine Nat.le_trans (List.length_filter_le _ _) ?_
  simp

end Go.Lin.Wv
namespace Go.Proofs.YtmohnddglmolgaaGreatDoor.Kw
open Go.RowKit Go.Lin Go.Lin.Wv

theorem isInts_any {w : World} {base : Nat} {e : TypeId} {v : Value} {n : Nat} {xs : List Int} (h : Seg w base e 1 v n (xs.map (.int .i64))) : IsInts Any w v xs := Reads.any h.isInts

set_option maxHeartbeats 4000000 in
theorem isW_any (v : Value) (L : Lt) (wv : Value) (x : List Int) (w : World) (hv : IsLt w v L) (hx : IsInts Any w wv x) : Calls Tryz.prog 150 #[v, wv] w fun e w' => e = .returned (.bool (isW L x)) ∧ Grew w w' := by
  have HISL := hid (fun (b : Int) (y : World) (hy : Grew w y) => isL_any v L b y (hv.grew hy))
  obtain ⟨s, rfl, hps⟩ := hv
  obtain ⟨W0, hW0, g0, k0, k1, hz⟩ := box2 w (.int .i64 L.n) s 173
  obtain ⟨va, vc, rfl, hm, hc⟩ := hx
  obtain ⟨m, hmm⟩ : ∃ m, x.length = m := ⟨_, rfl⟩
  obtain ⟨r, hr⟩ : ∃ r, isW L x = r := ⟨_, rfl⟩
  rw [hr]
  rw [hmm] at hm hc ⊢
  have HM := hid hmm
  have HC := hid hc
  have HR := hid hr
  have hg := g0
  clear hmm hc hr hps
  go_enter Tryz.func150, Tryz.ntmps150
  go_wp2
  go_loopg [6, 9] m (fun k _ i wr => ∃ j : Nat, j ≤ m ∧ i = .int .i64 j ∧ k = m - j ∧ Hid ((x.take j).all (isL L) = true) ∧ Hid (Grew W0 wr))
  case atStart => exact ⟨0, by omega, rfl, rfl, hid rfl, hid (grew_refl _)⟩
  case round =>
    obtain ⟨j, hj, rfl, hk, HA, HG⟩ := hrel
    have HK := hid hk; clear hk
    rename World => wr
    by_cases hlt : j < m
    · obtain ⟨b, off, o, hva, hob, -, hcc⟩ := HC.out j hlt
      subst hva
      have hbl := lt_of_obj hob
      have hjx : j < x.length := by rw [HM.out]; exact hlt
      have htk := take_succ_nth hjx
      have hmem : nth x j ∈ x := by rw [nth_lt hjx]; exact List.getElem_mem _
      replace hcc : _ = some (Value.int .i64 (nth x j)) := hcc
      obtain ⟨y, hy⟩ : ∃ y, nth x j = y := ⟨_, rfl⟩
      rw [hy] at hcc htk hmem
      have hg := grew_trans g0 HG.out
      have hcw := (hg.cell (p := ⟨b, off + j, none⟩) hbl).trans hcc
      have hbw := Nat.lt_of_lt_of_le hbl hg.size
      have kw0 := (HG.out.cell (p := ⟨w.heap.size, 0, none⟩) hz).trans k0
      have kw1 := (HG.out.cell (p := ⟨w.heap.size, 1, none⟩) hz).trans k1
      have hzw := Nat.lt_of_lt_of_le hz HG.out.size
      have HI := hid (HISL.out y wr hg)
      have HTK := hid htk
      clear hob hcc hy htk
      cases hq : isL L y
      · have hrn : r = false := by
          rw [← HR.out]; unfold isW
          rw [show x.all (isL L) = false from List.all_eq_false.2 ⟨y, hmem, by rw [hq]; simp⟩, Bool.and_false]
        have HRN := hid hrn
        rw [hq] at HI
        clear hrn hq hmem
        go_wp2_with (go_at_call 176; with_reducible refine HI.out.mono ?_; rintro e w1 ⟨rfl, hx1⟩; have HX1 := hid hx1; clear hx1)
        go_ret
        exact ⟨by rw [HRN.out]; rfl, grew_trans hg HX1.out⟩
      · have HQ := hid hq
        rw [hq] at HI
        clear hq hmem
        go_wp2_with (go_at_call 176; with_reducible refine HI.out.mono ?_; rintro e w1 ⟨rfl, hx1⟩; have HX1 := hid hx1; clear hx1)
        go_roundg (m - (j + 1))
        case measure => have := HK.out; omega
        case rel => exact ⟨j + 1, by omega, by go_num, rfl, hid (by rw [HTK.out, List.all_append, HA.out]; simp [HQ.out]), hid (grew_trans HG.out HX1.out)⟩
    · obtain rfl : m = j := by omega
      have hrn : r = decide (m ≤ 10) := by
        rw [← HR.out]; unfold isW
        have := HA.out
        rw [List.take_of_length_le (by rw [HM.out]; exact Nat.le_refl _)] at this
        rw [this, Bool.and_true, HM.out]
      have HRN := hid hrn
      clear hrn
      go_wp2
      go_ret
      refine ⟨?_, grew_trans g0 HG.out⟩
      rw [HRN.out]
      exact ret_bool (by rw [decide_eq_decide]; omega)

end Go.Proofs.YtmohnddglmolgaaGreatDoor.Kw
namespace Go.Lin
open Go.RowKit

/-- A list. -/
theorem step_append_seg {P : Program} {w : World} {ops : Array Oper} {o : Oper} {a : Act} {K : Act → World → Prop} {Q : Exit → Act → World → Prop} {E : Prop} (hgd : o.guard = none) (s x : Operand) (t tx : TypeId)
    (ho : o.op = .call { callee := .builtin .append, args := #[s, x], argTypes := #[t, tx] })
    (base : Nat) (e : TypeId) (i : TypeInfo) (z : Value) (size bytes : Nat) (ht : P.underlying t = some (.slice e)) (hi : P.info? e = some i) (hz : i.zero = some z)
    (hsize : i.size = size) (hby : i.bytes = bytes) (hzs : z.cells.size = size)
    (v : Value) (n : Nat) (xs : List Value) (hs : a.eval s = v) (hown : Seg w base e size v n xs) (y : Value) (hy : a.eval x = y) (m : Nat) (news : List Value) (hsrc : Src P size tx y m news w)
    (h63 : n + m ≤ maxLen) (hbytes : (n + m) * bytes ≤ 140737488355328) (hbase : base ≤ w.heap.size)
    (h : ∀ v' w', Seg w' base e size v' (n + m) (xs ++ news) → w.grownBy w' v.ownBlock → (v'.ownBlock = v.ownBlock ∨ v'.ownBlock = some w.heap.size) → K (a.put o.dst v') w') :
    if Region.wanted o (yielded ops a.tmps) = true then Oper.wp P o a w K Q else E := by
  have hw : Region.wanted o (yielded ops a.tmps) = true := by simp [Region.wanted, hgd]
  rw [if_pos hw]
  exact wp_append_seg s x t tx ho base e i z size bytes ht hi hz hsize hby hzs v n xs hs hown y hy m news hsrc h63 hbytes hbase h

/-- One element. -/
theorem step_append_one {P : Program} {w : World} {ops : Array Oper} {o : Oper} {a : Act} {K : Act → World → Prop} {Q : Exit → Act → World → Prop} {E : Prop} (hgd : o.guard = none) (s x : Operand) (t : TypeId)
    (ho : o.op = .call { callee := .builtin .append, args := #[s, x], argTypes := #[t, t] })
    (base : Nat) (e : TypeId) {z : Value} {bytes : Nat} (ht : P.underlying t = some (.slice e)) (hinfo : (P.info? e).map (fun i => (i.zero, i.size, i.bytes)) = some (some z, 1, bytes)) (hzs : z.cells.size = 1) (hb : bytes ≤ 64)
    (v : Value) (n : Nat) (xs : List Value) (hs : a.eval s = v) (hown : Seg w base e 1 v n xs) (b c : Nat) (u : Value) (hx : a.eval x = .slice (some ⟨b, 0, none⟩) 1 c) (hc : w.cell? ⟨b, 0, none⟩ = some u) (h1 : u.oneCell' = true)
    (hn : n < 1000000000) (hbase : base ≤ w.heap.size)
    (h : ∀ v' w', Seg w' base e 1 v' (n + 1) (xs ++ [u]) → w.grownBy w' v.ownBlock → (v'.ownBlock = v.ownBlock ∨ v'.ownBlock = some w.heap.size) → K (a.put o.dst v') w') :
    if Region.wanted o (yielded ops a.tmps) = true then Oper.wp P o a w K Q else E := by
  have hw : Region.wanted o (yielded ops a.tmps) = true := by simp [Region.wanted, hgd]
  rw [if_pos hw]
  obtain ⟨i, hi, hz0, hz1, hz2⟩ := info_parts hinfo
  refine wp_append_seg s x t t ho base e i z 1 bytes ht hi hz0 hz1 hz2 hzs v n xs hs hown _ hx 1 [u] (Src.ofSlice _ ht ⟨b, 0, none⟩ 1 c [u] rfl ?_ (by simpa using h1)) (by unfold maxLen; omega) ?_ hbase h
  · intro j w' hj
    have : j = 0 := by
      rcases j with _ | j
      · rfl
      · simp at hj
    subst this
    simp at hj
    subst hj
    rw [Addr.add_lit]; exact hc
  · calc (n + 1) * bytes ≤ 1000000000 * 64 := Nat.mul_le_mul (by omega) hb
      _ ≤ 140737488355328 := by decide

end Go.Lin
namespace Go.Proofs.YtmohnddglmolgaaGreatDoor.Kw
open Go.RowKit Go.Lin Go.Lin.Wv

/-- A list of ints as what is appended. -/
theorem src_ints {w : World} {v : Value} {xs : List Int} (h : IsInts Any w v xs) : Src Tryz.prog 1 39 v xs.length (xs.map (.int .i64)) w := by
  obtain ⟨a, cap, rfl, hm, hc⟩ := h
  rcases a with _ | ad
  · have h0 : xs.length = 0 := by
      rcases Nat.eq_zero_or_pos xs.length with h | h
      · exact h
      · obtain ⟨_, _, _, h2, _⟩ := hc 0 h; cases h2
    have : xs = [] := List.length_eq_zero_iff.1 h0
    subst this
    exact Src.ofNil _ Tryz.underlying39 cap
  · refine Src.ofSlice _ Tryz.underlying39 ad _ cap _ (by simp) ?_ ?_
    · intro j u hj
      have hjn : j < xs.length := by have := (List.getElem?_eq_some_iff.1 hj).1; simpa using this
      simp only [List.getElem?_map, List.getElem?_eq_getElem hjn, Option.map_some, Option.some.injEq] at hj
      obtain ⟨b, off, o, h2, h3, _, h5⟩ := hc j hjn
      cases h2
      rw [Addr.add_lit, h5, ← hj]
      simp only [nth_lt hjn]
    · intro u hu
      obtain ⟨i, _, rfl⟩ := List.mem_map.1 hu
      rfl

/-- A part of a list. -/
theorem part_ints {w : World} {b off cap n : Nat} {xs : List Int} (h : Reads Any w (.slice (some ⟨b, off, none⟩) n cap) n (fun i => .int .i64 (nth xs i))) (hn : xs.length = n) (j k c : Nat) (hjk : j + k ≤ n) : IsInts Any w (.slice (some ⟨b, off + j, none⟩) ((xs.drop j).take k).length c) ((xs.drop j).take k) := by
  obtain ⟨a, cap', hv, hm, hc⟩ := h
  have hl : ((xs.drop j).take k).length = k := by simp; omega
  refine ⟨_, _, rfl, by omega, fun i hi => ?_⟩
  obtain ⟨b', off', o', h1, h2, h3, h4⟩ := hc (j + i) (by omega)
  simp only [Value.slice.injEq] at hv
  obtain ⟨rfl, -⟩ := hv
  cases h1
  refine ⟨b, off + j, o', rfl, h2, h3, ?_⟩
  rw [Nat.add_assoc, h4]
  simp only [nth_lt (show j + i < xs.length by omega), nth_lt hi]
  simp

/-- A list of ints whose room is no less than its length. -/
def IsWd (w : World) (v : Value) (xs : List Int) : Prop := ∃ a cap, v = .slice a xs.length cap ∧ xs.length ≤ cap ∧ IsInts Any w v xs

theorem IsWd.grew {w w' : World} {v : Value} {xs : List Int} (h : IsWd w v xs) (hg : Grew w w') : IsWd w' v xs := let ⟨a, c, h1, h2, h3⟩ := h; ⟨a, c, h1, h2, Reads.grew h3 hg⟩
theorem IsWd.ints {w : World} {v : Value} {xs : List Int} (h : IsWd w v xs) : IsInts Any w v xs := let ⟨_, _, _, _, h3⟩ := h; h3
theorem IsWd.of_seg {w : World} {base : Nat} {v : Value} {n : Nat} {xs : List Int} (h : Seg w base 3 1 v n (xs.map (.int .i64))) : IsWd w v xs := by
  have hl : n = xs.length := by have := h.1; simp at this; omega
  have hi := isInts_any h
  rcases h.2 with ⟨rfl, h0⟩ | ⟨g, off, cap, cur, rfl, _, _, hn, _⟩
  · exact ⟨none, 0, by rw [← hl, h0], by omega, hi⟩
  · exact ⟨_, cap, by rw [hl], by omega, hi⟩

end Go.Proofs.YtmohnddglmolgaaGreatDoor.Kw
namespace Go.Lin.Wv

theorem firstN_cons {D : Int → Int → Bool} {n : Nat} {y : List Int} {a : Int} {l : List Int} {i : Nat} {m : Nat} (hs : starts D n y = a :: l) (hf : free D y a = some i) (hm : y.length = m + 1) : firstN D n y.length y = a :: firstN D n (y.eraseIdx i).length (y.eraseIdx i) := by
  obtain ⟨hl, _⟩ := free_lt hf
  rw [hm]
  unfold firstN
  rw [hs]
  simp only [rem, hf]
  congr 1
  have : (y.eraseIdx i).length = m := by rw [List.length_eraseIdx, if_pos hl]; omega
  rw [this]
  cases m <;> rfl

end Go.Lin.Wv
namespace Go.Proofs.YtmohnddglmolgaaGreatDoor.Kw
open Go.RowKit Go.Lin Go.Lin.Wv

theorem reads_re {S S' : Nat → Obj → Prop} {w : World} {v : Value} {n : Nat} {f : Nat → Value} (h : Reads S w v n f) (hS : ∀ k o, w.heap[k]? = some o → S k o → S' k o) : Reads S' w v n f := by
  obtain ⟨a, cap, hv, hm, hc⟩ := h
  exact ⟨a, cap, hv, hm, fun i hi => let ⟨b, off, o, h1, h2, h3, h4⟩ := hc i hi; ⟨b, off, o, h1, h2, hS _ _ h2 h3, h4⟩⟩

/-- A list with room, off some blocks. -/
def WdOff (S : Nat → Obj → Prop) (w : World) (v : Value) (xs : List Int) : Prop := (∃ a cap, v = .slice a xs.length cap ∧ xs.length ≤ cap) ∧ IsInts S w v xs

theorem WdOff.wd {S : Nat → Obj → Prop} {w : World} {v : Value} {xs : List Int} (h : WdOff S w v xs) : IsWd w v xs := let ⟨⟨a, c, h1, h2⟩, h3⟩ := h; ⟨a, c, h1, h2, Reads.any h3⟩
theorem WdOff.grew {S : Nat → Obj → Prop} {w w' : World} {v : Value} {xs : List Int} (h : WdOff S w v xs) (hg : Grew w w') : WdOff S w' v xs := ⟨h.1, Reads.grew h.2 hg⟩
theorem WdOff.keeps {S may : Nat → Obj → Prop} {w w' : World} {v : Value} {xs : List Int} (h : WdOff S w v xs) (hk : Keeps may w w') (hS : ∀ k o, S k o → ¬ may k o) : WdOff S w' v xs := ⟨h.1, Reads.keeps h.2 hk hS⟩
theorem WdOff.re {S S' : Nat → Obj → Prop} {w : World} {v : Value} {xs : List Int} (h : WdOff S w v xs) (hS : ∀ k o, w.heap[k]? = some o → S k o → S' k o) : WdOff S' w v xs := ⟨h.1, reads_re h.2 hS⟩
theorem IsWd.off {w : World} {v : Value} {xs : List Int} (h : IsWd w v xs) : WdOff Any w v xs := let ⟨a, c, h1, h2, h3⟩ := h; ⟨⟨a, c, h1, h2⟩, h3⟩
theorem WdOff.of_seg {w : World} {base : Nat} {v : Value} {n : Nat} {xs : List Int} (h : Seg w base 3 1 v n (xs.map (.int .i64))) : WdOff (fun k _ => base ≤ k) w v xs := by
  obtain ⟨a, c, h1, h2, _⟩ := IsWd.of_seg h
  exact ⟨⟨a, c, h1, h2⟩, Reads.mono h.isInts (fun _ _ h => h.1)⟩

end Go.Proofs.YtmohnddglmolgaaGreatDoor.Kw
namespace Go.Lin

theorem take_eq_succ {l m : List Int} {j : Nat} (h : l.take j = m.take j) (hj : j < l.length) (hjm : j < m.length) (he : nth l j = nth m j) : l.take (j + 1) = m.take (j + 1) := by
  rw [take_succ_nth hj, take_succ_nth hjm, h, he]

namespace Wv

theorem rest_drop {D : Int → Int → Bool} {p y : List Int} {a : Int} {j : Nat} (h : p[j]? = some a) : rest D (p.drop j) y = match free D y a with | none => none | some i => rest D (p.drop (j + 1)) (y.eraseIdx i) := by
  have : p.drop j = a :: p.drop (j + 1) := by
    obtain ⟨h1, h2⟩ := List.getElem?_eq_some_iff.1 h
    rw [← h2]
    exact List.drop_eq_getElem_cons h1
  rw [this]
  rfl

end Wv
end Go.Lin
namespace Go.Proofs.YtmohnddglmolgaaGreatDoor.Kw
open Go.RowKit Go.Lin Go.Lin.Wv

end Go.Proofs.YtmohnddglmolgaaGreatDoor.Kw
namespace Go.Proofs.YtmohnddglmolgaaGreatDoor.Kw
open Go.RowKit Go.Lin Go.Lin.Wv

/-- A loom: how many letters there are, and which of them depend. -/
structure Loom (w : World) (B : Nat) (D : Int → Int → Bool) (N : Nat) : Prop where
  lt : B < w.heap.size
  c0 : w.cell? ⟨B, 0, none⟩ = some (.int .i64 (N : Int))
  cs : ∀ a b : Nat, a < N → b < N → w.cell? ⟨B, 1 + a * 6 + b, none⟩ = some (.bool (D a b))

theorem Loom.grew {w w' : World} {B : Nat} {D : Int → Int → Bool} {N : Nat} (h : Loom w B D N) (hg : Grew w w') : Loom w' B D N :=
  ⟨Nat.lt_of_lt_of_le h.lt hg.size, (hg.cell (p := ⟨B, 0, none⟩) h.lt).trans h.c0, fun a b ha hb => (hg.cell (p := ⟨B, 1 + a * 6 + b, none⟩) h.lt).trans (h.cs a b ha hb)⟩

set_option maxHeartbeats 1000000 in
theorem letter_any {D : Int → Int → Bool} (B N : Nat) (a : Int) (w : World) (hN : N ≤ 6) (hL : Loom w B D N) : Calls Tryz.prog 154 #[.pointer (some ⟨B, 0, none⟩), .int .i64 a] w fun e w' => e = .returned (.bool (decide (0 ≤ a) && decide (a ≤ (N : Int) - 1))) ∧ Grew w w' := by
  have k0 := hL.c0
  have hlt := hL.lt
  have HB := hid (between_any 0 a ((N : Int) - 1) w)
  obtain ⟨r, hr⟩ : ∃ r, (decide (0 ≤ a) && decide (a ≤ (N : Int) - 1)) = r := ⟨_, rfl⟩
  rw [hr] at HB ⊢
  have hwr : IntKind.i64.wrap ((N : Int) - 1) = (N : Int) - 1 := IntWalk.i64_in _ (by omega)
  go_enter Tryz.func154, Tryz.ntmps154
  go_wp2_with (go_at_call 177; (with_reducible refine HB.out.mono ?_); rintro e w1 ⟨rfl, hx⟩; have HX := hid hx; clear hx)
  go_ret
  exact ⟨rfl, HX.out⟩

set_option maxHeartbeats 4000000 in
set_option maxRecDepth 20000 in
theorem start_any {D : Int → Int → Bool} (B N a : Nat) (wv : Value) (x : List Int) (w : World) (hN : N ≤ 6) (ha : a < N) (hw : ∀ z ∈ x, 0 ≤ z ∧ z < (N : Int)) (hL : Loom w B D N) (hx : IsInts Any w wv x) :
    Calls Tryz.prog 179 #[.pointer (some ⟨B, 0, none⟩), wv, .int .i64 (a : Int)] w fun e w' => e = .returned (.int .i64 (ix (free D x a))) ∧ Grew w w' := by
  obtain ⟨va, vc, rfl, hm, hc⟩ := hx
  obtain ⟨m, hmm⟩ : ∃ m, x.length = m := ⟨_, rfl⟩
  obtain ⟨r, hr⟩ : ∃ r, free D x a = r := ⟨_, rfl⟩
  rw [hr]
  rw [hmm] at hm hc ⊢
  have HM := hid hmm
  have HC := hid hc
  have HW := hid hw
  have HR := hid (show free D (x.drop 0) a = r by simpa using hr)
  have hg := grew_refl w
  have HL := hid hL
  clear hmm hc hr hw hL
  go_enter Tryz.func179, Tryz.ntmps179
  go_wp2
  go_loopg [7, 8, 11] m (fun k _ _ i wr => ∃ (j : Nat) (q : Option Nat), j ≤ m ∧ i = .int .i64 j ∧ k = m - j ∧ Hid (free D (x.drop j) a = q) ∧ Hid (r = q.map (· + j)) ∧ Hid (Grew w wr))
  case atStart => exact ⟨0, r, by omega, rfl, rfl, HR, hid (by simp), hid (grew_refl _)⟩
  case round =>
    obtain ⟨j, q, hj, rfl, hk, HQ, HRQ, HG⟩ := hrel
    have HK := hid hk; clear hk hg
    rename World => wr
    by_cases hlt : j < m
    · obtain ⟨b, off, o, hva, hob, -, hcc⟩ := HC.out j hlt
      subst hva
      have hbl := lt_of_obj hob
      have hjx : j < x.length := by rw [HM.out]; exact hlt
      have hxj : x[j]? = some (nth x j) := by rw [nth_lt hjx]; exact List.getElem?_eq_getElem _
      have hz := HW.out (nth x j) (by rw [nth_lt hjx]; exact List.getElem_mem _)
      replace hcc : _ = some (Value.int .i64 (nth x j)) := hcc
      have hfd := free_drop (D := D) (a := (a : Int)) hxj
      obtain ⟨y, hy⟩ : ∃ y, nth x j = y := ⟨_, rfl⟩
      rw [hy] at hcc hfd hz
      obtain ⟨z, rfl⟩ : ∃ z : Nat, y = (z : Int) := ⟨y.toNat, by omega⟩
      have hzN : z < N := by omega
      have hdc := (HL.out.grew HG.out).cs a z ha hzN
      have hBl := (HL.out.grew HG.out).lt
      have hcw := (HG.out.cell (p := ⟨b, off + j, none⟩) hbl).trans hcc
      have hbw := Nat.lt_of_lt_of_le hbl HG.out.size
      have ha6 : a < 6 := by omega
      have hz6 : z < 6 := by omega
      clear hob hxj hcc hy hjx hz
      cases hya : ((z : Int) == (a : Int))
      · have hne : ¬ ((z : Int) = (a : Int)) := by simpa using hya
        rw [if_neg hne] at hfd
        obtain ⟨d, hd⟩ : ∃ d, D (a : Int) (z : Int) = d := ⟨_, rfl⟩
        rw [hd] at hdc hfd
        cases d
        · have HFD := hid hfd
          clear hfd hd hne
          go_wp2
          go_roundg (m - (j + 1))
          case measure => have := HK.out; omega
          case rel =>
            refine ⟨j + 1, free D (x.drop (j + 1)) a, by omega, by go_num, rfl, hid rfl, hid ?_, HG⟩
            rw [HRQ.out, ← HQ.out, HFD.out]
            simp [Function.comp_def, Nat.add_comm, Nat.add_left_comm]
        · have hq : q = none := by rw [← HQ.out, hfd]; rfl
          have hrn : r = none := by rw [HRQ.out, hq]; rfl
          have HRN := hid hrn
          clear hfd hd hne hq hrn
          go_wp2
          go_ret
          exact ⟨by rw [HRN.out]; rfl, HG.out⟩
      · have he : (z : Int) = (a : Int) := by simpa using hya
        have hq : q = some 0 := by rw [← HQ.out, hfd, if_pos he]
        have hrn : r = some j := by rw [HRQ.out, hq]; simp
        have HRN := hid hrn
        clear hfd he hq hrn
        go_wp2
        go_ret
        exact ⟨by rw [HRN.out]; rfl, HG.out⟩
    · obtain rfl : m = j := by omega
      have hq : q = none := by rw [← HQ.out, List.drop_of_length_le (by rw [HM.out]; exact Nat.le_refl _)]; rfl
      have hrn : r = none := by rw [HRQ.out, hq]; rfl
      have HRN := hid hrn
      clear hq hrn
      go_wp2
      go_ret
      exact ⟨by rw [HRN.out]; rfl, HG.out⟩

end Go.Proofs.YtmohnddglmolgaaGreatDoor.Kw
namespace Go.Proofs.YtmohnddglmolgaaGreatDoor.Kw
open Go.RowKit Go.Lin Go.Lin.Wv

set_option maxHeartbeats 1000000 in
theorem clone_any (v : Value) (n : Nat) (f : Nat → Value) (w : World) (hn : n ≤ 1000000) (hv : Reads Any w v n f) (h1 : ∀ i, (f i).oneCell' = true) :
    Calls Tryz.prog 52 #[v] w fun e w' => ∃ u, e = .returned u ∧ Seg w' w.heap.size 3 1 u n ((List.range n).map f) ∧ Grew w w' := by
  obtain ⟨a, cap, rfl, hm, hc⟩ := hv
  have HC := hid hc; clear hc
  rcases a with _ | ad
  · have h0 : n = 0 := by
      rcases Nat.eq_zero_or_pos n with h | h
      · exact h
      · obtain ⟨_, _, _, h2, _⟩ := HC.out 0 h; cases h2
    subst h0
    have hnil := fun w => Lib.run_eql_slice_nil (P := Tryz.prog) w 39 3 none 0 cap 0 0 Tryz.underlying39
    go_enter Tryz.func52, Tryz.ntmps52
    go_wp2
    go_ret
    exact ⟨.slice none 0 0, rfl, Seg.nil _ _ _ _, grew_refl _⟩
  · have hnil := fun w => Lib.run_eql_slice_nil (P := Tryz.prog) w 39 3 (some ad) n cap 0 0 Tryz.underlying39
    obtain ⟨i0, hi, hz0, hz1, hz2⟩ := info_parts Tryz.info3
    have hsrc : Src Tryz.prog 1 39 (.slice (some ad) n cap) n ((List.range n).map f) (w.alloc (.cells #[] 3)) := by
      refine Src.ofSlice _ Tryz.underlying39 ad n cap _ (by simp) ?_ ?_
      · intro j u hj
        have hjn : j < n := by have := (List.getElem?_eq_some_iff.1 hj).1; simpa using this
        simp only [List.getElem?_map, List.getElem?_range hjn, Option.map_some, Option.some.injEq] at hj
        obtain ⟨b, off, o, h2, h3, _, h5⟩ := HC.out j hjn
        cases h2
        rw [Addr.add_lit, World.cell?_alloc_lt (a := ⟨b, off + j, none⟩) _ _ (lt_of_obj h3), h5, hj]
      · intro u hu
        obtain ⟨i, _, rfl⟩ := List.mem_map.1 hu
        exact h1 i
    have hseg : Seg (w.alloc (.cells #[] 3)) w.heap.size 3 1 (.slice (some ⟨w.heap.size, 0, none⟩) 0 0) 0 [] :=
      ⟨by simp, .inr ⟨w.heap.size, 0, 0, #[], rfl, Nat.le_refl _, heap_alloc_new w _, Nat.le_refl _, by unfold maxLen; omega, by simp, by simp⟩⟩
    have HSRC := hid hsrc; clear hsrc
    have HSEG := hid hseg; clear hseg
    clear HC
    go_enter Tryz.func52, Tryz.ntmps52
    go_wp2_with (at_builtin; refine wpList_append_seg rfl _ _ 39 39 rfl w.heap.size 3 i0 (.int .i64 0) 1 8 Tryz.underlying39 hi hz0 hz1 hz2 rfl _ 0 [] rfl HSEG.out _ rfl n _ HSRC.out (by unfold maxLen; omega) (by omega) ?_ ?_; simp; intro v1 w1 hown1 hgrow1 hblk1)
    go_ret
    have hg : Grew w w1 := ((grew_refl w).alloc (Nat.le_refl _) _).grown hgrow1 (by simp) (fun k e => by cases e; exact Nat.le_refl _)
    exact ⟨v1, rfl, by simpa using hown1, hg⟩
end Go.Proofs.YtmohnddglmolgaaGreatDoor.Kw
namespace Go.Proofs.YtmohnddglmolgaaGreatDoor.Kw
open Go.RowKit Go.Lin Go.Lin.Wv

set_option maxHeartbeats 1000000 in
set_option maxRecDepth 100000 in
theorem grow_nil (n : Nat) (w : World) (hn : n ≤ 1000) :
    Calls Tryz.prog 209 #[.slice none 0 0, .int .i64 (n : Int)] w fun e w' => ∃ u, e = .returned u ∧ Seg w' w.heap.size 3 1 u 0 [] ∧ Grew w w' := by
  rcases Nat.eq_zero_or_pos n with h0 | h0
  · subst h0
    go_enter Tryz.func209, Tryz.ntmps209
    go_wp2
    go_ret
    exact ⟨_, rfl, Seg.nil _ _ _ _, grew_refl _⟩
  · obtain ⟨i0, hi, hz0, hz1, hz2⟩ := info_parts Tryz.info3
    have hrz : ∀ ty, (Builtin.append_ #[39, 3] ty #[.slice none 0 0, .int .i64 (n : Int)]).run Tryz.prog w =
        .ok (.slice (some ⟨w.heap.size, 0, none⟩) n (grownCap w n 0 3)) (w.drew.alloc (.cells (#[] ++ Builtin.zeroCells (Value.int .i64 0).cells n ++ Builtin.zeroCells (Value.int .i64 0).cells (grownCap w n 0 3 - n)) 3)) := fun ty => by
      have h := Lib.run_append_grow_zeros w 39 3 ty 3 i0 (.int .i64 0) .i64 .i64 Tryz.underlying39 Tryz.underlying3 hi hz0 none 0 0 [] (run_firstCells_none w.drew i0.size 0 0 0) n h0 (by omega) (by omega) (by omega) (by rw [hz2]; omega)
        (by rw [hz2]; exact growslice_fits (by omega) (by omega))
      simpa using h
    have hG1 : n ≤ grownCap w n 0 3 := grownCap_ge w _ _ _
    have hG2 : grownCap w n 0 3 ≤ maxLen := grownCap_le_maxLen w n 0 3 (by unfold maxLen; omega)
    obtain ⟨G, hG⟩ : ∃ G, grownCap w n 0 3 = G := ⟨_, rfl⟩
    rw [hG] at hrz hG1 hG2
    have hG3 : G ≤ 9223372036854775807 := by unfold maxLen at hG2; omega
    have HG2 := hid hG2
    obtain ⟨C, hC⟩ : ∃ C, (#[] ++ Builtin.zeroCells (Value.int .i64 0).cells n ++ Builtin.zeroCells (Value.int .i64 0).cells (G - n)) = C := ⟨_, rfl⟩
    have hCs : C.size = G := by rw [← hC]; simp [Builtin.zeroCells, Value.cells]; omega
    rw [hC] at hrz
    have HCS := hid hCs
    clear hG hC hCs hG2 hz1 hz2
    go_enter Tryz.func209, Tryz.ntmps209
    go_wp2_with (at_builtin; refine Lib.wpList_append_run _ rfl _ _ _ _ rfl _ _ rfl rfl _ _ (hrz _) ?_)
    go_ret
    refine ⟨_, rfl, ⟨by simp, .inr ⟨w.heap.size, 0, G, C, rfl, Nat.le_refl _, ?_, Nat.zero_le _, HG2.out, by rw [HCS.out]; omega, by simp⟩⟩, ?_⟩
    · exact heap_alloc_new w.drew _
    · exact grew_alloc (grew_drew (grew_refl w)) _

end Go.Proofs.YtmohnddglmolgaaGreatDoor.Kw
namespace Go.Lin

def nthL (xss : List (List Int)) (i : Nat) : List Int := xss.getD i []

theorem nthL_lt {xss : List (List Int)} {i : Nat} (h : i < xss.length) : nthL xss i = xss[i] := by simp [nthL, h]

/-- Rows of ints. -/
def IsRows (S : Nat → Obj → Prop) (w : World) (v : Value) (rows : List (List Int)) : Prop :=
  ∃ V : Nat → Value, Reads S w v rows.length V ∧ ∀ i, i < rows.length → IsInts S w (V i) (nthL rows i)

theorem take_succ_nthL {rows : List (List Int)} {k : Nat} (h : k < rows.length) : rows.take (k + 1) = rows.take k ++ [nthL rows k] := by
  rw [List.take_succ_eq_append_getElem h, nthL_lt h]

theorem flat_succ {rows : List (List Int)} {k : Nat} (h : k < rows.length) : (rows.take (k + 1)).flatten = (rows.take k).flatten ++ nthL rows k := by
  rw [take_succ_nthL h, List.flatten_append]; simp

theorem flat_le {rows : List (List Int)} (h : ∀ i, i < rows.length → (nthL rows i).length ≤ 100) : ∀ k, k ≤ rows.length → (rows.take k).flatten.length ≤ 100 * k := by
  intro k
  induction k with
  | zero => intro _; simp
  | succ k ih =>
    intro hk
    rw [flat_succ (by omega), List.length_append]
    have := ih (by omega)
    have := h k (by omega)
    omega
end Go.Lin
namespace Go.Proofs.YtmohnddglmolgaaGreatDoor.Kw
open Go.RowKit Go.Lin Go.Lin.Wv

set_option maxHeartbeats 2000000 in
theorem concat_any (v : Value) (rows : List (List Int)) (w : World) (hv : IsRows Any w v rows) (h4 : rows.length ≤ 4) (hl : ∀ i, i < rows.length → (nthL rows i).length ≤ 100) :
    Calls Tryz.prog 198 #[v] w fun e w' => ∃ u, e = .returned u ∧ Seg w' w.heap.size 3 1 u rows.flatten.length (rows.flatten.map (.int .i64)) ∧ Grew w w' := by
  obtain ⟨V, ⟨a, cap, rfl, hm, hc⟩, hr⟩ := hv
  have HC := hid hc; have HR := hid hr; clear hc hr
  have hle := flat_le hl
  have HLE := hid hle; have HLEN := hid hl; clear hle hl
  go_enter Tryz.func198, Tryz.ntmps198
  go_wp2
  go_loopg [3, 11] rows.length (fun g s i wr => ∃ k t : Nat, k ≤ rows.length ∧ i = .int .i64 (k : Int) ∧ s = .int .i64 (t : Int) ∧ t ≤ 400 ∧ Hid ((rows.take k).flatten.length = t) ∧ Hid (g = rows.length - k) ∧ wr = w)
  case atStart => exact ⟨0, 0, Nat.zero_le _, rfl, rfl, by omega, hid rfl, hid rfl, rfl⟩
  case round =>
    obtain ⟨k, t, hk, rfl, rfl, ht, HT, HG, rfl⟩ := hrel
    by_cases hlt : k < rows.length
    · obtain ⟨b, off, o, rfl, ho, _, hck⟩ := HC.out k hlt
      obtain ⟨ra, rc, hrv⟩ := (show ∃ ra rc, V k = .slice ra (nthL rows k).length rc from by obtain ⟨ra, rc, h, _⟩ := HR.out k hlt; exact ⟨ra, rc, h⟩)
      rw [hrv] at hck
      have hrl := HLEN.out k hlt
      have hbl := lt_of_obj ho
      have hfs := flat_succ hlt
      have hfl := HLE.out (k + 1) (by omega)
      rw [hfs, List.length_append, HT.out] at hfl
      have hneg : decide ((t : Int) + ((nthL rows k).length : Int) < 0) = false := decide_eq_false (by omega)
      have HFS := hid hfs; clear hfs hrv ho
      go_wp2
      go_roundg (rows.length - (k + 1))
      case measure => have := HG.out; omega
      case rel => exact ⟨k + 1, t + (nthL rows k).length, by omega, by go_num, by go_num, by omega, hid (by rw [HFS.out, List.length_append, HT.out]), hid rfl, rfl⟩
    · obtain rfl : k = rows.length := by omega
      have hgn := grow_nil t wr (by omega)
      have HGN := hid hgn; clear hgn
      go_wp2_with (go_at_call 209; with_reducible refine HGN.out.mono ?_; rintro e w1 ⟨u, rfl, hseg, hg1⟩)
      have HS0 := hid hseg
      clear hseg
      obtain ⟨W, rfl⟩ : ∃ W : World, W = wr := ⟨_, rfl⟩
      go_loopg [6, 27] rows.length (fun g u i wr => ∃ k : Nat, k ≤ rows.length ∧ i = .int .i64 (k : Int) ∧ Hid (g = rows.length - k) ∧ Grew W wr ∧ Seg wr W.heap.size 3 1 u (rows.take k).flatten.length ((rows.take k).flatten.map (.int .i64)))
      case atStart => exact ⟨0, Nat.zero_le _, rfl, hid rfl, hg1, HS0.out⟩
      case round =>
        clear HS0
        obtain ⟨k, hk2, rfl, HG2, hgr, hseg⟩ := hrel
        obtain ⟨sa, sc, rfl, _⟩ := hseg.shape
        have hsz := hgr.size
        by_cases hlt2 : k < rows.length
        · obtain ⟨b, off, o, rfl, ho, _, hck⟩ := HC.out k hlt2
          have hi2 := HR.out k hlt2
          obtain ⟨ra, rc, hrv⟩ := (show ∃ ra rc, V k = .slice ra (nthL rows k).length rc from by obtain ⟨ra, rc, h, _⟩ := HR.out k hlt2; exact ⟨ra, rc, h⟩)
          rw [hrv] at hck hi2
          have l2 := HLEN.out k hlt2
          have hbl : b < wr.heap.size := Nat.lt_of_lt_of_le (lt_of_obj ho) hsz
          have hck2 := (hgr.cell (p := ⟨b, off + k, none⟩) (lt_of_obj ho)).trans hck
          have hsrc := src_ints (Reads.grew hi2 hgr)
          have hfs := flat_succ hlt2
          have hfl := HLE.out k (by omega)
          obtain ⟨i0, hi, hz0, hz1, hz2⟩ := info_parts Tryz.info3
          have HSRC := hid hsrc; have HSEG := hid hseg; have HFS := hid hfs
          have hfl2 : (rows.take k).flatten.length + (nthL rows k).length ≤ 1000 := by omega
          clear hsrc hseg hfs hrv hck ho hfl hi2
          obtain ⟨N, hN⟩ : ∃ N, (rows.take k).flatten.length = N := ⟨_, rfl⟩
          go_wp2_with (at_builtin; refine wpList_append_seg rfl _ _ 39 39 rfl W.heap.size 3 i0 (.int .i64 0) 1 8 Tryz.underlying39 hi hz0 hz1 hz2 rfl _ _ _ rfl HSEG.out _ rfl _ _ HSRC.out (by unfold maxLen; omega) (by omega) ?_ ?_; (omega); intro v1 w3 hown1 hgrow1 hblk1; have hg3 := hgr.grown hgrow1 hsz (fun k e => (HSEG.out.own k e).1))
          go_roundg (rows.length - (k + 1))
          case measure => have := HG2.out; omega
          case rel =>
            refine ⟨k + 1, by omega, by go_num, hid rfl, hg3, ?_⟩
            rw [HFS.out, List.map_append, List.length_append]
            exact hown1
        · obtain rfl : k = rows.length := by omega
          go_wp2
          go_ret
          have h : Seg wr W.heap.size 3 1 (.slice sa (List.take rows.length rows).flatten.length sc) rows.flatten.length (rows.flatten.map (.int .i64)) := by
            have h := hseg
            rw [List.take_length] at h ⊢
            exact h
          exact ⟨_, rfl, h, hgr⟩

end Go.Proofs.YtmohnddglmolgaaGreatDoor.Kw
namespace Go.Proofs.YtmohnddglmolgaaGreatDoor.Kw
open Go.RowKit Go.Lin Go.Lin.Wv

theorem two_rows {w : World} {g : Nat} {u v : Value} {xs ys : List Int} (h0 : w.cell? ⟨g, 0, none⟩ = some u) (h1 : w.cell? ⟨g, 1, none⟩ = some v) (hu : IsInts Any w u xs) (hv : IsInts Any w v ys) :
    IsRows Any w (.slice (some ⟨g, 0, none⟩) 2 2) [xs, ys] :=
  ⟨fun i => if i = 0 then u else v, ⟨_, _, rfl, by simp, fun i hi => by
    have hi' : i = 0 ∨ i = 1 := by simp at hi; omega
    have hz := World.block_lt_of_cell? w _ h0
    rcases hi' with rfl | rfl
    · exact ⟨_, _, _, rfl, Array.getElem?_eq_getElem hz, trivial, by simpa using h0⟩
    · exact ⟨_, _, _, rfl, Array.getElem?_eq_getElem hz, trivial, by simpa using h1⟩⟩, fun i hi => by
    have hi' : i = 0 ∨ i = 1 := by simp at hi; omega
    rcases hi' with rfl | rfl
    · simpa [nthL] using hu
    · simpa [nthL] using hv⟩


set_option maxHeartbeats 4000000 in
set_option maxRecDepth 20000 in
theorem without_any (wv : Value) (x : List Int) (i : Nat) (w : World) (hi : i < x.length) (hs : x.length ≤ 100) (hx : IsWd w wv x) : Calls Tryz.prog 180 #[wv, .int .i64 (i : Int)] w fun e w' => ∃ u, e = .returned u ∧ Seg w' w.heap.size 3 1 u (x.eraseIdx i).length ((x.eraseIdx i).map (.int .i64)) ∧ Grew w w' := by
  obtain ⟨va, vc, rfl, hcap, va0, vc0, hveq, hm, hc⟩ := hx
  obtain ⟨rfl, rfl⟩ : va = va0 ∧ vc = vc0 := by simp at hveq; exact ⟨hveq.1, hveq.2⟩
  clear hveq
  obtain ⟨m, hmm⟩ : ∃ m, x.length = m := ⟨_, rfl⟩
  rw [hmm] at hm hc hi hs hcap ⊢
  obtain ⟨b, off, o, hva, hob, -, -⟩ := hc 0 (by omega)
  subst hva
  have hiv : i ≤ vc := by omega
  have hiv2 : i + 1 ≤ vc := by omega
  have him : i + 1 ≤ m := by omega
  have hwr : IntKind.i64.wrap ((i : Int) + 1) = (i : Int) + 1 := IntWalk.i64_in _ (by omega)
  have htn : ((i : Int) + 1).toNat = i + 1 := by omega
  have hp0 : (0 : Int) ≤ (i : Int) + 1 := by omega
  have hR : Reads Any w (.slice (some ⟨b, off, none⟩) m vc) m (fun i => .int .i64 (nth x i)) := ⟨_, _, rfl, hm, hc⟩
  have hl1 : ((x.drop 0).take i).length = i := by simp; omega
  have hl2 : ((x.drop (i + 1)).take (m - (i + 1))).length = m - (i + 1) := by simp; omega
  have hgd : Grew w w.drew := grew_drew (grew_refl w)
  have he : (x.drop 0).take i ++ (x.drop (i + 1)).take (m - (i + 1)) = x.eraseIdx i := by
    rw [List.eraseIdx_eq_take_drop_succ, List.take_of_length_le (l := x.drop (i + 1)) (by rw [List.length_drop, hmm]; exact Nat.le_refl _)]; rfl
  obtain ⟨r, hr⟩ : ∃ r, m - (i + 1) = r := ⟨_, rfl⟩
  have hmr : m = i + 1 + r := by omega
  have hle : (i : Int) + 1 ≤ (i : Int) + 1 + (r : Int) := by omega
  have hlast : ∃ p2 : Addr, (if vc = i + 1 then (⟨b, off, none⟩ : Addr) else ⟨b, off + (i + 1), none⟩) = p2 := ⟨_, rfl⟩
  obtain ⟨p2, hp2⟩ := hlast
  obtain ⟨W8, hW8, g8, x0, x1, x2⟩ := box2 w.drew (.slice (some ⟨b, off, none⟩) i vc) (.slice (some p2) r (vc - (i + 1))) 39
  have r1 := part_ints hR hmm 0 i vc (by omega)
  have r2 : IsInts Any w (.slice (some p2) ((x.drop (i + 1)).take (m - (i + 1))).length (vc - (i + 1))) ((x.drop (i + 1)).take (m - (i + 1))) := by
    by_cases hv : vc = i + 1
    · have h0 : (x.drop (i + 1)).take (m - (i + 1)) = [] := List.length_eq_zero_iff.1 (by rw [hl2]; omega)
      rw [h0]; exact Reads.nil _ _ _ _ _
    · rw [if_neg hv] at hp2; subst hp2
      exact part_ints hR hmm (i + 1) (m - (i + 1)) _ (by omega)
  rw [Nat.add_zero] at r1
  rw [hr] at r2 hl2 he
  obtain ⟨X1, hX1⟩ : ∃ X1, (x.drop 0).take i = X1 := ⟨_, rfl⟩
  obtain ⟨X2, hX2⟩ : ∃ X2, (x.drop (i + 1)).take r = X2 := ⟨_, rfl⟩
  rw [hX1] at r1 hl1 he
  rw [hX2] at r2 hl2 he
  have y0 : W8.cell? ⟨w.drew.heap.size, 0, none⟩ = some (.slice (some ⟨b, off, none⟩) X1.length vc) := by rw [hl1]; exact x0
  have y1 : W8.cell? ⟨w.drew.heap.size, 1, none⟩ = some (.slice (some p2) X2.length (vc - (i + 1))) := by rw [hl2]; exact x1
  have hcc := concat_any _ _ W8 (two_rows y0 y1 (Reads.grew r1 (grew_trans hgd g8)) (Reads.grew r2 (grew_trans hgd g8))) (by simp) (fun j hj => by
    have hj' : j = 0 ∨ j = 1 := by simp at hj; omega
    rcases hj' with rfl | rfl
    · show X1.length ≤ 100; omega
    · show X2.length ≤ 100; omega)
  rw [show [X1, X2].flatten = x.eraseIdx i by simpa using he] at hcc
  obtain ⟨E, hE⟩ : ∃ E, x.eraseIdx i = E := ⟨_, rfl⟩
  rw [hE] at hcc ⊢
  have HCC := hid hcc
  have hgs : Grew w W8 := grew_trans hgd g8
  have HGS := hid hgs
  subst hmr
  clear hcc r1 r2 hl1 hl2 he hX1 hX2 y0 y1 hE hR hc hob hmm hr hgs hgd
  by_cases hvc : vc = i + 1
  all_goals (
    first
    | (rw [if_pos hvc] at hp2; subst hp2; obtain rfl : r = 0 := (by omega); subst hvc; rw [show i + 1 - (i + 1) = 0 by omega] at hW8; have hia : (i : Int) ≤ (i : Int) + 1 := (by omega))
    | (rw [if_neg hvc] at hp2; subst hp2; have hvc2 : ¬ vc ≤ i + 1 := (by omega))
    go_enter Tryz.func180, Tryz.ntmps180
    go_wp2
    go_region_law (go_simp; go_at_call 198; refine (show Calls _ _ _ _ _ from HCC.out).mono ?_; rintro e w7 ⟨cv, rfl, hseg7, hg7⟩)
    all_goals (
      go_wp2
      go_ret
      exact ⟨_, rfl, hseg7.mono HGS.out.size, grew_trans HGS.out hg7⟩))

end Go.Proofs.YtmohnddglmolgaaGreatDoor.Kw
namespace Go.Proofs.YtmohnddglmolgaaGreatDoor.Kw
open Go.RowKit Go.Lin Go.Lin.Wv

set_option maxHeartbeats 1000000 in
theorem bad_any {D : Int → Int → Bool} (B N c : Nat) (a : Int) (w : World) (hN : N ≤ 6) (hL : Loom w B D N) (hc : w.cell? ⟨c, 0, none⟩ = some (.pointer (some ⟨B, 0, none⟩))) :
    Calls Tryz.prog 153 #[.int .i64 a, .pointer (some ⟨c, 0, none⟩)] w fun e w' => e = .returned (.bool (!(decide (0 ≤ a) && decide (a ≤ (N : Int) - 1)))) ∧ Grew w w' := by
  have HB := hid (letter_any B N a w hN hL)
  obtain ⟨r, hr⟩ : ∃ r, (decide (0 ≤ a) && decide (a ≤ (N : Int) - 1)) = r := ⟨_, rfl⟩
  rw [hr] at HB ⊢
  cases r
  all_goals (
    go_enter Tryz.func153, Tryz.ntmps153
    go_wp2_with (go_at_call 154; (with_reducible refine HB.out.mono ?_); rintro e w1 ⟨rfl, hx⟩; have HX := hid hx; clear hx)
    go_ret
    exact ⟨rfl, HX.out⟩)

end Go.Proofs.YtmohnddglmolgaaGreatDoor.Kw
namespace Go.Proofs.YtmohnddglmolgaaGreatDoor.Kw
open Go.RowKit Go.Lin Go.Lin.Wv




/-- The function g, with what it has captured, says p of x, in whatever later world. -/
def Says (g : Nat) (caps : Array Value) (x : Value) (p : Bool) (w : World) : Prop :=
  ∀ w', Grew w w' → Calls Tryz.prog g (#[x] ++ caps) w' fun e w'' => e = .returned (.bool p) ∧ Grew w' w''

def Entered (g : Nat) : Prop := ∀ args w, (callFunc g args).run Tryz.prog w = .ok (.enter g args) w

theorem Says.grew {g : Nat} {caps : Array Value} {x : Value} {p : Bool} {w w' : World} (h : Says g caps x p w) (hg : Grew w w') : Says g caps x p w' := fun w2 h2 => h w2 (grew_trans hg h2)

set_option maxHeartbeats 1000000 in
theorem indexFunc_any (g : Nat) (caps : Array Value) (p : Int → Bool) (v : Value) (xs : List Int) (w : World) (hcf : Entered g) (hx : IsInts Any w v xs) (hp : ∀ i, i < xs.length → Says g caps (.int .i64 (nth xs i)) (p (nth xs i)) w) :
    Calls Tryz.prog 121 #[v, .func (.func g) #[] caps] w fun e w' => ∃ r : Int, e = .returned (.int .i64 r) ∧ Hid (decide (0 ≤ r) = xs.any p) ∧ Grew w w' := by
  obtain ⟨a, cap, rfl, hm, hc⟩ := hx
  have HC := hid hc; clear hc
  have HP := hid hp; clear hp
  have hcf' : ∀ args w, (callFunc g args).run Tryz.prog w = .ok (.enter g args) w := hcf
  clear hcf
  go_enter Tryz.func121, Tryz.ntmps121
  go_wp2
  go_loopg [5, 8] (xs.length) (fun k _ i wr => ∃ j : Nat, j ≤ xs.length ∧ i = .int .i64 j ∧ k = xs.length - j ∧ Hid (∀ t, t < j → p (nth xs t) = false) ∧ Grew w wr)
  case atStart => exact ⟨0, Nat.zero_le _, rfl, rfl, hid (fun t ht => by omega), grew_refl _⟩
  case round =>
    obtain ⟨j, hj, rfl, hk, HT, hg⟩ := hrel
    have HK := hid hk; clear hk
    by_cases hlt : j < xs.length
    · obtain ⟨b, off, o, rfl, hb, _, hcj⟩ := HC.out j hlt
      have hbl := lt_of_obj hb
      have hcj0 := (hg.cell (p := ⟨b, off + j, none⟩) hbl).trans hcj
      clear hb hcj
      have HS := hid (HP.out j hlt)
      by_cases hop : p (nth xs j) = true
      · have HOP := hid hop
        go_wp2_with (refine (show Calls _ _ _ _ _ from HS.out _ hg).mono ?_; rintro e w1 ⟨rfl, hx⟩; replace hg := grew_trans hg hx; have hc := (bcell hg).1)
        go_ret
        refine ⟨(j : Int), rfl, hid ?_, hg⟩
        rw [show decide ((0 : Int) ≤ (j : Int)) = true by simp]
        refine (List.any_eq_true.2 ⟨nth xs j, ?_, HOP.out⟩).symm
        rw [nth_lt hlt]; exact List.getElem_mem hlt
      · have hop' : p (nth xs j) = false := by simpa using hop
        go_wp2_with (refine (show Calls _ _ _ _ _ from HS.out _ hg).mono ?_; rintro e w1 ⟨rfl, hx⟩; replace hg := grew_trans hg hx; have hc := (bcell hg).1)
        go_roundg (xs.length - (j + 1))
        case measure => have := HK.out; omega
        case rel => exact ⟨j + 1, by omega, by go_num, rfl, hid (lt_succ_all HT.out hop'), hg⟩
    · obtain rfl : j = xs.length := by omega
      go_wp2
      go_ret
      refine ⟨-1, rfl, hid ?_, hg⟩
      rw [show decide ((0 : Int) ≤ -1) = false by decide]
      refine (List.any_eq_false.2 ?_).symm
      intro x hx
      obtain ⟨i, hi, rfl⟩ := List.getElem_of_mem hx
      have := HT.out i hi
      rw [nth_lt hi] at this
      simp [this]

set_option maxHeartbeats 1000000 in
theorem containsFunc_any (g : Nat) (caps : Array Value) (p : Int → Bool) (v : Value) (xs : List Int) (w : World) (hcf : Entered g) (hx : IsInts Any w v xs) (hp : ∀ i, i < xs.length → Says g caps (.int .i64 (nth xs i)) (p (nth xs i)) w) :
    Calls Tryz.prog 99 #[v, .func (.func g) #[] caps] w fun e w' => e = .returned (.bool (xs.any p)) ∧ Grew w w' := by
  have h := indexFunc_any g caps p v xs w hcf hx hp
  have H := hid h; clear h hcf hx hp
  go_enter Tryz.func99, Tryz.ntmps99
  go_wp2_with (go_at_call 121; with_reducible refine H.out.mono ?_; rintro e w1 ⟨r, rfl, hr, hg⟩)
  go_ret
  exact ⟨ret_bool hr.out, hg⟩

end Go.Proofs.YtmohnddglmolgaaGreatDoor.Kw
namespace Go.Proofs.YtmohnddglmolgaaGreatDoor.Kw
open Go.RowKit Go.Lin Go.Lin.Wv Go.Maps

theorem Tryz.laidOut : laidOutB Tryz.prog = true := by kernel_rfl
theorem keyed57 : Keyed Tryz.prog 170 := Keyed.of_law (deep_law_laid Tryz.laidOut (m := 3) (by decide) (of_decide_eq_true (by kernel_rfl)) (by kernel_rfl) (by kernel_rfl))
theorem zero4 (w : World) : (zeroValue 4).run Tryz.prog w = .ok (.bool false) w := by kernel_rfl

/-- A pair as a key. -/
def encQ (x : Int × Int) : Value := .agg #[.int .i64 x.1, .int .i64 x.2]
theorem encQ_inj (x y : Int × Int) (h : encQ x = encQ y) : x = y := by
  unfold encQ at h
  simp at h
  exact Prod.ext h.1 h.2

theorem key57 (x : Int × Int) (k1 : (Lit.int .i64 x.1).wf = true) (k2 : (Lit.int .i64 x.2).wf = true) : ∃ l, keyOf Tryz.prog 170 (encQ x) = some l := by
  have u98 := Tryz.underlying170
  have u3 := Tryz.underlying3
  have c98 : Tryz.prog.cellsOf 170 = 2 := by kernel_rfl
  have c3 : Tryz.prog.cellsOf 3 = 1 := by kernel_rfl
  have kt : Tryz.prog.keyType 170 = true := by kernel_rfl
  have hsz : ∃ m, Tryz.prog.types.size + 1 = m + 2 := ⟨Tryz.prog.types.size - 1, by have : 1 ≤ Tryz.prog.types.size := of_decide_eq_true (by kernel_rfl); omega⟩
  obtain ⟨m, hm⟩ := hsz
  have e1 : Tryz.prog.keyLits (m + 1) 3 [.int .i64 x.1] = some [.int .i64 x.1] := by
    unfold Program.keyLits; rw [u3]; simp only [k1, and_self, if_true]
  have e2 : Tryz.prog.keyLits (m + 1) 3 [.int .i64 x.2] = some [.int .i64 x.2] := by
    unfold Program.keyLits; rw [u3]; simp only [k2, and_self, if_true]
  have e3 : Tryz.prog.keyLits (m + 2) 170 [.int .i64 x.1, .int .i64 x.2] = some [.int .i64 x.1, .int .i64 x.2] := by
    unfold Program.keyLits; rw [u98]
    simp only [c98, c3, List.length_cons, List.length_nil, if_true]
    rw [show List.range 2 = [0, 1] from rfl]
    simp only [List.mapM_cons, List.mapM_nil, Nat.zero_mul, Nat.one_mul, List.drop_zero, List.drop_succ_cons, List.take_succ_cons, List.take_zero, e1, e2]
    rfl
  have hf : (encQ x).formed Tryz.prog 170 = true := by
    unfold encQ Value.formed; rw [u98]; simp only [c98]; rfl
  refine ⟨.string (keyBytes [.int .i64 x.1, .int .i64 x.2]), ?_⟩
  unfold keyOf
  rw [u98]
  simp only [kt, hf, Bool.and_self, if_true, hm]
  unfold encQ
  simp only [Value.cells]
  rw [e3]
  rfl

end Go.Proofs.YtmohnddglmolgaaGreatDoor.Kw
namespace Go.Lin.Wv

theorem pairsOk_drop {n : Int} {s ps : List (Int × Int)} {j : Nat} {x : Int × Int} (h : ps[j]? = some x) : pairsOk n s (ps.drop j) = (pairOk n x && !s.contains x && pairsOk n (s ++ [x]) (ps.drop (j + 1))) := by
  have : ps.drop j = x :: ps.drop (j + 1) := by
    obtain ⟨h1, h2⟩ := List.getElem?_eq_some_iff.1 h
    rw [← h2]
    exact List.drop_eq_getElem_cons h1
  rw [this]
  rfl

theorem take_add_get {α : Type} {l : List α} {j : Nat} {x : α} (h : l[j]? = some x) : l.take (j + 1) = l.take j ++ [x] := by
  rw [List.take_add_one, h]; rfl

end Go.Lin.Wv
namespace Go.Proofs.YtmohnddglmolgaaGreatDoor.Kw
open Go.RowKit Go.Lin Go.Lin.Wv Go.Maps

set_option maxHeartbeats 8000000 in
set_option maxRecDepth 20000 in
theorem valid_any (v : Value) (L : Lt) (w : World) (hn : L.n ≤ 9223372036854775807) (hv : IsLt w v L) : Calls Tryz.prog 152 #[v] w fun e w' => e = .returned (.bool (valid L)) ∧ Grew w w' := by
  obtain ⟨N, ps⟩ := L
  obtain ⟨s, rfl, va, vc, rfl, hm, hdd⟩ := hv
  simp only at hn hm hdd ⊢
  obtain ⟨m, hmm⟩ : ∃ m, ps.length = m := ⟨_, rfl⟩
  obtain ⟨W0, hW0, g0, k0, k1, hz⟩ := box2 w (.int .i64 N) (.slice va m vc) 173
  rw [hmm] at hm ⊢
  obtain ⟨R, hR⟩ : ∃ R, valid ⟨N, ps⟩ = R := ⟨_, rfl⟩
  rw [hR]
  have HR := hid (show R = (pairsOk N (ps.take 0) (ps.drop 0) && (decide (1 ≤ N) && decide (N ≤ 6))) from by rw [← hR]; rfl)
  have HM := hid hmm
  have HDD := hid hdd
  have hg := g0
  have hz0 := hz
  have hmk := FMap.made W0 Tryz.prog 170 4 encQ Lit.bool false
  have HMAP0 := hid (hmk.congr (S' := fun x => (ps.take 0).contains x) (fun x => by simp))
  have hrm := @run_makeMap Tryz.prog
  clear hmm hdd hR hmk
  go_enter Tryz.func152, Tryz.ntmps152
  go_wp2
  go_loopg [2, 5, 10] m (fun k res bx i wr => ∃ j : Nat, j ≤ m ∧ i = .int .i64 j ∧ k = m - j ∧ Hid (R = (pairsOk N (ps.take j) (ps.drop j) && (decide (1 ≤ N) && decide (N ≤ 6)))) ∧ Hid (FMap wr Tryz.prog 170 4 W0.heap.size j encQ Lit.bool false (fun x => (ps.take j).contains x)) ∧ Hid (Below W0.heap.size W0 wr))
  case atStart => exact ⟨0, by omega, rfl, rfl, HR, HMAP0, hid (grew_alloc (grew_refl _) _)⟩
  case round =>
    obtain ⟨j, hj, rfl, hk, HRR, HMAP, HG⟩ := hrel
    have HK := hid hk; clear hk
    rename World => wr
    have kw0 := (HG.out.cell (p := ⟨w.heap.size, 0, none⟩) hz).trans k0
    have kw1 := (HG.out.cell (p := ⟨w.heap.size, 1, none⟩) hz).trans k1
    have hzw := Nat.lt_of_lt_of_le hz HG.out.size
    by_cases hlt : j < m
    · obtain ⟨x, hx⟩ : ∃ x, ps[j]? = some x := ⟨_, List.getElem?_eq_getElem (by rw [HM.out]; exact hlt)⟩
      obtain ⟨bb, off, rfl, hpa⟩ := HDD.out j x hx
      have hpa' := (hpa.grew hpa.lt g0)
      have hpa2 := (hpa'.grew hpa'.lt HG.out)
      have c0 := hpa2.c0
      have c1 := hpa2.c1
      have hlt2 := hpa2.lt
      have hsucc := pairsOk_drop (n := N) (s := ps.take j) hx
      rw [← take_add_get hx] at hsucc
      have HTK := hid (take_add_get hx)
      obtain ⟨x1, x2⟩ := x
      simp only at c0 c1
      obtain ⟨W1, hW1, g1, l0, l1, hz1⟩ := box2 wr (.int .i64 x1) (.int .i64 x2) 170
      have hg1 := HG.out.trans (g1.mono (by have := HG.out.size; exact this))
      have HG1 := hid hg1
      have kx0 := (g1.cell (p := ⟨w.heap.size, 0, none⟩) hzw).trans kw0
      have hzx := Nat.lt_of_lt_of_le hzw g1.size
      obtain ⟨p1, hp1⟩ : ∃ q, decide (x1 < 0) = q := ⟨_, rfl⟩
      obtain ⟨p2, hp2⟩ : ∃ q, decide (x1 ≥ x2) = q := ⟨_, rfl⟩
      obtain ⟨p3, hp3⟩ : ∃ q, decide (x2 ≥ N) = q := ⟨_, rfl⟩
      have hpo : pairOk N (x1, x2) = !(p1 || p2 || p3) := by
        unfold pairOk; rw [← hp1, ← hp2, ← hp3]
      rw [hpo] at hsucc
      clear hpo
      have hbad : (p1 || p2 || p3) = true → R = false := fun h => by rw [HRR.out, hsucc, h]; rfl
      cases p1 <;> cases p2 <;> cases p3
      all_goals (
        first
        | (have hrn := hbad rfl
           have HRN := hid hrn
           clear hbad hrn hsucc hx hpa hpa' hpa2
           go_wp2
           go_ret
           exact ⟨by rw [HRN.out]; rfl, grew_trans g0 (HG1.out.mono (by omega))⟩)
        | skip)
      have hp1' : ¬ x1 < 0 := of_decide_eq_false hp1
      have hp2' : ¬ x1 ≥ x2 := of_decide_eq_false hp2
      have hp3' : ¬ x2 ≥ N := of_decide_eq_false hp3
      have k1' : (Lit.int .i64 x1).wf = true := WalkArith.wf_i64 (by omega)
      have k2' : (Lit.int .i64 x2).wf = true := WalkArith.wf_i64 (by omega)
      obtain ⟨kl, hkl⟩ := key57 (x1, x2) k1' k2'
      have hM1 := HMAP.out.grew g1
      have hlk := hM1.lookup_bool keyed57 Tryz.underlying246 Tryz.underlying4 (zero4 W1) hkl
      obtain ⟨q, hq⟩ : ∃ q, (ps.take j).contains (x1, x2) = q := ⟨_, rfl⟩
      simp only [hq, encQ] at hlk
      rw [hq] at hsucc
      cases q
      · have HSC := hid hsucc
        have HM1 := hid hM1
        have HKL := hid hkl
        have HQ := hid hq
        clear hbad hsucc hx hpa hpa' hpa2 hM1 hkl hq hp1' hp2' hp3' k1' k2'
        go_wp2_with (refine wpList_update_f rfl _ _ _ 246 (.inl rfl) keyed57 Tryz.underlying246 rfl HM1.out (by unfold maxLen; omega) (x1, x2) rfl HKL.out (fun u h => encQ_inj _ _ h) (.bool true) rfl (e := true) (plainElem_bool Tryz.underlying4 true) (fun x => (ps.take (j + 1)).contains x) (by rw [HTK.out]; simp) (fun u hu => by
          rw [HTK.out, List.contains_eq_any_beq, List.contains_eq_any_beq, List.any_append]
          have : (u == (x1, x2)) = false := by simpa using hu
          simp [this]) ?_; intro w2 hmap2 hgr2; have HMAP2 := hid hmap2; have HGR2 := hid hgr2; clear hmap2 hgr2)
        go_roundg (m - (j + 1))
        case measure => have := HK.out; omega
        case rel => exact ⟨j + 1, by omega, by go_num, rfl, hid (by rw [HRR.out, HSC.out]; rfl), HMAP2, hid (HG1.out.grown HGR2.out HG1.out.size (fun k e => by cases e; exact Nat.le_refl _))⟩
      · have hrn : R = false := by rw [HRR.out, hsucc]; rfl
        have HRN := hid hrn
        clear hbad hrn hsucc hx hpa hpa' hpa2 hM1 hkl hq hp1' hp2' hp3' k1' k2'
        go_wp2
        go_ret
        exact ⟨by rw [HRN.out]; rfl, grew_trans g0 (HG1.out.mono (by omega))⟩
    · obtain rfl : m = j := by omega
      have hrn : R = (decide (1 ≤ N) && decide (N ≤ 6)) := by
        rw [HRR.out, List.drop_of_length_le (by rw [HM.out]; exact Nat.le_refl _)]; rfl
      have HB := hid (between_any 1 N 6 wr)
      rw [← hrn] at HB
      clear hrn
      go_wp2_with (go_at_call 177; (with_reducible refine HB.out.mono ?_); rintro e w1 ⟨rfl, hx⟩; have HX := hid hx; clear hx)
      go_ret
      exact ⟨rfl, grew_trans g0 (HG.out.trans (HX.out.mono HG.out.size))⟩

end Go.Proofs.YtmohnddglmolgaaGreatDoor.Kw
namespace Go.Lin.Wv

theorem pairsOk_all {n : Int} : ∀ {ps s : List (Int × Int)}, pairsOk n s ps = true → ∀ p ∈ ps, 0 ≤ p.1 ∧ p.1 < p.2 ∧ p.2 < n
  | [], _, _, p, hp => by cases hp
  | x :: ps, s, h, p, hp => by
    simp only [pairsOk, Bool.and_eq_true] at h
    rcases List.mem_cons.1 hp with rfl | hp
    · have := h.1.1
      simp [pairOk] at this
      omega
    · exact pairsOk_all h.2 p hp

theorem valid_iff {L : Lt} (h : valid L = true) : (1 ≤ L.n ∧ L.n ≤ 6) ∧ ∀ p ∈ L.ps, 0 ≤ p.1 ∧ p.1 < p.2 ∧ p.2 < L.n := by
  unfold valid at h
  simp only [Bool.and_eq_true, decide_eq_true_eq] at h
  exact ⟨h.2, pairsOk_all h.1⟩

/-- What depends by the diagonal up to i and the first j pairs. -/
def dpt (ps : List (Int × Int)) (i j : Nat) (a b : Nat) : Bool := (a == b && decide (a < i)) || (ps.take j).any (hits a b)

theorem dpt_diag {ps : List (Int × Int)} {i : Nat} (a b : Nat) : dpt ps (i + 1) 0 a b = (dpt ps i 0 a b || (a == i && b == i)) := by
  unfold dpt
  simp only [List.take_zero, List.any_nil, Bool.or_false]
  rw [Bool.eq_iff_iff]
  simp
  omega

theorem dpt_pair {ps : List (Int × Int)} {n j : Nat} {x y : Nat} (h : ps[j]? = some ((x : Int), (y : Int))) (a b : Nat) : dpt ps n (j + 1) a b = ((dpt ps n j a b || (a == x && b == y)) || (a == y && b == x)) := by
  unfold dpt
  rw [take_add_get h, List.any_append]
  have e : ∀ u v : Nat, ((u : Int) == (v : Int)) = (v == u) := fun u v => by rw [Bool.eq_iff_iff]; simp; omega
  simp only [List.any_cons, List.any_nil, Bool.or_false, hits, e, Bool.or_assoc]
  rw [Bool.and_comm (b == x) (a == y)]

theorem dpt_dep {L : Lt} {N : Nat} (a b : Nat) (ha : a < N) : dpt L.ps N L.ps.length a b = dep L a b := by
  unfold dpt dep
  rw [List.take_length]
  congr 1
  rw [Bool.eq_iff_iff]
  simp
  omega

end Go.Lin.Wv
namespace Go.Lin

theorem cell_off_set {W w : World} {B o : Nat} {v : Value} (h : ∀ b o, b ≠ B → w.cell? ⟨b, o, none⟩ = W.cell? ⟨b, o, none⟩) : ∀ b o', b ≠ B → (w.setCell ⟨B, o, none⟩ v).cell? ⟨b, o', none⟩ = W.cell? ⟨b, o', none⟩ := by
  intro b o' hb
  rw [World.cell?_setCell_other _ _ _ _ (fun e => hb (congrArg Addr.block e).symm)]
  exact h b o' hb

end Go.Lin
namespace Go.Proofs.YtmohnddglmolgaaGreatDoor.Kw
open Go.RowKit Go.Lin Go.Lin.Wv Go.Maps

/-- A loom that is being made. -/
structure LoomF (w : World) (B N : Nat) (f : Nat → Nat → Bool) : Prop where
  obj : ∃ cs : Array Value, w.heap[B]? = some (.cells cs 224 (0, 0)) ∧ cs.size = 37 ∧ cs[0]? = some (.int .i64 (N : Int)) ∧ ∀ a b, a < 6 → b < 6 → cs[1 + a * 6 + b]? = some (.bool (f a b))

theorem LoomF.lt {w : World} {B N : Nat} {f : Nat → Nat → Bool} (h : LoomF w B N f) : B < w.heap.size := by
  obtain ⟨cs, h1, _⟩ := h.obj
  exact lt_of_obj h1

theorem LoomF.cell {w : World} {B N : Nat} {f : Nat → Nat → Bool} (h : LoomF w B N f) {a b : Nat} (ha : a < 6) (hb : b < 6) : w.cell? ⟨B, 1 + a * 6 + b, none⟩ = some (.bool (f a b)) := by
  obtain ⟨cs, h1, h2, h3, h4⟩ := h.obj
  rw [cell_of_row w B _ _ _ _ h1]; exact h4 a b ha hb

theorem LoomF.head {w : World} {B N : Nat} {f : Nat → Nat → Bool} (h : LoomF w B N f) : w.cell? ⟨B, 0, none⟩ = some (.int .i64 (N : Int)) := by
  obtain ⟨cs, h1, h2, h3, h4⟩ := h.obj
  rw [cell_of_row w B _ _ _ _ h1]; exact h3

theorem LoomF.frozen {w : World} {B N : Nat} {f : Nat → Nat → Bool} (h : LoomF w B N f) (j : Nat) : w.frozen? ⟨B, j, none⟩ = false := by
  obtain ⟨cs, h1, _⟩ := h.obj
  exact frozen_of_row _ _ _ _ _ h1

theorem LoomF.keeps {w w' : World} {B N : Nat} {f : Nat → Nat → Bool} {may : Nat → Obj → Prop} (h : LoomF w B N f) (hk : Keeps may w w') (hm : ∀ o, ¬ may B o) : LoomF w' B N f := by
  obtain ⟨cs, h1, h2⟩ := h.obj
  exact ⟨cs, hk.obj _ _ h1 (hm _), h2⟩

theorem LoomF.grew {w w' : World} {B N : Nat} {f : Nat → Nat → Bool} (h : LoomF w B N f) (hg : Grew w w') : LoomF w' B N f := h.keeps (may := fun _ _ => False) hg.keeps (fun _ h => h)

theorem LoomF.set {w : World} {B N : Nat} {f g : Nat → Nat → Bool} (h : LoomF w B N f) {a b : Nat} (ha : a < 6) (hb : b < 6) (hg : ∀ x y, g x y = (f x y || (x == a && y == b))) : LoomF (w.setCell ⟨B, 1 + a * 6 + b, none⟩ (.bool true)) B N g := by
  obtain ⟨cs, h1, h2, h3, h4⟩ := h.obj
  refine ⟨_, heap_setCell_same _ _ _ _ _ _ h1, by simpa using h2, ?_, fun x y hx hy => ?_⟩
  · rw [Array.getElem?_setIfInBounds_ne (by omega)]; exact h3
  · by_cases he : 1 + a * 6 + b = 1 + x * 6 + y
    · obtain ⟨rfl, rfl⟩ : x = a ∧ y = b := by omega
      rw [Array.getElem?_setIfInBounds_self_of_lt (by omega), hg]
      simp
    · rw [Array.getElem?_setIfInBounds_ne he, h4 x y hx hy, hg]
      have : (x == a && y == b) = false := by
        rw [Bool.eq_false_iff]
        intro h
        simp at h
        obtain ⟨rfl, rfl⟩ := h
        exact he rfl
      rw [this, Bool.or_false]

theorem LoomF.loom {w : World} {B N : Nat} {f : Nat → Nat → Bool} {D : Int → Int → Bool} (h : LoomF w B N f) (hN : N ≤ 6) (hf : ∀ a b : Nat, a < N → b < N → f a b = D a b) : Loom w B D N :=
  ⟨h.lt, h.head, fun a b ha hb => by rw [h.cell (by omega) (by omega), hf a b ha hb]⟩

theorem bad_says {D : Int → Int → Bool} (B N c : Nat) (a : Int) (w : World) (hN : N ≤ 6) (hL : Loom w B D N) (hc : w.cell? ⟨c, 0, none⟩ = some (.pointer (some ⟨B, 0, none⟩))) :
    Says 153 #[.pointer (some ⟨c, 0, none⟩)] (.int .i64 a) (!(decide (0 ≤ a) && decide (a ≤ (N : Int) - 1))) w := by
  intro w' hw
  exact bad_any B N c a w' hN (hL.grew hw) ((hw.cell (p := ⟨c, 0, none⟩) (World.block_lt_of_cell? w _ hc)).trans hc)

theorem entered153 : Entered 153 := fun _ _ => by kernel_rfl

end Go.Proofs.YtmohnddglmolgaaGreatDoor.Kw
namespace Go.Proofs.YtmohnddglmolgaaGreatDoor.Kw
open Go.RowKit Go.Lin Go.Lin.Wv Go.Maps

theorem loom_made' (w : World) (N : Nat) (ps : List (Int × Int)) (cs : Array Value) (h : cs = #[.int .i64 (N : Int)] ++ (List.replicate 36 (.bool false)).toArray) : LoomF (w.alloc (.cells cs 224)) w.heap.size N (dpt ps 0 0) := by
  subst h
  refine ⟨_, heap_alloc_new w _, by simp, by simp, fun a b ha hb => ?_⟩
  rw [Array.getElem?_append_right (by simp; omega)]
  simp only [List.size_toArray, List.length_cons, List.length_nil, List.getElem?_toArray]
  rw [List.getElem?_replicate, if_pos (by omega)]
  simp [dpt]

theorem loom_cells (N : Nat) : (#[.int .i64 (N : Int), .bool false, .bool false, .bool false, .bool false, .bool false, .bool false, .bool false, .bool false, .bool false, .bool false, .bool false, .bool false, .bool false, .bool false, .bool false, .bool false, .bool false, .bool false, .bool false, .bool false, .bool false, .bool false, .bool false, .bool false, .bool false, .bool false, .bool false, .bool false, .bool false, .bool false, .bool false, .bool false, .bool false, .bool false, .bool false, .bool false] : Array Value) = #[.int .i64 (N : Int)] ++ (List.replicate 36 (.bool false)).toArray := by
  simp only [List.replicate_succ, List.replicate_zero, List.append_toArray, List.cons_append, List.nil_append]

theorem keeps_at {w w' : World} {B : Nat} (h : Keeps (fun k _ => k = B) w w') {k : Nat} (hk : k < w.heap.size) (hne : k ≠ B) (o : Nat) : w'.cell? ⟨k, o, none⟩ = w.cell? ⟨k, o, none⟩ := by
  have h1 := h.obj k _ (Array.getElem?_eq_getElem hk) hne
  rw [World.cell?_of_block (w := w) (a := ⟨k, o, none⟩)]
  rw [h1, Array.getElem?_eq_getElem hk]

theorem keeps_setB (w : World) (B o : Nat) (u : Value) : Keeps (fun k _ => k = B) w (w.setCell ⟨B, o, none⟩ u) :=
  ⟨rfl, rfl, rfl, by simp, fun k o h hn => by rw [heap_setCell_other _ _ _ _ hn]; exact h⟩

set_option maxHeartbeats 16000000 in
set_option maxRecDepth 20000 in
theorem newLoom_any (v : Value) (L : Lt) (wv : Value) (ws : List (List Int)) (w : World) (hn : L.n ≤ 9223372036854775807) (hv : IsLt w v L) (hw : IsRows Any w wv ws) :
    Calls Tryz.prog 128 #[v, wv] w fun e w' => Grew w w' ∧ ((wrong L ws = 0 ∧ ∃ (B N : Nat), L.n = N ∧ 1 ≤ N ∧ N ≤ 6 ∧ e = .returned (.tuple #[.pointer (some ⟨B, 0, none⟩), .int .i64 0]) ∧ w.heap.size ≤ B ∧ Loom w' B (dep L) N) ∨
      (wrong L ws ≠ 0 ∧ e = .returned (.tuple #[.pointer none, .int .i64 (wrong L ws)]))) := by
  have HVA := hid (fun (y : World) (hy : Grew w y) => valid_any v L y hn (hv.grew hy))
  obtain ⟨s, rfl, hps⟩ := hv
  obtain ⟨W0, hW0, g0, k0, k1, hz⟩ := box2 w (.int .i64 L.n) s 173
  have HVA0 := hid (HVA.out W0 g0)
  have HW := hid hw
  cases hvl : valid L with
  | false =>
    have he : wrong L ws = 30 := by unfold wrong; rw [hvl]; rfl
    have HE := hid he
    rw [hvl] at HVA0
    clear he hvl
    have hg := g0
    go_enter Tryz.func128, Tryz.ntmps128
    go_wp2_with (go_at_call 152; (with_reducible refine HVA0.out.mono ?_); rintro e w1 ⟨rfl, hx⟩; have HX := hid hx; clear hx)
    go_ret2
    exact ⟨grew_trans g0 HX.out, .inr ⟨by rw [HE.out]; decide, by rw [HE.out]; rfl⟩⟩
  | true =>
    obtain ⟨⟨h1, h6⟩, hall⟩ := valid_iff hvl
    obtain ⟨N, hN⟩ : ∃ N : Nat, L.n = N := ⟨L.n.toNat, by omega⟩
    have hN6 : N ≤ 6 := by omega
    have hN1 : 1 ≤ N := by omega
    obtain ⟨pa, pc, rfl, hpm, hpc⟩ := hps
    obtain ⟨m, hm⟩ : ∃ m, L.ps.length = m := ⟨_, rfl⟩
    rw [hvl] at HVA0
    rw [hN] at hW0 k0 HVA0 ⊢
    rw [hm] at hW0 k1 hpm HVA0 ⊢
    have HWR := hid (show wrong L ws = if ws.all (isW L) then 0 else 31 from by unfold wrong; rw [hvl]; rfl)
    have HN := hid hN
    have HM := hid hm
    have HALL := hid hall
    have HPC := hid hpc
    obtain ⟨V, ⟨wa, wc, rfl, hwm, hwc⟩, hrows⟩ := hw
    have HWC := hid hwc
    have HROWS := hid hrows
    obtain ⟨q, hq⟩ : ∃ q, ws.length = q := ⟨_, rfl⟩
    rw [hq] at hwm HWC ⊢
    have HQ := hid hq
    clear hvl h1 h6 hall hn hN hm hpc hwc hrows hq HVA HW
    have hg := g0
    go_enter Tryz.func128, Tryz.ntmps128
    go_wp2_with (go_at_call 152; (with_reducible refine HVA0.out.mono ?_); rintro e w1 ⟨rfl, hx⟩; have HX := hid hx; have kx0 := (hx.cell (p := ⟨w.heap.size, 0, none⟩) hz).trans k0; have kx1 := (hx.cell (p := ⟨w.heap.size, 1, none⟩) hz).trans k1; have hzx := Nat.lt_of_lt_of_le hz hx.size; clear hx)
    obtain ⟨W1, hW1⟩ : ∃ W1, w1.alloc (.cells #[.int .i64 (N : Int), .bool false, .bool false, .bool false, .bool false, .bool false, .bool false, .bool false, .bool false, .bool false, .bool false, .bool false, .bool false, .bool false, .bool false, .bool false, .bool false, .bool false, .bool false, .bool false, .bool false, .bool false, .bool false, .bool false, .bool false, .bool false, .bool false, .bool false, .bool false, .bool false, .bool false, .bool false, .bool false, .bool false, .bool false, .bool false, .bool false] 224) = W1 := ⟨_, rfl⟩
    have hL1 : LoomF W1 w1.heap.size N (dpt L.ps 0 0) := by rw [← hW1]; exact loom_made' w1 N L.ps _ (loom_cells N)
    have g1 : Grew w1 W1 := by rw [← hW1]; exact grew_alloc (grew_refl _) _
    obtain ⟨W2, hW2, g2, p0, hz2⟩ := box1 W1 (.pointer (some ⟨w1.heap.size, 0, none⟩)) 191
    have hs1 : W1.heap.size = w1.heap.size + 1 := by rw [← hW1]; simp
    rw [hW1, ← hs1, hW2]
    generalize Value.agg #[.int .i64 (N : Int), .bool false, .bool false, .bool false, .bool false, .bool false, .bool false, .bool false, .bool false, .bool false, .bool false, .bool false, .bool false, .bool false, .bool false, .bool false, .bool false, .bool false, .bool false, .bool false, .bool false, .bool false, .bool false, .bool false, .bool false, .bool false, .bool false, .bool false, .bool false, .bool false, .bool false, .bool false, .bool false, .bool false, .bool false, .bool false, .bool false] = A
    obtain ⟨B, hB⟩ : ∃ B, w1.heap.size = B := ⟨_, rfl⟩
    obtain ⟨C, hC⟩ : ∃ C, W1.heap.size = C := ⟨_, rfl⟩
    rw [hC] at p0 hz2 ⊢
    rw [hB] at hL1 p0
    have hBC : C = B + 1 := by omega
    have g02 : Grew w1 W2 := grew_trans g1 g2
    have kw0 := (g02.cell (p := ⟨w.heap.size, 0, none⟩) hzx).trans kx0
    have kw1 := (g02.cell (p := ⟨w.heap.size, 1, none⟩) hzx).trans kx1
    have hzw := Nat.lt_of_lt_of_le hzx g02.size
    have HL2 := hid (hL1.grew g2)
    have hBw : w.heap.size < B := by omega
    have H02 := hid (grew_trans g0 (grew_trans HX.out g02))
    have hwB : w.heap.size ≤ B := by omega
    have HB := hid hB
    have hCB : C ≠ B := by omega
    have hwB2 : w.heap.size ≠ B := by omega
    have HBC := hid hBC
    clear hBC hC hW1 hW2 g1 g2 hs1 hL1 kx0 kx1 hzx hW0 k0 k1 hg g02 HVA0 hB
    -- the diagonal
    go_loopg [7, 21] N (fun k _ i wr => ∃ j : Nat, j ≤ N ∧ i = .int .i64 j ∧ k = N - j ∧ Hid (LoomF wr B N (dpt L.ps j 0)) ∧ Hid (Keeps (fun k _ => k = B) W2 wr))
    case atStart => exact ⟨0, by omega, rfl, rfl, HL2, hid (Keeps.refl _ _)⟩
    case round =>
      obtain ⟨j, hj, rfl, hk, HL, HG⟩ := hrel
      have HK := hid hk; clear hk
      rename World => wr
      have qp0 : wr.cell? ⟨C, 0, none⟩ = some (.pointer (some ⟨B, 0, none⟩)) := (keeps_at HG.out hz2 hCB 0).trans p0
      have qw0 := (keeps_at HG.out hzw hwB2 0).trans kw0
      have qw1 := (keeps_at HG.out hzw hwB2 1).trans kw1
      have hBl := HL.out.lt
      by_cases hlt : j < N
      · have hj6 : j < 6 := by omega
        have qc := HL.out.cell hj6 hj6
        have qf := HL.out.frozen (1 + j * 6 + j)
        go_wp2
        go_roundg (N - (j + 1))
        case measure => have := HK.out; omega
        case rel => exact ⟨j + 1, by omega, by go_num, rfl, hid (HL.out.set hj6 hj6 (fun a b => dpt_diag a b)), hid (HG.out.trans (keeps_setB _ _ _ _))⟩
      · obtain rfl : N = j := by omega
        have HBW := hid hBw
        have HL2' := HL2
        clear HL2
        go_wp2
        -- the pairs
        go_loopg [9, 35] m (fun k _ i ws => ∃ j : Nat, j ≤ m ∧ i = .int .i64 j ∧ k = m - j ∧ Hid (LoomF ws B N (dpt L.ps N j)) ∧ Hid (Keeps (fun k _ => k = B) W2 ws))
        case atStart => exact ⟨0, by omega, rfl, rfl, HL, HG⟩
        case round =>
          clear HL HG qp0 qw0 qw1 hBl HK hj hlt
          obtain ⟨j, hj, rfl, hk, HL, HG⟩ := hrel
          have HK := hid hk; clear hk
          rename World => wr
          have qp0 : wr.cell? ⟨C, 0, none⟩ = some (.pointer (some ⟨B, 0, none⟩)) := (keeps_at HG.out hz2 hCB 0).trans p0
          have qw0 := (keeps_at HG.out hzw hwB2 0).trans kw0
          have qw1 := (keeps_at HG.out hzw hwB2 1).trans kw1
          have hBl := HL.out.lt
          by_cases hlt : j < m
          · obtain ⟨x, hx⟩ : ∃ x, L.ps[j]? = some x := ⟨_, List.getElem?_eq_getElem (by rw [HM.out]; exact hlt)⟩
            obtain ⟨hx0, hx1, hx2⟩ := HALL.out x (List.mem_of_getElem? hx)
            rw [HN.out] at hx2
            obtain ⟨x1, x2⟩ := x
            simp only at hx0 hx1 hx2
            obtain ⟨a, rfl⟩ : ∃ a : Nat, x1 = a := ⟨x1.toNat, by omega⟩
            obtain ⟨b, rfl⟩ : ∃ b : Nat, x2 = b := ⟨x2.toNat, by omega⟩
            obtain ⟨bb, off, rfl, hpa⟩ := HPC.out j _ hx
            have hbb := hpa.lt
            have hbbB : bb ≠ B := by omega
            have hbb2 := Nat.lt_of_lt_of_le hbb H02.out.size
            have c0 := (keeps_at HG.out hbb2 hbbB _).trans ((H02.out.cell (p := ⟨bb, off + j * 2, none⟩) hbb).trans hpa.c0)
            have c1 := (keeps_at HG.out hbb2 hbbB _).trans ((H02.out.cell (p := ⟨bb, off + j * 2 + 1, none⟩) hbb).trans hpa.c1)
            have hbb3 := Nat.lt_of_lt_of_le hbb2 HG.out.size
            simp only at c0 c1
            have ha6 : a < 6 := by omega
            have hb6 : b < 6 := by omega
            have ia0 : (0 : Int) ≤ (a : Int) := by omega
            have ia6 : (a : Int) < 6 := by omega
            have ib0 : (0 : Int) ≤ (b : Int) := by omega
            have ib6 : (b : Int) < 6 := by omega
            have HPP := hid (fun (u v : Nat) => dpt_pair (n := N) hx u v)
            have hne1 : ¬ (1 + a * 6 + b = 1 + b * 6 + a) := by omega
            have hne2 : ¬ (1 + b * 6 + a = 1 + a * 6 + b) := by omega
            obtain ⟨W3, hW3, g3, l0, l1, hz3⟩ := box2 wr (.int .i64 (a : Int)) (.int .i64 (b : Int)) 170
            have HL3 := hid (HL.out.grew g3)
            have HG3 := hid (HG.out.trans g3.keeps)
            have rp0 := (g3.cell (p := ⟨C, 0, none⟩) (Nat.lt_of_lt_of_le hz2 HG.out.size)).trans qp0
            have q1 := HL3.out.cell ha6 hb6
            have q2 := HL3.out.cell hb6 ha6
            have f1 := HL3.out.frozen (1 + a * 6 + b)
            have f2 := HL3.out.frozen (1 + b * 6 + a)
            have hBw3 : wr.heap.size ≠ B := by omega
            have hB3 := HL3.out.lt
            have HX2 := hid hx2
            have HX1 := hid hx1
            clear hx hpa hx0 hx1 hx2
            go_wp2
            go_region_held3 (fun w' => ∀ b o, b ≠ B → w'.cell? ⟨b, o, none⟩ = W3.cell? ⟨b, o, none⟩) (first | exact cell_off_set (by assumption) | exact cell_off_set (cell_off_set (by assumption)) | (intro b o hb; rfl)) (fail)
            all_goals (
              go_wp2
              go_roundg (m - (j + 1))
              case measure => have := HK.out; omega
              case rel => exact ⟨j + 1, by omega, by go_num, rfl, hid (((HL3.out.set ha6 hb6 (fun _ _ => rfl)).set hb6 ha6 (fun u v => HPP.out u v)).grew (grew_drew (grew_refl _))), hid (((HG3.out.trans (keeps_setB _ _ _ _)).trans (keeps_setB _ _ _ _)).drew)⟩)
          · obtain rfl : m = j := by omega
            have hLm := HL.out.loom (D := dep L) hN6 (fun a b ha _ => by rw [← HM.out]; exact dpt_dep a b ha)
            have HLM := hid hLm
            have H03 := hid (H02.out.trans (HG.out.below (B := w.heap.size) (Nat.le_trans hwB (by have := HL2'.out.lt; omega)) (fun k o e => by omega)))
            clear hLm
            go_wp2
            go_loopg [11, 60] q (fun k _ i wt => ∃ j : Nat, j ≤ q ∧ i = .int .i64 j ∧ k = q - j ∧ Hid ((ws.take j).all (isW L) = true) ∧ Hid (Grew wr wt))
            case atStart => exact ⟨0, by omega, rfl, rfl, hid rfl, hid (grew_refl _)⟩
            case round =>
              clear HL HG HK hj hlt qw0 qw1
              obtain ⟨j, hj, rfl, hk, HA, HG⟩ := hrel
              have HK := hid hk; clear hk
              rename World => wt
              have tp0 : wt.cell? ⟨C, 0, none⟩ = some (.pointer (some ⟨B, 0, none⟩)) := (HG.out.cell (p := ⟨C, 0, none⟩) (World.block_lt_of_cell? wr _ qp0)).trans qp0
              by_cases hlt : j < q
              · obtain ⟨wb, wof, wo, hwa, hwob, -, hwcc⟩ := HWC.out j hlt
                subst hwa
                have hjw : j < ws.length := by rw [HQ.out]; exact hlt
                have hin := HROWS.out j (by rw [HQ.out]; exact hlt)
                obtain ⟨va, vc, hVj⟩ : ∃ va vc, V j = .slice va (nthL ws j).length vc := by obtain ⟨va, vc, h, _⟩ := hin; exact ⟨va, vc, h⟩
                have htk := take_succ_nthL hjw
                have hmem : nthL ws j ∈ ws := by rw [nthL_lt hjw]; exact List.getElem_mem _
                obtain ⟨x, hx⟩ : ∃ x, nthL ws j = x := ⟨_, rfl⟩
                rw [hx] at hin hVj htk hmem
                rw [hVj] at hwcc hin
                have hwl := lt_of_obj hwob
                have hg := H03.out.trans (HG.out.mono (by have := H03.out.size; omega))
                have hcw := (hg.cell (p := ⟨wb, wof + j, none⟩) hwl).trans hwcc
                have hwl2 := Nat.lt_of_lt_of_le hwl hg.size
                have hxl : x.length ≤ 9223372036854775807 := by obtain ⟨_, _, _, h, _⟩ := hin; exact h
                have hcf := containsFunc_any 153 #[.pointer (some ⟨C, 0, none⟩)] (fun a => !(decide (0 ≤ a) && decide (a ≤ (N : Int) - 1))) _ x wt entered153 (Reads.grew hin hg) (fun i hi => bad_says B N C (nth x i) wt hN6 (HLM.out.grew HG.out) tp0)
                have hiw : isW L x = (decide (x.length ≤ 10) && !x.any (fun a => !(decide (0 ≤ a) && decide (a ≤ (N : Int) - 1)))) := by
                  unfold isW
                  congr 1
                  rw [List.all_eq_not_any_not]
                  unfold isL
                  rw [HN.out]
                obtain ⟨r, hr⟩ : ∃ r, x.any (fun a => !(decide (0 ≤ a) && decide (a ≤ (N : Int) - 1))) = r := ⟨_, rfl⟩
                rw [hr] at hcf hiw
                have HCF := hid hcf
                have HTK := hid htk
                have hbadw : isW L x = false → wrong L ws = 31 := fun h => by
                  rw [HWR.out, show ws.all (isW L) = false from List.all_eq_false.2 ⟨x, hmem, by rw [h]; simp⟩]; rfl
                have HGW := hid hg
                obtain ⟨xl, hxl2⟩ : ∃ xl, x.length = xl := ⟨_, rfl⟩
                rw [hxl2] at hiw hcw hxl HCF
                clear hin hVj htk hmem hx hwcc hwob hcf hr hjw hxl2
                by_cases h10 : xl ≤ 10
                · have h10' : ¬ (10 : Int) < (xl : Int) := by omega
                  cases r
                  · have HIW := hid (show isW L x = true by rw [hiw]; simpa using h10)
                    clear hiw hbadw
                    go_wp2_with (go_at_call 99; (with_reducible refine HCF.out.mono ?_); rintro e w5 ⟨rfl, hx5⟩; have HX5 := hid hx5; clear hx5)
                    go_roundg (q - (j + 1))
                    case measure => have := HK.out; omega
                    case rel => exact ⟨j + 1, by omega, by go_num, rfl, hid (by rw [HTK.out, List.all_append, HA.out]; simp [HIW.out]), hid (grew_trans HG.out HX5.out)⟩
                  · have HIW := hid (hbadw (by rw [hiw]; simp))
                    clear hiw hbadw
                    go_wp2_with (go_at_call 99; (with_reducible refine HCF.out.mono ?_); rintro e w5 ⟨rfl, hx5⟩; have HX5 := hid hx5; clear hx5)
                    go_ret2
                    exact ⟨HGW.out.trans (HX5.out.mono HGW.out.size), .inr ⟨by rw [HIW.out]; decide, by rw [HIW.out]; rfl⟩⟩
                · have h10' : (10 : Int) < (xl : Int) := by omega
                  have HIW := hid (hbadw (by rw [hiw]; simp; omega))
                  clear hiw hbadw
                  go_wp2
                  go_ret2
                  exact ⟨HGW.out, .inr ⟨by rw [HIW.out]; decide, by rw [HIW.out]; rfl⟩⟩
              · obtain rfl : q = j := by omega
                have HWZ := hid (show wrong L ws = 0 by
                  have h := HA.out
                  rw [List.take_of_length_le (by rw [HQ.out]; exact Nat.le_refl _)] at h
                  rw [HWR.out, h]; rfl)
                go_wp2
                go_ret2
                exact ⟨H03.out.trans (HG.out.mono (by have := H03.out.size; omega)), .inl ⟨HWZ.out, B, N, rfl, hN1, hN6, rfl, hwB, HLM.out.grew HG.out⟩⟩

end Go.Proofs.YtmohnddglmolgaaGreatDoor.Kw
