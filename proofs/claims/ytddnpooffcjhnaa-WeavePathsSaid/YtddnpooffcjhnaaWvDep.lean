/- Walks: the reference's depend, free. -/
import Derived.Test.YtddnpooffcjhnaaWvLeaf
namespace Go.Lin.Wv

/-- What depends by the first j pairs. -/
def depTo (L : Lt) (a b : Int) (j : Nat) : Bool := a == b || (L.ps.take j).any (hits a b)

theorem depTo_succ {L : Lt} {a b : Int} {j : Nat} {x : Int × Int} (h : L.ps[j]? = some x) : depTo L a b (j + 1) = (depTo L a b j || (((x.1 == a) && (x.2 == b)) || ((x.1 == b) && (x.2 == a)))) := by
  unfold depTo
  rw [List.take_add_one, h]
  simp [hits, Bool.or_assoc]

theorem depTo_zero (L : Lt) (a b : Int) : depTo L a b 0 = (a == b) := by simp [depTo]
theorem depTo_all (L : Lt) (a b : Int) : depTo L a b L.ps.length = dep L a b := by unfold depTo dep; rw [List.take_length]

end Go.Lin.Wv
namespace Go.Proofs.Ytddnpooffcjhnaa
open Go.RowKit Go.Lin Go.Lin.Wv

set_option maxHeartbeats 4000000 in
theorem depend_any (v : Value) (L : Lt) (a b : Int) (w : World) (hv : IsLt w v L) : Calls Try.prog 74 #[v, .int .i64 a, .int .i64 b] w fun e w' => e = .returned (.bool (dep L a b)) ∧ Grew w w' := by
  obtain ⟨s, rfl, va, vc, rfl, hm, hdd⟩ := hv
  obtain ⟨m, hmm⟩ : ∃ m, L.ps.length = m := ⟨_, rfl⟩
  obtain ⟨W0, hW0, g0, k0, k1, hz⟩ := box2 w (.int .i64 L.n) (.slice va m vc) 24
  have hall := depTo_all L a b
  rw [hmm] at hm hall ⊢
  have HM := hid hmm
  have HDD := hid hdd
  have HALL := hid hall
  have hz0 := depTo_zero L a b
  obtain ⟨q, hq⟩ : ∃ q, (a == b) = q := ⟨_, rfl⟩
  rw [hq] at hz0
  have HZ0 := hid hz0
  have hg := g0
  clear hmm hdd hall hz0
  go_enter Try.func74, Try.ntmps74
  go_wp2
  go_loopg [7, 9, 16] m (fun k is _ i wr => ∃ (j : Nat) (p : Bool), j ≤ m ∧ i = .int .i64 j ∧ k = m - j ∧ is = .bool p ∧ Hid (depTo L a b j = p) ∧ Hid (Grew W0 wr))
  case atStart => exact ⟨0, q, by omega, rfl, rfl, rfl, HZ0, hid (grew_refl _)⟩
  case round =>
    obtain ⟨j, p, hj, rfl, hk, rfl, HP, HG⟩ := hrel
    have HK := hid hk; clear hk
    rename World => wr
    by_cases hlt : j < m
    · obtain ⟨x, hx⟩ : ∃ x, L.ps[j]? = some x := ⟨_, List.getElem?_eq_getElem (by rw [HM.out]; exact hlt)⟩
      obtain ⟨bb, off, rfl, hpa⟩ := HDD.out j x hx
      have hpa' := (hpa.grew hpa.lt g0)
      have hpa2 := (hpa'.grew hpa'.lt HG.out)
      have c0 := hpa2.c0
      have c1 := hpa2.c1
      have hlt2 := hpa2.lt
      have hsucc := depTo_succ (a := a) (b := b) hx
      rw [HP.out] at hsucc
      obtain ⟨x1, x2⟩ := x
      simp only at c0 c1 hsucc
      obtain ⟨p1, hp1⟩ : ∃ q, (x1 == a) = q := ⟨_, rfl⟩
      obtain ⟨p2, hp2⟩ : ∃ q, (x2 == b) = q := ⟨_, rfl⟩
      obtain ⟨p3, hp3⟩ : ∃ q, (x1 == b) = q := ⟨_, rfl⟩
      obtain ⟨p4, hp4⟩ : ∃ q, (x2 == a) = q := ⟨_, rfl⟩
      rw [hp1, hp2, hp3, hp4] at hsucc
      obtain ⟨r, hr⟩ : ∃ r, (p || (p1 && p2 || p3 && p4)) = r := ⟨_, rfl⟩
      rw [hr] at hsucc
      have HS := hid hsucc
      have hg := HG.out
      clear hsucc hx hpa hpa' hpa2
      cases p <;> cases p1 <;> cases p2 <;> cases p3 <;> cases p4
      all_goals (
        subst hr
        go_wp2
        go_roundg (m - (j + 1))
        case measure => have := HK.out; omega
        case rel => exact ⟨j + 1, _, by omega, by go_num, rfl, rfl, HS, hid (grew_alloc HG.out _)⟩)
    · obtain rfl : m = j := by omega
      have hpe := HP.out.symm.trans HALL.out
      have HPE := hid hpe
      clear hpe
      go_wp2
      go_ret
      exact ⟨by rw [HPE.out]; rfl, grew_trans g0 HG.out⟩

/-- What the program says for an index. -/
def ix : Option Nat → Int
  | none => -1
  | some i => i

theorem free_drop {D : Int → Int → Bool} {w : List Int} {a b : Int} {j : Nat} (h : w[j]? = some b) : free D (w.drop j) a = if b = a then some 0 else if D a b then none else (free D (w.drop (j + 1)) a).map (· + 1) := by
  have : w.drop j = b :: w.drop (j + 1) := by
    obtain ⟨h1, h2⟩ := List.getElem?_eq_some_iff.1 h
    rw [← h2]
    exact List.drop_eq_getElem_cons h1
  rw [this]
  rfl

set_option maxHeartbeats 4000000 in
theorem free_any (v : Value) (L : Lt) (wv : Value) (x : List Int) (a : Int) (w : World) (hv : IsLt w v L) (hx : IsInts Any w wv x) : Calls Try.prog 98 #[v, wv, .int .i64 a] w fun e w' => e = .returned (.int .i64 (ix (free (dep L) x a))) ∧ Grew w w' := by
  have HDEP := hid (fun (b : Int) (y : World) (hy : Grew w y) => depend_any v L a b y (hv.grew hy))
  obtain ⟨s, rfl, hps⟩ := hv
  obtain ⟨W0, hW0, g0, k0, k1, hz⟩ := box2 w (.int .i64 L.n) s 24
  obtain ⟨va, vc, rfl, hm, hc⟩ := hx
  obtain ⟨m, hmm⟩ : ∃ m, x.length = m := ⟨_, rfl⟩
  obtain ⟨r, hr⟩ : ∃ r, free (dep L) x a = r := ⟨_, rfl⟩
  rw [hr]
  rw [hmm] at hm hc ⊢
  have HM := hid hmm
  have HC := hid hc
  have HR := hid (show free (dep L) (x.drop 0) a = r by simpa using hr)
  have hg := g0
  clear hmm hc hr hps
  go_enter Try.func98, Try.ntmps98
  go_wp2
  go_loopg [7, 8, 11] m (fun k _ _ i wr => ∃ (j : Nat) (q : Option Nat), j ≤ m ∧ i = .int .i64 j ∧ k = m - j ∧ Hid (free (dep L) (x.drop j) a = q) ∧ Hid (r = q.map (· + j)) ∧ Hid (Grew W0 wr))
  case atStart => exact ⟨0, r, by omega, rfl, rfl, HR, hid (by simp), hid (grew_refl _)⟩
  case round =>
    obtain ⟨j, q, hj, rfl, hk, HQ, HRQ, HG⟩ := hrel
    have HK := hid hk; clear hk
    rename World => wr
    by_cases hlt : j < m
    · obtain ⟨b, off, o, hva, hob, -, hcc⟩ := HC.out j hlt
      subst hva
      have hbl := lt_of_obj hob
      have hxj : x[j]? = some (nth x j) := by rw [nth_lt (by rw [HM.out]; exact hlt)]; exact List.getElem?_eq_getElem _
      replace hcc : _ = some (Value.int .i64 (nth x j)) := hcc
      have hfd := free_drop (D := dep L) (a := a) hxj
      obtain ⟨y, hy⟩ : ∃ y, nth x j = y := ⟨_, rfl⟩
      rw [hy] at hcc hfd
      have hg := grew_trans g0 HG.out
      have hcw := (hg.cell (p := ⟨b, off + j, none⟩) hbl).trans hcc
      have hbw := Nat.lt_of_lt_of_le hbl hg.size
      have kw0 := (HG.out.cell (p := ⟨w.heap.size, 0, none⟩) hz).trans k0
      have kw1 := (HG.out.cell (p := ⟨w.heap.size, 1, none⟩) hz).trans k1
      have hzw := Nat.lt_of_lt_of_le hz HG.out.size
      clear hob hxj hcc hy
      cases hya : (y == a)
      · have hne : y ≠ a := by simpa using hya
        rw [if_neg hne] at hfd
        have HD := hid (HDEP.out y wr hg)
        obtain ⟨d, hd⟩ : ∃ d, dep L a y = d := ⟨_, rfl⟩
        rw [hd] at HD hfd
        cases d
        · have HFD := hid hfd
          clear hfd hd hne
          go_wp2_with (go_at_call 74; with_reducible refine HD.out.mono ?_; rintro e w1 ⟨rfl, hx1⟩; have HX1 := hid hx1; clear hx1)
          go_roundg (m - (j + 1))
          case measure => have := HK.out; omega
          case rel =>
            refine ⟨j + 1, free (dep L) (x.drop (j + 1)) a, by omega, by go_num, rfl, hid rfl, hid ?_, hid (grew_trans HG.out HX1.out)⟩
            rw [HRQ.out, ← HQ.out, HFD.out]
            simp [Function.comp_def, Nat.add_comm, Nat.add_left_comm]
        · have hq : q = none := by rw [← HQ.out, hfd]; rfl
          have hrn : r = none := by rw [HRQ.out, hq]; rfl
          clear hfd hd hne hq
          have HRN := hid hrn
          clear hrn
          go_wp2_with (go_at_call 74; with_reducible refine HD.out.mono ?_; rintro e w1 ⟨rfl, hx1⟩; have HX1 := hid hx1; clear hx1)
          go_ret
          exact ⟨by rw [HRN.out]; rfl, grew_trans hg HX1.out⟩
      · have he : y = a := by simpa using hya
        have hq : q = some 0 := by rw [← HQ.out, hfd, if_pos he]
        have hrn : r = some j := by rw [HRQ.out, hq]; simp
        have HRN := hid hrn
        clear hfd he hq hrn
        go_wp2
        go_ret
        exact ⟨by rw [HRN.out]; rfl, hg⟩
    · obtain rfl : m = j := by omega
      have hq : q = none := by rw [← HQ.out, List.drop_of_length_le (by rw [HM.out]; exact Nat.le_refl _)]; rfl
      have hrn : r = none := by rw [HRQ.out, hq]; rfl
      have HRN := hid hrn
      clear hq hrn
      go_wp2
      go_ret
      exact ⟨by rw [HRN.out]; rfl, grew_trans g0 HG.out⟩

end Go.Proofs.Ytddnpooffcjhnaa
