/- Walks: slices.IndexFunc, slices.ContainsFunc, slices.Equal, slices.Clone of Go's library, at ints and lists of ints. -/
import Derived.Test.YtnebpcpihldllaaWRun
namespace Go.Proofs.Ytnebpcpihldllaa
open Go.RowKit Go.Lin

/-- The function g, with what it has captured, says p of x, in whatever later world. -/
def Says (g : Nat) (caps : Array Value) (x : Value) (p : Bool) (w : World) : Prop :=
  ∀ w', Grew w w' → Calls Try.prog g (#[x] ++ caps) w' fun e w'' => e = .returned (.bool p) ∧ Grew w' w''

def Entered (g : Nat) : Prop := ∀ args w, (callFunc g args).run Try.prog w = .ok (.enter g args) w

theorem Says.grew {g : Nat} {caps : Array Value} {x : Value} {p : Bool} {w w' : World} (h : Says g caps x p w) (hg : Grew w w') : Says g caps x p w' := fun w2 h2 => h w2 (grew_trans hg h2)

set_option maxHeartbeats 1000000 in
theorem indexFunc_any (g : Nat) (caps : Array Value) (p : Int → Bool) (v : Value) (xs : List Int) (w : World) (hcf : Entered g) (hx : IsInts Any w v xs) (hp : ∀ i, i < xs.length → Says g caps (.int .i64 (nth xs i)) (p (nth xs i)) w) :
    Calls Try.prog 110 #[v, .func (.func g) #[] caps] w fun e w' => ∃ r : Int, e = .returned (.int .i64 r) ∧ Hid (decide (0 ≤ r) = xs.any p) ∧ Grew w w' := by
  obtain ⟨a, cap, rfl, hm, hc⟩ := hx
  have HC := hid hc; clear hc
  have HP := hid hp; clear hp
  have hcf' : ∀ args w, (callFunc g args).run Try.prog w = .ok (.enter g args) w := hcf
  clear hcf
  go_enter Try.func110, Try.ntmps110
  go_wp2
  go_loopg [5, 8] (xs.length) (fun k _ i wr => ∃ j : Nat, j ≤ xs.length ∧ i = .int .i64 j ∧ k = xs.length - j ∧ Hid (∀ t, t < j → p (nth xs t) = false) ∧ Grew w wr)
  case atStart => exact ⟨0, Nat.zero_le _, rfl, rfl, hid (fun t ht => by omega), grew_refl _⟩
  case round =>
    obtain ⟨j, hj, rfl, hk, HT, hg⟩ := hrel
    have HK := hid hk; clear hk
    by_cases hlt : j < xs.length
    · obtain ⟨b, off, o, rfl, hb, _, hcj⟩ := HC.out j hlt
      have hbl := lt_of_obj hb
      have hcj0 := (hg.cell (p := ⟨b, off + j, none⟩) hbl).trans hcj
      clear hb hcj
      have HS := hid (HP.out j hlt)
      by_cases hop : p (nth xs j) = true
      · have HOP := hid hop
        go_wp2_with (refine (show Calls _ _ _ _ _ from HS.out _ hg).mono ?_; rintro e w1 ⟨rfl, hx⟩; replace hg := grew_trans hg hx; have hc := (bcell hg).1)
        go_ret
        refine ⟨(j : Int), rfl, hid ?_, hg⟩
        rw [show decide ((0 : Int) ≤ (j : Int)) = true by simp]
        refine (List.any_eq_true.2 ⟨nth xs j, ?_, HOP.out⟩).symm
        rw [nth_lt hlt]; exact List.getElem_mem hlt
      · have hop' : p (nth xs j) = false := by simpa using hop
        go_wp2_with (refine (show Calls _ _ _ _ _ from HS.out _ hg).mono ?_; rintro e w1 ⟨rfl, hx⟩; replace hg := grew_trans hg hx; have hc := (bcell hg).1)
        go_roundg (xs.length - (j + 1))
        case measure => have := HK.out; omega
        case rel => exact ⟨j + 1, by omega, by go_num, rfl, hid (lt_succ_all HT.out hop'), hg⟩
    · obtain rfl : j = xs.length := by omega
      go_wp2
      go_ret
      refine ⟨-1, rfl, hid ?_, hg⟩
      rw [show decide ((0 : Int) ≤ -1) = false by decide]
      refine (List.any_eq_false.2 ?_).symm
      intro x hx
      obtain ⟨i, hi, rfl⟩ := List.getElem_of_mem hx
      have := HT.out i hi
      rw [nth_lt hi] at this
      simp [this]

set_option maxHeartbeats 1000000 in
theorem containsFunc_any (g : Nat) (caps : Array Value) (p : Int → Bool) (v : Value) (xs : List Int) (w : World) (hcf : Entered g) (hx : IsInts Any w v xs) (hp : ∀ i, i < xs.length → Says g caps (.int .i64 (nth xs i)) (p (nth xs i)) w) :
    Calls Try.prog 97 #[v, .func (.func g) #[] caps] w fun e w' => e = .returned (.bool (xs.any p)) ∧ Grew w w' := by
  have h := indexFunc_any g caps p v xs w hcf hx hp
  have H := hid h; clear h hcf hx hp
  go_enter Try.func97, Try.ntmps97
  go_wp2_with (go_at_call 110; with_reducible refine H.out.mono ?_; rintro e w1 ⟨r, rfl, hr, hg⟩)
  go_ret
  exact ⟨ret_bool hr.out, hg⟩

set_option maxHeartbeats 1000000 in
theorem slicesEqual_any (v u : Value) (xs ys : List Int) (w : World) (hx : IsInts Any w v xs) (hy : IsInts Any w u ys) :
    Calls Try.prog 79 #[v, u] w fun e w' => e = .returned (.bool (sameL xs ys)) ∧ Grew w w' := by
  obtain ⟨a, cap, rfl, hm, hc⟩ := hx
  obtain ⟨a2, cap2, rfl, hm2, hc2⟩ := hy
  have HC := hid hc; clear hc
  have HC2 := hid hc2; clear hc2
  by_cases hl : xs.length = ys.length
  · have hne : ((xs.length : Int) != (ys.length : Int)) = false := by simp [hl]
    have HL := hid hl; clear hl
    go_enter Try.func79, Try.ntmps79
    go_wp2
    go_loopg [5, 13] (xs.length) (fun g _ i wr => ∃ k : Nat, k ≤ xs.length ∧ i = .int .i64 k ∧ g = xs.length - k ∧ Hid (∀ t, t < k → nth xs t = nth ys t) ∧ ∃ q, wr = w.drewN q)
    case atStart => exact ⟨0, Nat.zero_le _, rfl, rfl, hid (fun t ht => by omega), 0, rfl⟩
    case round =>
      obtain ⟨k, hk, rfl, hg, HT, q, rfl⟩ := hrel
      have HG := hid hg; clear hg
      by_cases hlt : k < xs.length
      · obtain ⟨b, off, o, rfl, hb, _, hcx⟩ := HC.out k hlt
        obtain ⟨b2, off2, o2, rfl, hb2, _, hcy⟩ := HC2.out k (by have := HL.out; omega)
        have hlt2 : k < ys.length := by have := HL.out; omega
        clear hb hb2
        by_cases he : nth xs k = nth ys k
        · have hb : (nth xs k != nth ys k) = false := by simp [he]
          have HE := hid he; clear he
          go_wp2
          go_quiet (fail)
          go_wp2
          go_roundg (xs.length - (k + 1))
          case measure => have := HG.out; omega
          case rel => exact ⟨k + 1, by omega, by go_num, rfl, hid (lt_succ_all HT.out HE.out), _, rfl⟩
        · have hb : (nth xs k != nth ys k) = true := by simpa using he
          have HE := hid he; clear he
          go_wp2
          go_quiet (fail)
          go_wp2
          go_ret
          exact ⟨ret_bool (sameL_ne HE.out).symm, (by repeat' (first | exact grew_refl _ | assumption | refine grew_alloc ?_ _ | refine Below.setCell ?_ (by (try simp); omega) _ | refine grew_drewN ?_ _ | refine grew_drew ?_ | refine grew_trans ?_ (by assumption)))⟩
      · obtain rfl : k = xs.length := by omega
        go_wp2
        go_ret
        exact ⟨ret_bool (sameL_eq HL.out HT.out).symm, (by repeat' (first | exact grew_refl _ | assumption | refine grew_alloc ?_ _ | refine Below.setCell ?_ (by (try simp); omega) _ | refine grew_drewN ?_ _ | refine grew_drew ?_ | refine grew_trans ?_ (by assumption)))⟩
  · have HL := hid hl
    go_enter Try.func79, Try.ntmps79
    go_wp2
    go_ret
    exact ⟨ret_bool (sameL_len HL.out).symm, (by repeat' (first | exact grew_refl _ | assumption | refine grew_alloc ?_ _ | refine Below.setCell ?_ (by (try simp); omega) _ | refine grew_drewN ?_ _ | refine grew_drew ?_ | refine grew_trans ?_ (by assumption)))⟩

set_option maxHeartbeats 1000000 in
theorem between_any (lo n hi : Int) (w : World) :
    Calls Try.prog 80 #[.int .i64 lo, .int .i64 n, .int .i64 hi] w fun e w' => e = .returned (.bool (decide (lo ≤ n ∧ n ≤ hi))) ∧ Grew w w' := by
  obtain ⟨r, hr⟩ : ∃ r, decide (lo ≤ n ∧ n ≤ hi) = r := ⟨_, rfl⟩
  rw [hr]
  have HR := hid hr; clear hr
  go_enter Try.func80, Try.ntmps80
  go_wp2
  all_goals (go_ret; refine ⟨ret_bool ?_, (by repeat' (first | exact grew_refl _ | assumption | refine grew_alloc ?_ _ | refine Below.setCell ?_ (by (try simp); omega) _ | refine grew_drewN ?_ _ | refine grew_drew ?_ | refine grew_trans ?_ (by assumption)))⟩; rw [← HR.out]; rw [Bool.eq_iff_iff]; simp; try omega)

theorem entered102 : Entered 102 := fun _ _ => by kernel_rfl
theorem entered109 : Entered 109 := fun _ _ => by kernel_rfl
theorem entered105 : Entered 105 := fun _ _ => by kernel_rfl
theorem entered104 : Entered 104 := fun _ _ => by kernel_rfl
end Go.Proofs.Ytnebpcpihldllaa
