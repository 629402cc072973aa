/- Walks: slices.IndexFunc and ContainsFunc at ints with a pure function. -/
import Derived.Test.YtddnpooffcjhnaaWvBad
namespace Go.Proofs.Ytddnpooffcjhnaa
open Go.RowKit Go.Lin Go.Lin.Wv




/-- The function g, with what it has captured, says p of x, in whatever later world. -/
def Says (g : Nat) (caps : Array Value) (x : Value) (p : Bool) (w : World) : Prop :=
  ∀ w', Grew w w' → Calls Try.prog g (#[x] ++ caps) w' fun e w'' => e = .returned (.bool p) ∧ Grew w' w''

def Entered (g : Nat) : Prop := ∀ args w, (callFunc g args).run Try.prog w = .ok (.enter g args) w

theorem Says.grew {g : Nat} {caps : Array Value} {x : Value} {p : Bool} {w w' : World} (h : Says g caps x p w) (hg : Grew w w') : Says g caps x p w' := fun w2 h2 => h w2 (grew_trans hg h2)

set_option maxHeartbeats 1000000 in
theorem indexFunc_any (g : Nat) (caps : Array Value) (p : Int → Bool) (v : Value) (xs : List Int) (w : World) (hcf : Entered g) (hx : IsInts Any w v xs) (hp : ∀ i, i < xs.length → Says g caps (.int .i64 (nth xs i)) (p (nth xs i)) w) :
    Calls Try.prog 101 #[v, .func (.func g) #[] caps] w fun e w' => ∃ r : Int, e = .returned (.int .i64 r) ∧ Hid (decide (0 ≤ r) = xs.any p) ∧ Grew w w' := by
  obtain ⟨a, cap, rfl, hm, hc⟩ := hx
  have HC := hid hc; clear hc
  have HP := hid hp; clear hp
  have hcf' : ∀ args w, (callFunc g args).run Try.prog w = .ok (.enter g args) w := hcf
  clear hcf
  go_enter Try.func101, Try.ntmps101
  go_wp2
  go_loopg [5, 8] (xs.length) (fun k _ i wr => ∃ j : Nat, j ≤ xs.length ∧ i = .int .i64 j ∧ k = xs.length - j ∧ Hid (∀ t, t < j → p (nth xs t) = false) ∧ Grew w wr)
  case atStart => exact ⟨0, Nat.zero_le _, rfl, rfl, hid (fun t ht => by omega), grew_refl _⟩
  case round =>
    obtain ⟨j, hj, rfl, hk, HT, hg⟩ := hrel
    have HK := hid hk; clear hk
    by_cases hlt : j < xs.length
    · obtain ⟨b, off, o, rfl, hb, _, hcj⟩ := HC.out j hlt
      have hbl := lt_of_obj hb
      have hcj0 := (hg.cell (p := ⟨b, off + j, none⟩) hbl).trans hcj
      clear hb hcj
      have HS := hid (HP.out j hlt)
      by_cases hop : p (nth xs j) = true
      · have HOP := hid hop
        go_wp2_with (refine (show Calls _ _ _ _ _ from HS.out _ hg).mono ?_; rintro e w1 ⟨rfl, hx⟩; replace hg := grew_trans hg hx; have hc := (bcell hg).1)
        go_ret
        refine ⟨(j : Int), rfl, hid ?_, hg⟩
        rw [show decide ((0 : Int) ≤ (j : Int)) = true by simp]
        refine (List.any_eq_true.2 ⟨nth xs j, ?_, HOP.out⟩).symm
        rw [nth_lt hlt]; exact List.getElem_mem hlt
      · have hop' : p (nth xs j) = false := by simpa using hop
        go_wp2_with (refine (show Calls _ _ _ _ _ from HS.out _ hg).mono ?_; rintro e w1 ⟨rfl, hx⟩; replace hg := grew_trans hg hx; have hc := (bcell hg).1)
        go_roundg (xs.length - (j + 1))
        case measure => have := HK.out; omega
        case rel => exact ⟨j + 1, by omega, by go_num, rfl, hid (lt_succ_all HT.out hop'), hg⟩
    · obtain rfl : j = xs.length := by omega
      go_wp2
      go_ret
      refine ⟨-1, rfl, hid ?_, hg⟩
      rw [show decide ((0 : Int) ≤ -1) = false by decide]
      refine (List.any_eq_false.2 ?_).symm
      intro x hx
      obtain ⟨i, hi, rfl⟩ := List.getElem_of_mem hx
      have := HT.out i hi
      rw [nth_lt hi] at this
      simp [this]

set_option maxHeartbeats 1000000 in
theorem containsFunc_any (g : Nat) (caps : Array Value) (p : Int → Bool) (v : Value) (xs : List Int) (w : World) (hcf : Entered g) (hx : IsInts Any w v xs) (hp : ∀ i, i < xs.length → Says g caps (.int .i64 (nth xs i)) (p (nth xs i)) w) :
    Calls Try.prog 70 #[v, .func (.func g) #[] caps] w fun e w' => e = .returned (.bool (xs.any p)) ∧ Grew w w' := by
  have h := indexFunc_any g caps p v xs w hcf hx hp
  have H := hid h; clear h hcf hx hp
  go_enter Try.func70, Try.ntmps70
  go_wp2_with (go_at_call 101; with_reducible refine H.out.mono ?_; rintro e w1 ⟨r, rfl, hr, hg⟩)
  go_ret
  exact ⟨ret_bool hr.out, hg⟩

theorem entered55 : Entered 55 := fun _ _ => by kernel_rfl

end Go.Proofs.Ytddnpooffcjhnaa
