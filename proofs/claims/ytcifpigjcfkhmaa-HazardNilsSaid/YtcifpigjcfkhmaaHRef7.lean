/- Walks: the reference's Do, New. -/
import Derived.Test.YtcifpigjcfkhmaaHRef6
namespace Go.Proofs.Ytcifpigjcfkhmaa
open Go.RowKit Go.Lin Go.Lin.Hz

/-- What a call of the reference's Do does. -/
def RDoPost (Y : Yd) (d a bb c : Int) (w : World) (b : Nat) (Fp : List Nat) (e : Ending) (w' : World) : Prop :=
  e = .returned (.tuple #[.int .i64 (doD Y d a bb c).2.1, .int .i64 (doD Y d a bb c).2.2]) ∧ RDoes w w' b Fp (doD Y d a bb c).1

theorem isDeed_of (d bb c : Int) : isDeed d bb c = ((decide (1 ≤ d) && decide (d ≤ 6)) && (d == 2 || (c == 0 && (bb == 0 || !(d == 1 || d == 5))))) := rfl

set_option maxHeartbeats 8000000 in
theorem rDo_any (Y : Yd) (hI : Inv Y) (b : Nat) (Fp : List Nat) (d a bb c : Int) (w : World) (hy : IsRef w b Y Fp) :
    Calls Try.prog 16 #[.pointer (some ⟨b, 0, none⟩), .int .i64 d, .int .i64 a, .int .i64 bb, .int .i64 c] w (RDoPost Y d a bb c w b Fp) := by
  have HY := hid hy
  have HU := hid (show ∀ y, Grew w y → Calls Try.prog 36 #[.pointer (some ⟨b, 0, none⟩), .int .i64 a, .int .i64 bb] y fun e w' => e = .returned (.tuple #[.int .i64 (use Y a bb).1, .int .i64 (use Y a bb).2]) ∧ Grew y w' by
    intro y hyy
    obtain ⟨sb, sc, lb, lc, lv, Lb, hA, rfl⟩ := hy
    exact rUse_any Y hI b a bb y (hA.grew hyy).cell)
  have H1 := hid (rTake_any Y hI b Fp a w hy)
  have H2 := hid (rPoint_any Y hI b Fp a bb c w hy)
  have H3 := hid (rClear_any Y hI b Fp a bb w hy)
  have H4 := hid (rPutBy_any Y hI b Fp a bb w hy)
  have H5 := hid (rSweep_any Y hI b Fp a w hy)
  have hg := grew_refl w
  clear hy
  obtain ⟨p1, hp1⟩ : ∃ p, (bb == 0) = p := ⟨_, rfl⟩
  obtain ⟨p2, hp2⟩ : ∃ p, (c == 0) = p := ⟨_, rfl⟩
  have hn1 : (bb != 0) = !p1 := by rw [← hp1]; rfl
  have hn2 : (c != 0) = !p2 := by rw [← hp2]; rfl
  have HD := hid (isDeed_of d bb c)
  rw [hp1, hp2] at HD
  by_cases hd : d = 1 ∨ d = 2 ∨ d = 3 ∨ d = 4 ∨ d = 5 ∨ d = 6
  · cases p1 <;> cases p2
    all_goals
      simp only [Bool.not_true, Bool.not_false] at hn1 hn2
      obtain rfl | rfl | rfl | rfl | rfl | rfl := hd
    all_goals
      clear hp1 hp2
      go_enter Try.func16, Try.ntmps16
      go_wp2_with (first
        | (go_at_call 42; with_reducible refine H1.out.mono ?_; rintro e w4 ⟨rfl, hd⟩; have HDS := hid hd; clear hd)
        | (go_at_call 38; with_reducible refine H2.out.mono ?_; rintro e w4 ⟨rfl, hd⟩; have HDS := hid hd; clear hd)
        | (go_at_call 39; with_reducible refine H3.out.mono ?_; rintro e w4 ⟨rfl, hd⟩; have HDS := hid hd; clear hd)
        | (go_at_call 40; with_reducible refine H4.out.mono ?_; rintro e w4 ⟨rfl, hd⟩; have HDS := hid hd; clear hd)
        | (go_at_call 43; with_reducible refine H5.out.mono ?_; rintro e w4 ⟨rfl, hd⟩; have HDS := hid hd; clear hd)
        | (go_at_call 36; with_reducible refine (HU.out _ hg).mono ?_; rintro e w4 ⟨rfl, hd⟩; have HDS := hid (RDoes.same HY.out hd); clear hd))
      go_ret2
      unfold RDoPost doD
      rw [HD.out]
      first | exact ⟨rfl, HDS.out⟩ | exact ⟨rfl, RDoes.same HY.out hg⟩
  · have h1 : (d == 1) = false := by simp; omega
    have h2 : (d == 2) = false := by simp; omega
    have h3 : (d == 3) = false := by simp; omega
    have h4 : (d == 4) = false := by simp; omega
    have h5 : (d == 5) = false := by simp; omega
    have h6 : (d == 6) = false := by simp; omega
    have h2' : (d != 2) = true := by simp; omega
    have HF := hid (show isDeed d bb c = false by
      unfold isDeed
      have : (decide (1 ≤ d) && decide (d ≤ 6)) = false := by simp; omega
      rw [this]; rfl)
    clear hd
    cases p1 <;> cases p2
    all_goals
      simp only [Bool.not_true, Bool.not_false] at hn1 hn2
      clear hp1 hp2
      go_enter Try.func16, Try.ntmps16
      go_wp2
      go_ret2
      unfold RDoPost doD
      rw [HF.out]
      exact ⟨rfl, RDoes.same HY.out hg⟩

end Go.Proofs.Ytcifpigjcfkhmaa
