/- The key types of this program's maps: pairs of ints, words as arrays. -/
import Derived.Test.YtddnpooffcjhnaaWvFunc
import Derived.Test.YtddnpooffcjhnaaMaps
import Derived.DeepKeys4
namespace Go.Proofs.Ytddnpooffcjhnaa
open Go.RowKit Go.Lin Go.Lin.Wv Go.Maps

theorem Try.laidOut : laidOutB Try.prog = true := by kernel_rfl
theorem keyed57 : Keyed Try.prog 57 := Keyed.of_law (deep_law_laid Try.laidOut (m := 3) (by decide) (of_decide_eq_true (by kernel_rfl)) (by kernel_rfl) (by kernel_rfl))
theorem zero4 (w : World) : (zeroValue 4).run Try.prog w = .ok (.bool false) w := by kernel_rfl

/-- A pair as a key. -/
def encQ (x : Int × Int) : Value := .agg #[.int .i64 x.1, .int .i64 x.2]
theorem encQ_inj (x y : Int × Int) (h : encQ x = encQ y) : x = y := by
  unfold encQ at h
  simp at h
  exact Prod.ext h.1 h.2

theorem key57 (x : Int × Int) (k1 : (Lit.int .i64 x.1).wf = true) (k2 : (Lit.int .i64 x.2).wf = true) : ∃ l, keyOf Try.prog 57 (encQ x) = some l := by
  have u98 := Try.underlying57
  have u3 := Try.underlying3
  have c98 : Try.prog.cellsOf 57 = 2 := by kernel_rfl
  have c3 : Try.prog.cellsOf 3 = 1 := by kernel_rfl
  have kt : Try.prog.keyType 57 = true := by kernel_rfl
  have hsz : ∃ m, Try.prog.types.size + 1 = m + 2 := ⟨Try.prog.types.size - 1, by have : 1 ≤ Try.prog.types.size := of_decide_eq_true (by kernel_rfl); omega⟩
  obtain ⟨m, hm⟩ := hsz
  have e1 : Try.prog.keyLits (m + 1) 3 [.int .i64 x.1] = some [.int .i64 x.1] := by
    unfold Program.keyLits; rw [u3]; simp only [k1, and_self, if_true]
  have e2 : Try.prog.keyLits (m + 1) 3 [.int .i64 x.2] = some [.int .i64 x.2] := by
    unfold Program.keyLits; rw [u3]; simp only [k2, and_self, if_true]
  have e3 : Try.prog.keyLits (m + 2) 57 [.int .i64 x.1, .int .i64 x.2] = some [.int .i64 x.1, .int .i64 x.2] := by
    unfold Program.keyLits; rw [u98]
    simp only [c98, c3, List.length_cons, List.length_nil, if_true]
    rw [show List.range 2 = [0, 1] from rfl]
    simp only [List.mapM_cons, List.mapM_nil, Nat.zero_mul, Nat.one_mul, List.drop_zero, List.drop_succ_cons, List.take_succ_cons, List.take_zero, e1, e2]
    rfl
  have hf : (encQ x).formed Try.prog 57 = true := by
    unfold encQ Value.formed; rw [u98]; simp only [c98]; rfl
  refine ⟨.string (keyBytes [.int .i64 x.1, .int .i64 x.2]), ?_⟩
  unfold keyOf
  rw [u98]
  simp only [kt, hf, Bool.and_self, if_true, hm]
  unfold encQ
  simp only [Value.cells]
  rw [e3]
  rfl

end Go.Proofs.Ytddnpooffcjhnaa
