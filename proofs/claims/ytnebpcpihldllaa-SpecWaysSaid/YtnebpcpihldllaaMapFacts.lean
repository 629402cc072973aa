/- The map types of this program. -/
import Derived.Test.YtnebpcpihldllaaWRun
import Derived.Test.YtnebpcpihldllaaMaps
import Derived.DeepKeys4
namespace Go.Proofs.Ytnebpcpihldllaa
open Go.RowKit Go.Lin Go.Maps

theorem Try.laidOut : laidOutB Try.prog = true := by kernel_rfl
theorem keyed98 : Keyed Try.prog 98 := Keyed.of_law (deep_law_laid Try.laidOut (m := 3) (by decide) (of_decide_eq_true (by kernel_rfl)) (by kernel_rfl) (by kernel_rfl))
theorem keyed3 : Keyed Try.prog 3 := int_keyed Try.underlying3
theorem zero4 (w : World) : (zeroValue 4).run Try.prog w = .ok (.bool false) w := by kernel_rfl

/-- A pair of states as a key. -/
def encP (x : Nat × Nat) : Value := .agg #[.int .i64 (x.1 : Int), .int .i64 (x.2 : Int)]
theorem encP_inj (x y : Nat × Nat) (h : encP x = encP y) : x = y := by
  unfold encP at h
  simp at h
  exact Prod.ext (by omega) (by omega)
theorem key98 (x : Nat × Nat) (h1 : x.1 < 1000) (h2 : x.2 < 1000) : ∃ l, keyOf Try.prog 98 (encP x) = some l := by
  have k1 : (Lit.int .i64 (x.1 : Int)).wf = true := WalkArith.wf_i64 (by omega)
  have k2 : (Lit.int .i64 (x.2 : Int)).wf = true := WalkArith.wf_i64 (by omega)
  have u98 := Try.underlying98
  have u3 := Try.underlying3
  have c98 : Try.prog.cellsOf 98 = 2 := by kernel_rfl
  have c3 : Try.prog.cellsOf 3 = 1 := by kernel_rfl
  have kt : Try.prog.keyType 98 = true := by kernel_rfl
  have hsz : ∃ m, Try.prog.types.size + 1 = m + 2 := ⟨Try.prog.types.size - 1, by have : 1 ≤ Try.prog.types.size := of_decide_eq_true (by kernel_rfl); omega⟩
  obtain ⟨m, hm⟩ := hsz
  have e1 : Try.prog.keyLits (m + 1) 3 [.int .i64 (x.1 : Int)] = some [.int .i64 (x.1 : Int)] := by
    unfold Program.keyLits; rw [u3]; simp only [k1, and_self, if_true]
  have e2 : Try.prog.keyLits (m + 1) 3 [.int .i64 (x.2 : Int)] = some [.int .i64 (x.2 : Int)] := by
    unfold Program.keyLits; rw [u3]; simp only [k2, and_self, if_true]
  have e3 : Try.prog.keyLits (m + 2) 98 [.int .i64 (x.1 : Int), .int .i64 (x.2 : Int)] = some [.int .i64 (x.1 : Int), .int .i64 (x.2 : Int)] := by
    unfold Program.keyLits; rw [u98]
    simp only [c98, c3, List.length_cons, List.length_nil, if_true]
    rw [show List.range 2 = [0, 1] from rfl]
    simp only [List.mapM_cons, List.mapM_nil, Nat.zero_mul, Nat.one_mul, List.drop_zero, List.drop_succ_cons, List.take_succ_cons, List.take_zero, e1, e2]
    rfl
  have hf : (encP x).formed Try.prog 98 = true := by
    unfold encP Value.formed; rw [u98]; simp only [c98]; rfl
  refine ⟨.string (keyBytes [.int .i64 (x.1 : Int), .int .i64 (x.2 : Int)]), ?_⟩
  unfold keyOf
  rw [u98]
  simp only [kt, hf, Bool.and_self, if_true, hm]
  unfold encP
  simp only [Value.cells]
  rw [e3]
  rfl
end Go.Proofs.Ytnebpcpihldllaa
