/- A byte that came in. -/
import Derived.Test.YtojkohpniokaaaaPgOpens
namespace Go.Proofs.Ytojkohpniokaaaa
open Go Go.RowKit
theorem byte_of_wf {x : Int} (h : (Lit.int .u8 x).wf = true) : 0 ≤ x ∧ x ≤ 255 := by
  simp [Lit.wf, IntKind.min, IntKind.max, IntKind.signed, IntKind.bits] at h
  omega
end Go.Proofs.Ytojkohpniokaaaa
