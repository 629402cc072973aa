/- Plain: what Common and Both answer. -/
import Derived.Test.YtddnpooffcjhnaaWvBegP
import Derived.Test.YtddnpooffcjhnaaWvLattice
namespace Go.Lin.Wv

def commonM (L : Lt) (x y : List Int) : List Int × Int := if wrong L [x, y] = 0 then (first (dep L) L.n.toNat (common (dep L) L.n.toNat x y).1, 0) else ([], wrong L [x, y])
/-- Some letter of p depends on one of q. -/
def clash (D : Int → Int → Bool) (p q : List Int) : Bool := p.any fun a => q.any (D a)
def bothM (L : Lt) (x y : List Int) : List Int × Int :=
  if wrong L [x, y] = 0 then (if clash (dep L) (common (dep L) L.n.toNat x y).2.1 (common (dep L) L.n.toNat x y).2.2 then ([], 5) else Go.Proofs.Ytddnpooffcjhnaa.formedM (dep L) L.n.toNat ((common (dep L) L.n.toNat x y).1 ++ (common (dep L) L.n.toNat x y).2.1 ++ (common (dep L) L.n.toNat x y).2.2)) else ([], wrong L [x, y])

theorem common_alike (L : Lt) (N : Nat) (x y : List Int) : Alike (dep L) x ((common (dep L) N x y).1 ++ (common (dep L) N x y).2.1) ∧ Alike (dep L) y ((common (dep L) N x y).1 ++ (common (dep L) N x y).2.2) := meet_alike (dep_comm L) N _ x y

theorem good_of_alike {L : Lt} {N : Nat} {x u v : List Int} (h : GoodW N x) (ha : Alike (dep L) x (u ++ v)) : GoodW N u ∧ GoodW N v := by
  have hp := ha.perm (dep_refl L)
  have hl := hp.length_eq
  rw [List.length_append] at hl
  have := h.len
  exact ⟨⟨by omega, fun z hz => h.ok z (hp.mem_iff.2 (List.mem_append_left _ hz))⟩, ⟨by omega, fun z hz => h.ok z (hp.mem_iff.2 (List.mem_append_right _ hz))⟩⟩

theorem common_good {L : Lt} {N : Nat} {x y : List Int} (hx : GoodW N x) (hy : GoodW N y) : GoodW N (common (dep L) N x y).1 ∧ GoodW N (common (dep L) N x y).2.1 ∧ GoodW N (common (dep L) N x y).2.2 :=
  let ⟨h1, h2⟩ := common_alike L N x y
  ⟨(good_of_alike hx h1).1, (good_of_alike hx h1).2, (good_of_alike hy h2).2⟩

end Go.Lin.Wv
