/- Plain law: what the layers of a word are. -/
import Derived.Test.YtddnpooffcjhnaaWvGood
namespace Go.Lin.Wv
open Go.Proofs.Ytddnpooffcjhnaa
variable {D : Int → Int → Bool}

theorem foatU_prev : ∀ {F : List (List Int)}, FoatU D F → ∀ i, i + 1 < F.length → ∀ a ∈ nthL F (i + 1), ∃ b ∈ nthL F i, D a b = true
  | [], _, i, h => by simp at h
  | [l], _, i, h => by simp at h
  | l :: m :: F, hf, 0, _ => hf.2.2.1
  | l :: m :: F, hf, i + 1, h => foatU_prev (F := m :: F) hf.2.2.2 i (by simpa using h)

theorem nthL_mem {F : List (List Int)} {i : Nat} (h : i < F.length) : nthL F i ∈ F := by rw [nthL_lt h]; exact List.getElem_mem h
theorem nth_memI {l : List Int} {i : Nat} (h : i < l.length) : nth l i ∈ l := by rw [nth_lt h]; exact List.getElem_mem h

/-- What is asked of a list of layers. -/
structure LayOk (L : Lt) (N : Nat) (F : List (List Int)) : Prop where
  good : ∀ i, i < F.length → GoodW N (nthL F i)
  ne : ∀ i, i < F.length → 0 < (nthL F i).length
  up : ∀ i k, i < F.length → k + 1 < (nthL F i).length → nth (nthL F i) k < nth (nthL F i) (k + 1)
  apart : ∀ i j k, i < F.length → j < k → k < (nthL F i).length → dep L (nth (nthL F i) k) (nth (nthL F i) j) = false
  prev : ∀ i k, i + 1 < F.length → k < (nthL F (i + 1)).length → (nthL F i).any (dep L (nth (nthL F (i + 1)) k)) = true

theorem lay_ok {L : Lt} {N : Nat} {x : List Int} (gx : GoodW N x) : LayOk L N (layersM (dep L) N x) ∧ GoodW N (layersM (dep L) N x).flatten ∧ Alike (dep L) x (layersM (dep L) N x).flatten := by
  obtain ⟨_, ⟨h1, h2⟩, h3⟩ := layers_fall (dep_refl L) (dep_comm L) gx.ok
  obtain ⟨F, hF⟩ : ∃ F, layersM (dep L) N x = F := ⟨_, rfl⟩
  rw [hF] at h1 h2 h3 ⊢
  have hp := h3.perm (dep_refl L)
  have gf : GoodW N F.flatten := ⟨by rw [← hp.length_eq]; exact gx.len, fun z hz => gx.ok z (hp.mem_iff.2 hz)⟩
  refine ⟨⟨fun i hi => ⟨?_, fun z hz => gf.ok z (List.mem_flatten.2 ⟨_, nthL_mem hi, hz⟩)⟩, fun i hi => ?_, fun i k hi hk => ?_, fun i j k hi hj hk => ?_, fun i k hi hk => ?_⟩, gf, h3⟩
  · exact Nat.le_trans (nthL_le F i) gf.len
  · exact List.length_pos_iff.2 (foatU_each h1 _ (nthL_mem hi)).1
  · rw [nth_lt hk, nth_lt (show k < (nthL F i).length by omega)]
    exact List.pairwise_iff_getElem.1 (h2 _ (nthL_mem hi)) k (k + 1) (by omega) hk (by omega)
  · rw [dep_comm, nth_lt hk, nth_lt (show j < (nthL F i).length by omega)]
    exact List.pairwise_iff_getElem.1 (foatU_each h1 _ (nthL_mem hi)).2 j k (by omega) hk hj
  · rw [List.any_eq_true]
    exact foatU_prev h1 i hi _ (nth_memI hk)

theorem flatten_take_succ {F : List (List Int)} {i : Nat} (h : i < F.length) : (F.take (i + 1)).flatten = (F.take i).flatten ++ nthL F i := by
  rw [take_succ_nthL h]; simp

theorem any_take_succ {f : Int → Bool} {l : List Int} {j : Nat} (h : j < l.length) : (l.take (j + 1)).any f = ((l.take j).any f || f (nth l j)) := by
  rw [List.take_add_one, List.getElem?_eq_getElem h, List.any_append, nth_lt h]
  simp

theorem flat_take_le (F : List (List Int)) (i : Nat) : (F.take i).flatten.length ≤ F.flatten.length := by
  have := congrArg (fun l => (List.flatten l).length) (List.take_append_drop i F)
  simp only [List.flatten_append, List.length_append] at this
  omega
end Go.Lin.Wv
