/- Plain: the first shortest word to a state is shorter than there are states, and what a run of it says. -/
import Derived.Test.YtnebpcpihldllaaWReached2
import Derived.Test.YtnebpcpihldllaaTurns
namespace Go.Lin

theorem toN_ofNl (ws : List Nat) : toN (ofN ws) = ws := by
  simp only [toN, ofN, List.map_map]
  conv => rhs; rw [← List.map_id ws]
  exact List.map_congr_left (fun x _ => by simp)

theorem stM_take_drop (M : Mach) (s : Nat) (ws : List Nat) (i : Nat) : stM M (stM M s (ws.take i)) (ws.drop i) = stM M s ws := by
  rw [← stM_append, List.take_append_drop]

theorem OkW.drop {k : Nat} {ws : List Nat} (h : OkW k ws) (j : Nat) : OkW k (ws.drop j) := fun x hx => h x (List.mem_of_mem_drop hx)

theorem OkW.append {k : Nat} {ws vs : List Nat} (h : OkW k ws) (h' : OkW k vs) : OkW k (ws ++ vs) := fun x hx => (List.mem_append.1 hx).elim (h x) (h' x)

theorem isWay_short {M : Mach} (hM : M.WF) {a : Nat} {w : List Nat} (h : IsWay M a w) : w.length < M.n := by
  have hn := nodup_lt_length M.n ((List.range (w.length + 1)).map fun i => stM M 0 (w.take i)) ?_ ?_
  · simp at hn; omega
  · rw [List.nodup_iff_pairwise_ne, List.pairwise_map, List.pairwise_iff_getElem]
    intro i j hi hj hij he
    simp only [List.length_range] at hi hj
    simp only [List.getElem_range] at he
    have := h.least (w.take i ++ w.drop j) ((h.ok.take i).append (h.ok.drop j)) (by rw [stM_append, he, stM_take_drop, h.leads])
    have := sle_len this
    simp at this
    omega
  · intro x hx
    obtain ⟨i, _, rfl⟩ := List.mem_map.1 hx
    exact stM_lt hM hM.n1 (h.ok.take i)

theorem isWordM_ofN {s : RSpec} (hv : validM s = true) {w : List Nat} (h : OkW (machOf s).k w) (hl : w.length ≤ 20) : isWordM s.ops (ofN w) = true := by
  obtain ⟨⟨s1, s8, o1, o4⟩, _⟩ := valid_parts hv
  rw [isWordM_true (fun i hi => ?_)]
  · rw [length_ofN]; simp; omega
  · rw [nth_ofN]
    rw [length_ofN] at hi
    have := h.nth hi
    simp only [machOf] at this
    unfold inM
    simp
    omega

/-- What a run of the way says. -/
theorem way_runs {s : RSpec} (hv : validM s = true) {a : Nat} {w : List Nat} (h : IsWay (machOf s) a w) :
    runE s 0 (ofN w) = 0 ∧ runTo s 0 (ofN w) = (a : Int) ∧ (w.length : Int) < s.st := by
  obtain ⟨⟨s1, s8, o1, o4⟩, _⟩ := valid_parts hv
  have hs := isWay_short (wf_machOf hv) h
  simp only [machOf] at hs
  have hw := isWordM_ofN hv h.ok (by omega)
  have hE : runE s 0 (ofN w) = 0 := by
    unfold runE
    rw [hv, hw, show inM s.st 0 = true by unfold inM; simp; omega]
    rfl
  refine ⟨hE, ?_, by omega⟩
  unfold runTo
  rw [if_pos hE, toN_ofNl]
  have := h.leads
  simp only [Int.toNat_zero]
  rw [this]

/-- The first i of some numbers hold a number. -/
def inL (xs : List Nat) (a : Nat) (i : Nat) : Bool := (xs.take i).any (· == a)

theorem inL_zero (xs : List Nat) (a : Nat) : inL xs a 0 = false := rfl

theorem inL_succ {xs : List Nat} {a i : Nat} (h : i < xs.length) : inL xs a (i + 1) = (inL xs a i || ((a : Int) == ((nthN xs i : Nat) : Int))) := by
  unfold inL
  rw [take_succ_nthN h, List.any_append]
  congr 1
  simp
  rw [Bool.eq_iff_iff]
  simp
  omega

theorem inL_all {M : Mach} (hM : M.WF) (a : Nat) : inL (reachL M) a (reachL M).length = true ↔ Reaches M a := by
  unfold inL
  rw [List.take_of_length_le (Nat.le_refl _), List.any_eq_true, ← mem_reachL hM]
  constructor
  · rintro ⟨x, hx, he⟩
    have : x = a := by simpa using he
    exact this ▸ hx
  · intro h
    exact ⟨a, h, by simp⟩
end Go.Lin
