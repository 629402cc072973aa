/- Plain law: a search level by level; what is seen, and the ways that are kept. No program in sight. -/
import Derived.Test.YtojkohpniokaaaaPgOuts
namespace Go.Lin.Pg
/-- The places seen. -/
def seenB (N : Nat) (all : List Leg) : List Bool := (List.range N).map (fun (i : Nat) => all.any (fun e => e.1 == (i : Int)))

theorem seenB_len {N : Nat} {all : List Leg} : (seenB N all).length = N := by simp [seenB]
theorem seenB_get {N : Nat} {all : List Leg} {q : Nat} (h : q < N) : (seenB N all).getD q false = all.any (fun e => e.1 == (q : Int)) := by
  simp [seenB, List.getD, h]
theorem seenB_start {N : Nat} (h1 : 1 ≤ N) : (List.replicate N false).set 0 true = seenB N [(0, [])] := by
  apply List.ext_getElem?
  intro t
  unfold seenB
  rw [List.getElem?_set, List.getElem?_map]
  by_cases h : t < N
  · rw [List.getElem?_range h]
    by_cases e : 0 = t
    · subst e; simp [h]
    · rw [if_neg e]
      have e2 : ((0 : Int) == (t : Int)) = false := by rw [beq_eq_false_iff_ne]; omega
      simp [h, e2]
  · have h2 : (List.range N)[t]? = none := by simp; omega
    rw [h2, if_neg (by omega)]
    simp; omega
theorem seenB_push {N : Nat} {all : List Leg} {q : Nat} {l : List Nat} : (seenB N all).set q true = seenB N (all ++ [((q : Int), l)]) := by
  apply List.ext_getElem?
  intro t
  unfold seenB
  rw [List.getElem?_set, List.getElem?_map, List.getElem?_map]
  by_cases h : t < N
  · rw [List.getElem?_range h]
    by_cases e : q = t
    · subst e; simp [h]
    · rw [if_neg e]
      have e2 : ((q : Int) == (t : Int)) = false := by rw [beq_eq_false_iff_ne]; omega
      simp [e2]
  · have h2 : (List.range N)[t]? = none := by simp; omega
    rw [h2]
    by_cases e : q = t
    · subst e; simp; omega
    · simp [e]

theorem any_of_mem {all : List Leg} {e : Leg} (h : e ∈ all) : all.any (fun f => f.1 == e.1) = true := by
  rw [List.any_eq_true]; exact ⟨e, h, by simp⟩
theorem mem_of_any {all : List Leg} {q : Int} (h : all.any (fun f => f.1 == q) = true) : ∃ f ∈ all, f.1 = q := by
  rw [List.any_eq_true] at h
  obtain ⟨f, h1, h2⟩ := h
  exact ⟨f, h1, by simpa using h2⟩

/-- At the end: what is seen has its way. -/
theorem bfs_some {ms : List Mv} {N : Nat} (h1 : 1 ≤ N) (h8 : N ≤ 8) (hN : InN N ms) {all : List Leg} (hi : GInv ms (fun _ => true) 0 all (fun e _ => e ∈ all)) {e : Leg} (he : e ∈ all) : wayM ms e.1 = some e.2 :=
  wayM_some h1 h8 hN (hi.isWay he)
theorem bfs_none {ms : List Mv} {N : Nat} (h1 : 1 ≤ N) (h8 : N ≤ 8) (hN : InN N ms) {all : List Leg} (hi : GInv ms (fun _ => true) 0 all (fun e _ => e ∈ all)) {b : Int} (hb : all.any (fun f => f.1 == b) = false) : wayM ms b = none := by
  refine wayM_none h1 h8 hN (fun v hv => ?_)
  obtain ⟨f, hf, hf1, _⟩ := hi.all v b hv
  rw [← hf1, any_of_mem hf] at hb
  cases hb

/-- A move is looked at and its place is new. -/
theorem bfs_new {ms : List Mv} {done tail : List Leg} {h : Leg} {op : Nat} {m : Mv} (hi : GInv ms (fun _ => true) 0 (done ++ h :: tail) (Tried done h op)) (hm : ms[op]? = some m) (hf : fr m = h.1) (hs : (done ++ h :: tail).any (fun f => f.1 == tg m) = false) :
    GInv ms (fun _ => true) 0 (done ++ h :: (tail ++ [(tg m, h.2 ++ [op])])) (Tried done h (op + 1)) :=
  hi.new hm hf rfl (fun ⟨f, h1, h2⟩ => by rw [← h2, any_of_mem h1] at hs; cases hs)
/-- A move is looked at and passed by. -/
theorem bfs_skip {ms : List Mv} {done tail : List Leg} {h : Leg} {op : Nat} {m : Mv} (hi : GInv ms (fun _ => true) 0 (done ++ h :: tail) (Tried done h op)) (hm : ms[op]? = some m) (hs : fr m ≠ h.1 ∨ (done ++ h :: tail).any (fun f => f.1 == tg m) = true) :
    GInv ms (fun _ => true) 0 (done ++ h :: tail) (Tried done h (op + 1)) :=
  hi.skip (fun m' hm' hf _ => by
    rw [hm] at hm'; cases hm'
    rcases hs with h1 | h1
    · exact absurd hf h1
    · exact mem_of_any h1)
/-- Never more places than there are. -/
theorem bfs_count {ms : List Mv} {N : Nat} (h1 : 1 ≤ N) (hN : InN N ms) {all : List Leg} {H : Leg → Nat → Prop} (hi : GInv ms (fun _ => true) 0 all H) : all.length ≤ N :=
  hi.count (N := N) (fun e he => goG_in hN _ ⟨by omega, by omega⟩ (hi.path e he))
theorem bfs_wordlen {ms : List Mv} {N : Nat} (h1 : 1 ≤ N) (hN : InN N ms) {all : List Leg} {H : Leg → Nat → Prop} (hi : GInv ms (fun _ => true) 0 all H) {f : Leg} (hf : f ∈ all) : f.2.length < N :=
  Nat.lt_of_lt_of_le (hi.wordlen hf) (bfs_count h1 hN hi)
theorem bfs_place {ms : List Mv} {N : Nat} (h1 : 1 ≤ N) (hN : InN N ms) {all : List Leg} {H : Leg → Nat → Prop} (hi : GInv ms (fun _ => true) 0 all H) {f : Leg} (hf : f ∈ all) : 0 ≤ f.1 ∧ f.1 < (N : Int) :=
  goG_in hN _ ⟨by omega, by omega⟩ (hi.path f hf)
end Go.Lin.Pg
