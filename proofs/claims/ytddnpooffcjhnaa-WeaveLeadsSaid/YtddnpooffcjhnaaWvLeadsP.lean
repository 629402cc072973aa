/- Plain law: paths between two words differ in their lengths by even numbers. A slice of bytes in memory. -/
import Derived.Test.YtddnpooffcjhnaaWvGood
import Derived.Test.YtddnpooffcjhnaaWvOpens
namespace Go.Lin.Wv
open Go.Proofs.Ytddnpooffcjhnaa

/-- How many pairs of letters stand the wrong way round. -/
def inv : List Int → Nat
  | [] => 0
  | a :: l => l.countP (fun z => decide (z < a)) + inv l

theorem swap_perm : ∀ (k : Nat) (x : List Int), k + 1 < x.length → (swapM x k).Perm x
  | 0, [], h => by simp at h
  | 0, [_], h => by simp at h
  | 0, a :: c :: q, _ => by rw [swapM_zero]; exact List.Perm.swap a c q
  | k + 1, [], h => by simp at h
  | k + 1, z :: x, h => by rw [swapM_cons]; exact (swap_perm k x (by simpa using h)).cons z

theorem inv_swap : ∀ (k : Nat) (x : List Int), k + 1 < x.length → nth x k ≠ nth x (k + 1) → (inv (swapM x k) + inv x) % 2 = 1
  | 0, [], h, _ => by simp at h
  | 0, [_], h, _ => by simp at h
  | 0, a :: c :: q, _, hne => by
    rw [swapM_zero]
    have hac : a ≠ c := by simpa [nth] using hne
    simp only [inv, List.countP_cons]
    rcases Int.lt_or_gt_of_ne hac with h | h
    · have h2 : ¬ c < a := by omega
      simp only [h, h2, decide_true, decide_false, if_true, Bool.false_eq_true, if_false]
      omega
    · have h2 : ¬ a < c := by omega
      have h3 : c < a := h
      simp only [h3, h2, decide_true, decide_false, if_true, Bool.false_eq_true, if_false]
      omega
  | k + 1, [], h, _ => by simp at h
  | k + 1, z :: x, h, hne => by
    rw [swapM_cons]
    have ih := inv_swap k x (by simpa using h) (by simpa [nth] using hne)
    have hp := (swap_perm k x (by simpa using h)).countP_eq (fun y => decide (y < z))
    simp only [inv]
    rw [hp]
    omega

theorem path_parity {D : Int → Int → Bool} (hr : ∀ a, D a a = true) : ∀ (p : List Int) (x v : List Int), runP D x p = some v → (p.length + inv x + inv v) % 2 = 0
  | [], x, v, h => by
    simp only [runP, Option.some.injEq] at h
    subst h
    simp only [List.length_nil]
    omega
  | i :: p, x, v, h => by
    unfold runP at h
    cases hc : canM D x i
    · rw [hc] at h; simp at h
    · rw [hc] at h
      simp only [if_true] at h
      obtain ⟨k, rfl, hk⟩ := canM_pos hc
      have ih := path_parity hr p _ v h
      rw [Int.toNat_natCast] at ih
      have hne : nth x k ≠ nth x (k + 1) := by
        intro e
        unfold canM at hc
        simp only [Bool.and_eq_true, Int.toNat_natCast, Bool.not_eq_true'] at hc
        rw [e, hr] at hc
        exact absurd hc.2 (by simp)
      have h2 := inv_swap k x hk hne
      simp only [List.length_cons]
      omega

theorem paths_even {D : Int → Int → Bool} (hr : ∀ a, D a a = true) {x v p q : List Int} (hp : runP D x p = some v) (hq : runP D x q = some v) : ((p.length : Int) - (q.length : Int)).tmod 2 = 0 := by
  have h1 := path_parity hr p x v hp
  have h2 := path_parity hr q x v hq
  rw [Int.tmod_eq_zero_of_dvd]
  omega

theorem can_at {D : Int → Int → Bool} {x : List Int} {k : Nat} (hk : k + 1 < x.length) : canM D x (k : Int) = !D (nth x k) (nth x (k + 1)) := by
  unfold canM
  rw [Int.toNat_natCast, show decide ((0 : Int) ≤ (k : Int)) = true by simp, show decide ((k : Int) ≤ (x.length : Int) - 2) = true by simp; omega]
  rfl

theorem runP_more {D : Int → Int → Bool} {p : List Int} {x v : List Int} {k : Nat} (h : runP D x p = some v) (hc : canM D v (k : Int) = true) : runP D x (p ++ [(k : Int)]) = some (swapM v k) := by
  rw [runP_append, h]
  simp [runP, hc]
end Go.Lin.Wv
namespace Go.Proofs.Ytddnpooffcjhnaa
open Go Go.RowKit Go.ChangeShapes Go.WideShapes Go.ChangeAt Go.Lin Go.Lin.Wv

/-- A slice of bytes. -/
def IsBytes (w : World) (v : Value) (p : List Int) : Prop :=
  ∃ a c, v = .slice a p.length c ∧ p.length ≤ 9223372036854775807 ∧ ∀ i, i < p.length → ∃ b off o, a = some ⟨b, off, none⟩ ∧ w.heap[b]? = some o ∧ w.cell? ⟨b, off + i, none⟩ = some (.int .u8 (nth p i)) ∧ 0 ≤ nth p i ∧ nth p i ≤ 255

theorem bytes_of_trod {H : Type} {enc : TypeId × Value → H} {P : Program} {w : World} {base : Nat} {held : Bool} {r : Reach} {b0 : Nat} {t e : TypeId} {v : Value} {d : DataW H} {p : List MemPlace} (ht : P.underlying t = some (.slice e)) (he : P.underlying e = some (.int .u8)) (hc : P.cellsOf e = 1)
    (hv : Value.okWide P w r b0 t v) (h : DataW.Trod enc P w base (fun _ => true) held t v d p) : ∃ xs, IsBytes w v xs := by
  obtain ⟨fuel, h⟩ := h
  rcases open_ints ht he hc h with ⟨hcs, _⟩ | ⟨a, len, cap, zs, hcs, _, hl, hm, hz, _, hcells, hwf⟩
  · obtain ⟨sa, sl, sc, rfl⟩ : ∃ sa sl sc, v = .slice sa sl sc := okWide_slice ht hv
    simp [Value.cells] at hcs
    obtain ⟨rfl, rfl, rfl⟩ := hcs
    exact ⟨[], none, 0, rfl, by simp, fun i hi => by simp at hi⟩
  · obtain ⟨sa, sl, sc, rfl⟩ : ∃ sa sl sc, v = .slice sa sl sc := okWide_slice ht hv
    simp [Value.cells] at hcs
    obtain ⟨rfl, rfl, rfl⟩ := hcs
    simp only [if_true] at hz
    have hlen : (zs.take sl).length = sl := by rw [List.length_take, hz]; omega
    refine ⟨zs.take sl, some a, sc, by rw [hlen], by rw [hlen]; unfold maxLen at hm; omega, fun i hi => ?_⟩
    rw [hlen] at hi
    have h0 := hcells 0 (by omega)
    have hs : a.spot = none := by simpa [Addr.add] using World.cell?_spot h0
    obtain ⟨b, off, sp⟩ := a
    simp only at hs
    subst hs
    have hi2 := hcells i (by omega)
    rw [Addr.add_lit] at hi2
    have hb := World.block_lt_of_cell? w _ hi2
    have hz2 : i < zs.length := by omega
    have hn : nth (zs.take sl) i = zs.getD i 0 := by
      rw [nth_lt (by rw [hlen]; exact hi)]
      simp [List.getD, List.getElem?_eq_getElem hz2]
    have hwi := hwf (zs.getD i 0) (by rw [List.getD, List.getElem?_eq_getElem hz2]; exact List.getElem_mem hz2)
    simp [Lit.wf, IntKind.min, IntKind.max, IntKind.signed, IntKind.bits] at hwi
    refine ⟨b, off, _, rfl, Array.getElem?_eq_getElem hb, by rw [hi2, hn], ?_, ?_⟩
    · rw [hn]; simp only [List.getD]; omega
    · rw [hn]; simp only [List.getD]; omega

theorem Try.read_bytes : Try.prog.readableRec 48 = true := by kernel_rfl

set_option maxRecDepth 100000 in
theorem bytesIn {H : Type} {enc : TypeId × Value → H} {w : World} {base : Nat} {held : Bool} {r : Reach} {b0 : Nat} {v : Value} {d : DataW H} {p : List MemPlace}
    (hv : Value.okWide Try.prog w r b0 48 v) (h : DataW.Trod enc Try.prog w base (fun _ => true) held 48 v d p) : ∃ l, IsBytes w v l :=
  bytes_of_trod Try.underlying48 Try.underlying5 (by kernel_rfl) hv h
end Go.Proofs.Ytddnpooffcjhnaa
