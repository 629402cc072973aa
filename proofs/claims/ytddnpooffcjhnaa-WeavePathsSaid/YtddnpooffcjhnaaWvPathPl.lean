/- Plain law: neighbours that do not depend may change places. -/
import Derived.Test.YtddnpooffcjhnaaWvPathA
import Derived.Test.YtddnpooffcjhnaaWvLattice
namespace Go.Lin.Wv

theorem swapM_cons (z : Int) (x : List Int) (k : Nat) : swapM (z :: x) (k + 1) = z :: swapM x k := by simp [swapM, nth]
theorem swapM_zero (a c : Int) (q : List Int) : swapM (a :: c :: q) 0 = c :: a :: q := by simp [swapM, nth]

theorem swapM_alike {D : Int → Int → Bool} (hr : ∀ a, D a a = true) (hs : ∀ a b, D a b = D b a) : ∀ (k : Nat) (x : List Int), k + 1 < x.length → D (nth x k) (nth x (k + 1)) = false → Alike D x (swapM x k)
  | 0, [], h, _ => by simp at h
  | 0, [_], h, _ => by simp at h
  | 0, a :: c :: q, _, hd => by
    rw [swapM_zero]
    have h1 : Alike D ([a] ++ [c]) ([c] ++ [a]) := pass_word hr hs (fun u hu v hv => by
      rw [List.mem_singleton.1 hu, List.mem_singleton.1 hv]; simpa [nth] using hd)
    exact h1.append (Alike.refl q)
  | k + 1, [], h, _ => by simp at h
  | k + 1, z :: x, h, hd => by
    rw [swapM_cons]
    have h1 := swapM_alike hr hs k x (by simp at h; omega) (by simpa [nth] using hd)
    exact (Alike.refl [z]).append h1

/-- What exchanges lead to is alike. -/
theorem runP_alike {D : Int → Int → Bool} (hr : ∀ a, D a a = true) (hs : ∀ a b, D a b = D b a) : ∀ (p : List Int) (x c : List Int), runP D x p = some c → Alike D x c
  | [], x, c, h => by simp only [runP, Option.some.injEq] at h; subst h; exact Alike.refl _
  | i :: p, x, c, h => by
    unfold runP at h
    split at h
    · rename_i hc
      obtain ⟨k, rfl, hk⟩ := canM_pos hc
      rw [canM_true hk] at hc
      have h1 := swapM_alike hr hs k x hk (by simpa using hc)
      exact h1.trans (runP_alike hr hs p _ c (by simpa using h))
    · cases h

theorem runP_append {D : Int → Int → Bool} : ∀ (p q x : List Int), runP D x (p ++ q) = (runP D x p).bind (fun c => runP D c q)
  | [], q, x => rfl
  | i :: p, q, x => by
    show (if canM D x i then runP D (swapM x i.toNat) (p ++ q) else none) = ((if canM D x i then runP D (swapM x i.toNat) p else none).bind fun c => runP D c q)
    split
    · exact runP_append p q _
    · rfl

/-- The inner loop of Path: the letter at k + d is brought to k. -/
def downP (k : Nat) : Nat → List Int
  | 0 => []
  | d + 1 => ((k + d : Nat) : Int) :: downP k d
def downM (x : List Int) (k : Nat) : Nat → List Int
  | 0 => x
  | d + 1 => downM (swapM x (k + d)) k d

theorem nth_swapM {x : List Int} {i t : Nat} (h : i + 1 < x.length) : nth (swapM x i) t = if t = i then nth x (i + 1) else if t = i + 1 then nth x i else nth x t := by
  unfold swapM nth
  simp only [List.getD, List.getElem?_set, List.length_set]
  by_cases h1 : t = i
  · subst h1; rw [if_neg (by omega)]; simp [show t < x.length by omega]
  · by_cases h2 : t = i + 1
    · subst h2; simp [h]
    · simp [h1, h2, show ¬ i = t by omega, show ¬ i + 1 = t by omega]

/-- If no letter from k to k + d depends on the one at k + d, it can be brought to k; what lies before k stays. -/
theorem down_ok {D : Int → Int → Bool} (b : Int) (k : Nat) : ∀ (d : Nat) (x : List Int), k + d < x.length → nth x (k + d) = b → (∀ t, k ≤ t → t < k + d → D (nth x t) b = false) →
    runP D x (downP k d) = some (downM x k d) ∧ (downM x k d).length = x.length ∧ nth (downM x k d) k = b ∧ ∀ t, t < k → nth (downM x k d) t = nth x t
  | 0, x, h, hb, _ => ⟨rfl, rfl, hb, fun _ _ => rfl⟩
  | d + 1, x, h, hb, hd => by
    have hk : k + d + 1 < x.length := by omega
    have hc : canM D x ((k + d : Nat) : Int) = true := by
      rw [canM_true hk, show k + d + 1 = k + (d + 1) by omega, hb, hd (k + d) (by omega) (by omega)]; rfl
    obtain ⟨h1, h2, h3, h4⟩ := down_ok (D := D) b k d (swapM x (k + d)) (by rw [swapM_length]; omega) (by rw [nth_swapM hk, if_pos rfl, show k + d + 1 = k + (d + 1) by omega]; exact hb)
      (fun t ht1 ht2 => by rw [nth_swapM hk, if_neg (by omega), if_neg (by omega)]; exact hd t ht1 (by omega))
    refine ⟨?_, h2.trans (swapM_length _ _), h3, fun t ht => ?_⟩
    · show (if canM D x ((k + d : Nat) : Int) then runP D (swapM x ((k + d : Nat) : Int).toNat) (downP k d) else none) = _
      rw [if_pos hc, Int.toNat_natCast]; exact h1
    · show nth (downM (swapM x (k + d)) k d) t = nth x t
      rw [h4 t ht, nth_swapM hk, if_neg (by omega), if_neg (by omega)]

theorem free_before {D : Int → Int → Bool} {a : Int} : ∀ {w : List Int} {i : Nat}, free D w a = some i → i < w.length ∧ nth w i = a ∧ ∀ t, t < i → nth w t ≠ a ∧ D a (nth w t) = false
  | [], i, h => by simp [free] at h
  | c :: w, i, h => by
    unfold free at h
    split at h
    · rename_i hc
      simp only [Option.some.injEq] at h
      subst h
      exact ⟨by simp, by simpa [nth] using hc, fun t ht => by omega⟩
    · rename_i hc
      split at h
      · cases h
      · rename_i hd
        obtain ⟨j, hj, rfl⟩ := Option.map_eq_some_iff.1 h
        obtain ⟨h1, h2, h3⟩ := free_before hj
        refine ⟨by simp; omega, by simpa [nth] using h2, fun t ht => ?_⟩
        cases t with
        | zero => exact ⟨by simpa [nth] using hc, by simpa [nth] using hd⟩
        | succ t => have := h3 t (by omega); simpa [nth] using this

theorem take_nth {x y : List Int} {k : Nat} (hx : k ≤ x.length) (hy : k ≤ y.length) (h : ∀ t, t < k → nth x t = nth y t) : x.take k = y.take k := by
  apply List.ext_getElem?
  intro t
  by_cases ht : t < k
  · rw [List.getElem?_take_of_lt ht, List.getElem?_take_of_lt ht, List.getElem?_eq_getElem (by omega), List.getElem?_eq_getElem (by omega), ← nth_lt (by omega), ← nth_lt (by omega), h t ht]
  · rw [List.getElem?_eq_none (by rw [List.length_take]; omega), List.getElem?_eq_none (by rw [List.length_take]; omega)]

/-- One round of Path: letter k of y is found behind k, nothing before it hinders it, and it is brought to k. -/
theorem path_step {D : Int → Int → Bool} (hr : ∀ a, D a a = true) (hs : ∀ a b, D a b = D b a) {cur y : List Int} {k : Nat} (hk : k < y.length) (ha : Alike D cur y) (ht : ∀ t, t < k → nth cur t = nth y t) :
    ∃ d, k + d < cur.length ∧ (∀ t, t < d → nth cur (k + t) ≠ nth y k) ∧ nth cur (k + d) = nth y k ∧ runP D cur (downP k d) = some (downM cur k d) ∧ (downM cur k d).length = cur.length ∧ Alike D (downM cur k d) y ∧ ∀ t, t < k + 1 → nth (downM cur k d) t = nth y t := by
  have hl := ha.length hr
  have h1 : Alike D (cur.drop k) (y.drop k) := by
    have h2 := ha
    rw [← List.take_append_drop k cur, ← List.take_append_drop k y, take_nth (by omega) (by omega) ht] at h2
    exact h2.cancel
  have hy : y.drop k = nth y k :: y.drop (k + 1) := by rw [List.drop_eq_getElem_cons hk, ← nth_lt hk]
  have h3 : (free D (y.drop k) (nth y k)).isSome = true := by rw [hy]; simp [free]
  rw [free_iff hr] at h3
  have h4 : (free D (cur.drop k) (nth y k)).isSome = true := by
    rw [free_iff hr]
    intro c hc
    rw [h1 _ c hc]
    exact h3 c hc
  obtain ⟨d, hd⟩ := Option.isSome_iff_exists.1 h4
  obtain ⟨f1, f2, f3⟩ := free_before hd
  have hn : ∀ t, nth (cur.drop k) t = nth cur (k + t) := fun t => by unfold nth; simp [List.getD, List.getElem?_drop]
  rw [List.length_drop] at f1
  rw [hn] at f2
  obtain ⟨g1, g2, g3, g4⟩ := down_ok (D := D) (nth y k) k d cur (by omega) f2 (fun t t1 t2 => by
    have := (f3 (t - k) (by omega)).2
    rw [hn, show k + (t - k) = t by omega, hs] at this
    exact this)
  refine ⟨d, by omega, fun t h => by have := (f3 t h).1; rwa [hn] at this, f2, g1, g2, (runP_alike hr hs _ _ _ g1).symm.trans ha, fun t h => ?_⟩
  by_cases htk : t < k
  · rw [g4 t htk]; exact ht t htk
  · obtain rfl : t = k := by omega
    exact g3

theorem downP_length (k : Nat) : ∀ d, (downP k d).length = d
  | 0 => rfl
  | d + 1 => by show (downP k d).length + 1 = d + 1; rw [downP_length k d]

end Go.Lin.Wv
