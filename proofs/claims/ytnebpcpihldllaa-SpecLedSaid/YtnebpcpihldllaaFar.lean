/- Plain: how long the shortest word is that tells two states apart, round by round, and the first such word read off that table. -/
import Derived.Test.YtnebpcpihldllaaBfs
namespace Go.Lin

/-- No word of at most n calls tells a and b apart. -/
def Up (M K : Mach) (n a b : Nat) : Prop := ∀ v, OkW M.k v → v.length ≤ n → anM M a v = anM K b v

/-- The call op tells a and b apart, or leads to two states for which f is n. -/
def hitM (M K : Mach) (f : Nat → Nat → Nat) (n a b op : Nat) : Bool :=
  decide (M.sy a op ≠ K.sy b op) || (decide (0 < f (M.nx a op) (K.nx b op)) && decide (f (M.nx a op) (K.nx b op) = n))

/-- After n rounds: the length of the shortest word that tells a and b apart, if it is at most n; else 0. -/
def lev (M K : Mach) : Nat → Nat → Nat → Nat
  | 0, _, _ => 0
  | n + 1, a, b => if 0 < lev M K n a b then lev M K n a b else if (List.range M.k).any (hitM M K (lev M K n) n a b) then n + 1 else 0

theorem up_succ {M K : Mach} {n a b : Nat} (h : ∀ o, o < M.k → M.sy a o = K.sy b o ∧ Up M K n (M.nx a o) (K.nx b o)) : Up M K (n + 1) a b := by
  intro v hv hl
  cases v with
  | nil => rfl
  | cons o v =>
    obtain ⟨h1, h2⟩ := h o (hv o (by simp))
    show M.sy a o :: anM M (M.nx a o) v = K.sy b o :: anM K (K.nx b o) v
    rw [h1, h2 v (fun x hx => hv x (by simp [hx])) (by simpa using hl)]

theorem up_parts {M K : Mach} {n a b : Nat} (h : Up M K (n + 1) a b) {o : Nat} (ho : o < M.k) : M.sy a o = K.sy b o ∧ Up M K n (M.nx a o) (K.nx b o) := by
  constructor
  · have := h [o] (fun x hx => by simp at hx; omega) (by simp)
    simpa [anM] using this
  · intro v hv hl
    have := h (o :: v) (fun x hx => by
      rcases List.mem_cons.1 hx with rfl | hx
      · exact ho
      · exact hv x hx) (by simpa using hl)
    simp only [anM, List.cons.injEq] at this
    exact this.2

theorem Up.mono {M K : Mach} {n m a b : Nat} (h : Up M K n a b) (hm : m ≤ n) : Up M K m a b := fun v hv hl => h v hv (by omega)

theorem lev_law (M K : Mach) : ∀ n a b, (lev M K n a b = 0 → Up M K n a b) ∧ (0 < lev M K n a b → lev M K n a b ≤ n ∧ Up M K (lev M K n a b - 1) a b ∧ ¬ Up M K (lev M K n a b) a b) := by
  intro n
  induction n with
  | zero =>
    intro a b
    refine ⟨fun _ v _ hl => ?_, fun h => absurd h (by simp [lev])⟩
    obtain rfl : v = [] := List.eq_nil_of_length_eq_zero (by omega)
    rfl
  | succ n ih =>
    intro a b
    obtain ⟨i1, i2⟩ := ih a b
    unfold lev
    by_cases hp : 0 < lev M K n a b
    · rw [if_pos hp]
      obtain ⟨h1, h2, h3⟩ := i2 hp
      exact ⟨fun h => absurd hp (by omega), fun _ => ⟨by omega, h2, h3⟩⟩
    · rw [if_neg hp]
      have hu := i1 (by omega)
      by_cases hh : (List.range M.k).any (hitM M K (lev M K n) n a b) = true
      · rw [if_pos hh]
        refine ⟨fun h => by omega, fun _ => ⟨Nat.le_refl _, hu, fun hu1 => ?_⟩⟩
        rw [List.any_eq_true] at hh
        obtain ⟨o, ho, ht⟩ := hh
        have ho' : o < M.k := by simpa using ho
        obtain ⟨h1, h2⟩ := up_parts hu1 ho'
        unfold hitM at ht
        simp [h1] at ht
        exact ((ih _ _).2 ht.1).2.2 (by rw [ht.2]; exact h2)
      · rw [if_neg hh]
        refine ⟨fun _ => up_succ (fun o ho => ?_), fun h => by omega⟩
        have hno : hitM M K (lev M K n) n a b o = false := by
          cases hx : hitM M K (lev M K n) n a b o with
          | false => rfl
          | true => exact absurd (List.any_eq_true.2 ⟨o, by simpa using ho, hx⟩) hh
        unfold hitM at hno
        simp at hno
        obtain ⟨h1, h2⟩ := hno
        refine ⟨h1, ?_⟩
        obtain ⟨j1, j2⟩ := ih (M.nx a o) (K.nx b o)
        by_cases hz : 0 < lev M K n (M.nx a o) (K.nx b o)
        · obtain ⟨k1, k2, k3⟩ := j2 hz
          have hne := h2 hz
          obtain ⟨m, rfl⟩ : ∃ m, n = m + 1 := ⟨n - 1, by omega⟩
          exact absurd ((up_parts hu ho).2.mono (m := lev M K (m + 1) (M.nx a o) (K.nx b o)) (by omega)) k3
        · exact j1 (by omega)

/-- The values of lev n and lev (n + 1) differ at most where the former is 0 and the latter n + 1. -/
theorem lev_step (M K : Mach) (n a b : Nat) : lev M K (n + 1) a b = lev M K n a b ∨ (lev M K n a b = 0 ∧ lev M K (n + 1) a b = n + 1) := by
  show (if 0 < lev M K n a b then lev M K n a b else if (List.range M.k).any (hitM M K (lev M K n) n a b) then n + 1 else 0) = _ ∨ (_ ∧ (if 0 < lev M K n a b then lev M K n a b else if (List.range M.k).any (hitM M K (lev M K n) n a b) then n + 1 else 0) = n + 1)
  by_cases hp : 0 < lev M K n a b
  · rw [if_pos hp]; exact .inl rfl
  · rw [if_neg hp]
    have h0 : lev M K n a b = 0 := by omega
    by_cases hh : (List.range M.k).any (hitM M K (lev M K n) n a b) = true
    · rw [if_pos hh]; exact .inr ⟨h0, rfl⟩
    · rw [if_neg hh, h0]; exact .inl rfl

/-- A shortest word has at most as many calls as there are pairs of states. -/
theorem shortest_len {M K : Mach} (hM : M.WF) (hK : K.WF) (hk : M.k = K.k) {a b : Nat} (ha : a < M.n) (hb : b < K.n) {ws : List Nat} (hw : OkW M.k ws) (ht : anM M a ws ≠ anM K b ws) (hs : Up M K (ws.length - 1) a b) : ws.length ≤ M.n * K.n := by
  have hnd : ((List.range ws.length).map fun i => stM M a (ws.take i) * K.n + stM K b (ws.take i)).Nodup := by
    rw [List.nodup_iff_pairwise_ne, List.pairwise_iff_getElem]
    intro i j hi hj hij
    simp only [List.length_map, List.length_range] at hi hj
    simp only [List.getElem_map, List.getElem_range]
    intro he
    have hoi : OkW M.k (ws.take i) := hw.take _
    have hoj : OkW M.k (ws.take j) := hw.take _
    have hlt1 := stM_lt hK hb (by rw [← hk]; exact hoi)
    have hlt2 := stM_lt hK hb (by rw [← hk]; exact hoj)
    have e2 : stM K b (ws.take i) = stM K b (ws.take j) := by
      have := congrArg (· % K.n) he
      simp only [Nat.mul_add_mod_self_right] at this
      rwa [Nat.mod_eq_of_lt hlt1, Nat.mod_eq_of_lt hlt2] at this
    have e1 : stM M a (ws.take i) = stM M a (ws.take j) := by
      rw [e2] at he
      exact Nat.eq_of_mul_eq_mul_right (by have := hK.n1; omega) (Nat.add_right_cancel he)
    have s1 := hs (ws.take j) hoj (by rw [List.length_take]; omega)
    refine ht ?_
    rw [← List.take_append_drop j ws, anM_append, anM_append, s1, ← e1, ← e2]
    congr 1
    have s2 := hs (ws.take i ++ ws.drop j) (fun x hx => by
      rcases List.mem_append.1 hx with hx | hx
      · exact hoi x hx
      · exact hw x (List.mem_of_mem_drop hx)) (by rw [List.length_append, List.length_take, List.length_drop]; omega)
    rw [anM_append, anM_append, hs (ws.take i) hoi (by rw [List.length_take]; omega)] at s2
    exact List.append_cancel_left s2
  have := nodup_lt_length (M.n * K.n) _ hnd (fun x hx => by
    obtain ⟨i, hi, rfl⟩ := List.mem_map.1 hx
    have h1 := stM_lt hM ha (hw.take i)
    have h2 := stM_lt hK hb (by rw [← hk]; exact hw.take i)
    calc stM M a (ws.take i) * K.n + stM K b (ws.take i) < stM M a (ws.take i) * K.n + K.n := by omega
      _ = (stM M a (ws.take i) + 1) * K.n := by rw [Nat.add_mul]; omega
      _ ≤ M.n * K.n := Nat.mul_le_mul_right _ (by omega))
  simpa using this

/-- The length of the shortest word that tells a and b apart; 0: there is none. -/
def dist (M K : Mach) (a b : Nat) : Nat := lev M K (M.n * K.n) a b

theorem shortest_exists {M K : Mach} {a b : Nat} (h : ¬ NoTells M K a b) : ∃ ws, OkW M.k ws ∧ anM M a ws ≠ anM K b ws ∧ 0 < ws.length ∧ Up M K (ws.length - 1) a b := by
  have hv : ∃ v, OkW M.k v ∧ anM M a v ≠ anM K b v := by
    refine Classical.byContradiction fun hn => h fun v hv => Classical.byContradiction fun ht => hn ⟨v, hv, ht⟩
  obtain ⟨v, hv, ht⟩ := hv
  have key : ∀ n, ∀ v, v.length = n → OkW M.k v → anM M a v ≠ anM K b v → ∃ ws, OkW M.k ws ∧ anM M a ws ≠ anM K b ws ∧ 0 < ws.length ∧ Up M K (ws.length - 1) a b := by
    intro n
    induction n using Nat.strongRecOn with
    | _ n ih =>
      intro v hl hv ht
      by_cases hu : Up M K (v.length - 1) a b
      · refine ⟨v, hv, ht, ?_, hu⟩
        cases v with
        | nil => exact absurd rfl ht
        | cons x v => simp
      · have : ∃ u, OkW M.k u ∧ u.length ≤ v.length - 1 ∧ anM M a u ≠ anM K b u :=
          Classical.byContradiction fun hn => hu fun u h1 h2 => Classical.byContradiction fun h3 => hn ⟨u, h1, h2, h3⟩
        obtain ⟨u, h1, h2, h3⟩ := this
        have hpos : 0 < v.length := by
          cases v with
          | nil => exact absurd rfl ht
          | cons x v => simp
        exact ih u.length (by omega) u rfl h1 h3
  exact key _ v rfl hv ht

section
variable {M K : Mach} (hM : M.WF) (hK : K.WF) (hk : M.k = K.k) {a b : Nat} (ha : a < M.n) (hb : b < K.n)
include hM hK hk ha hb

theorem dist_zero : dist M K a b = 0 ↔ NoTells M K a b := by
  constructor
  · intro h
    refine Classical.byContradiction fun hn => ?_
    obtain ⟨ws, h1, h2, h3, h4⟩ := shortest_exists hn
    exact h2 ((lev_law M K _ a b).1 h ws h1 (shortest_len hM hK hk ha hb h1 h2 h4))
  · intro h
    refine Classical.byContradiction fun hn => ?_
    exact ((lev_law M K (M.n * K.n) a b).2 (Nat.pos_of_ne_zero hn)).2.2 (fun v hv _ => h v hv)

theorem dist_of {l : Nat} (h1 : Up M K l a b) (h2 : ¬ Up M K (l + 1) a b) : dist M K a b = l + 1 := by
  have hne : dist M K a b ≠ 0 := fun h => h2 (fun v hv _ => (dist_zero hM hK hk ha hb).1 h v hv)
  obtain ⟨_, h4, h5⟩ := (lev_law M K (M.n * K.n) a b).2 (Nat.pos_of_ne_zero hne)
  show lev M K (M.n * K.n) a b = _
  rcases Nat.lt_trichotomy (lev M K (M.n * K.n) a b) (l + 1) with h | h | h
  · exact absurd (h1.mono (by omega)) h5
  · exact h
  · exact absurd (h4.mono (by omega)) h2

omit hM hK hk ha hb in
theorem dist_pos {l : Nat} (h : dist M K a b = l + 1) : Up M K l a b ∧ ¬ Up M K (l + 1) a b := by
  have hl : lev M K (M.n * K.n) a b = l + 1 := h
  obtain ⟨_, h4, h5⟩ := (lev_law M K (M.n * K.n) a b).2 (by omega)
  rw [hl] at h4 h5
  exact ⟨h4, h5⟩

omit hM hK ha hb in
/-- The last call. -/
theorem first_one {op : Nat} (ho : op < M.k) (hs : M.sy a op ≠ K.sy b op) (hl : ∀ o, o < op → M.sy a o = K.sy b o) : IsFirst M K a b [op] := by
  refine ⟨fun x hx => by simp at hx; omega, by simpa [anM] using hs, fun v hv ht => ?_⟩
  match v, hv, ht with
  | [], _, ht => exact absurd rfl ht
  | [x], hv, ht =>
    refine .inr ⟨rfl, ?_⟩
    have hx : ¬ x < op := fun hx => ht (by simpa [anM] using hl x hx)
    rcases Nat.lt_or_eq_of_le (Nat.le_of_not_lt hx) with h1 | h1
    · exact .inl h1
    · exact .inr ⟨h1, trivial⟩
  | x :: y :: v, _, _ => exact .inl (by simp)

/-- One call more. -/
theorem first_cons {op l : Nat} {ws : List Nat} (h : dist M K a b = l + 2) (ho : op < M.k) (hd : dist M K (M.nx a op) (K.nx b op) = l + 1) (hl : ∀ o, o < op → dist M K (M.nx a o) (K.nx b o) ≠ l + 1)
    (hw : IsFirst M K (M.nx a op) (K.nx b op) ws) : IsFirst M K a b (op :: ws) ∧ ws.length = l + 1 := by
  obtain ⟨u1, u2⟩ := dist_pos h
  have hna : ∀ o, o < M.k → M.nx a o < M.n := fun o ho => hM.nx a ha o ho
  have hnb : ∀ o, o < M.k → K.nx b o < K.n := fun o ho => hK.nx b hb o (by omega)
  have hlen : ws.length = l + 1 := by
    obtain ⟨v1, v2⟩ := dist_pos hd
    have h3 : ¬ ws.length ≤ l := fun h3 => hw.tells (v1 ws hw.ok h3)
    have : ∃ u, OkW M.k u ∧ u.length ≤ l + 1 ∧ anM M (M.nx a op) u ≠ anM K (K.nx b op) u :=
      Classical.byContradiction fun hn => v2 fun u h1 h2 => Classical.byContradiction fun h3 => hn ⟨u, h1, h2, h3⟩
    obtain ⟨u, h4, h5, h6⟩ := this
    have := sle_len (hw.least u h4 h6)
    omega
  refine ⟨⟨fun x hx => ?_, ?_, fun v hv ht => ?_⟩, hlen⟩
  · rcases List.mem_cons.1 hx with rfl | hx
    · exact ho
    · exact hw.ok x hx
  · intro he
    simp only [anM, List.cons.injEq] at he
    exact hw.tells he.2
  · have hvl : ¬ v.length ≤ l + 1 := fun hvl => ht (u1 v hv hvl)
    by_cases hvl2 : v.length = l + 2
    · cases v with
      | nil => simp at hvl2
      | cons x v =>
        have hx : x < M.k := hv x (by simp)
        have hv' : OkW M.k v := fun y hy => hv y (by simp [hy])
        obtain ⟨s1, s2⟩ := up_parts u1 hx
        have ht' : anM M (M.nx a x) v ≠ anM K (K.nx b x) v := by
          intro he; apply ht
          simp only [anM, s1, he]
        have hlv : v.length = l + 1 := by simpa using hvl2
        have hdx := dist_of hM hK hk (hna x hx) (hnb x hx) s2 (fun hu => ht' (hu v hv' (by omega)))
        refine .inr ⟨by simp [hlen, hlv], ?_⟩
        have hle : ¬ x < op := fun hx2 => hl x hx2 hdx
        rcases Nat.lt_or_eq_of_le (Nat.le_of_not_lt hle) with h1 | h1
        · exact .inl h1
        · subst h1
          rcases hw.least v hv' ht' with h2 | ⟨_, h2⟩
          · omega
          · exact .inr ⟨rfl, h2⟩
    · exact .inl (by simp [hlen]; omega)

/-- Where the table is not 0, some call goes on. -/
theorem dist_next {l : Nat} (h : dist M K a b = l + 1) : ∃ o, o < M.k ∧ ((l = 0 ∧ M.sy a o ≠ K.sy b o) ∨ (0 < l ∧ dist M K (M.nx a o) (K.nx b o) = l)) := by
  obtain ⟨u1, u2⟩ := dist_pos h
  refine Classical.byContradiction fun hn => u2 (up_succ fun o ho => ?_)
  have hno : ¬ ((l = 0 ∧ M.sy a o ≠ K.sy b o) ∨ (0 < l ∧ dist M K (M.nx a o) (K.nx b o) = l)) := fun hc => hn ⟨o, ho, hc⟩
  cases l with
  | zero =>
    refine ⟨Classical.byContradiction fun hs => hno (.inl ⟨rfl, hs⟩), fun v _ hl => ?_⟩
    obtain rfl : v = [] := List.eq_nil_of_length_eq_zero (by omega)
    rfl
  | succ l =>
    obtain ⟨s1, s2⟩ := up_parts u1 ho
    refine ⟨s1, Classical.byContradiction fun hu => hno (.inr ⟨by omega, ?_⟩)⟩
    exact dist_of hM hK hk (hM.nx a ha o ho) (hK.nx b hb o (by omega)) s2 hu

end
end Go.Lin
