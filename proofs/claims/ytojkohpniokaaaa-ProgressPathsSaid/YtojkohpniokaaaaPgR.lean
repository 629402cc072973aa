/- Plain laws: claims, lassos, ranks: the ranks are raised until they stay exactly if there is no lasso, and then soon. No program in sight. -/
import Derived.Test.YtojkohpniokaaaaPgM
namespace Go.Lin.Pg

/-- Which moves the circles of a claim have; which of these one at least must be. -/
def wi (c t : Int) (m : Mv) : Bool := if c = 0 then !dn m else if c = 1 then (!(th m == t) || !dn m) else ((th m == t) && !dn m)
def mu (c t : Int) (m : Mv) : Bool := if c = 1 then th m == t else true
def clOk (c t : Int) : Bool := (c == 0 && t == 0) || ((c == 1 && isTh t) || (c == 2 && isTh t))
def wt (c t : Int) (m : Mv) : Nat := if mu c t m then 1 else 0

/-! ### Raising -/

/-- A rank is raised if it must be. -/
def relax (ac : Mv → Bool) (w : Mv → Nat) (st : List Int × Bool) (m : Mv) : List Int × Bool :=
  if ac m = true ∧ nth st.1 (fr m).toNat < nth st.1 (tg m).toNat + (w m : Int) then (st.1.set (fr m).toNat (nth st.1 (tg m).toNat + (w m : Int)), true) else st

def raise (ac : Mv → Bool) (w : Mv → Nat) (ms : List Mv) (r : List Int) : List Int × Bool := ms.foldl (relax ac w) (r, false)
def rounds (ac : Mv → Bool) (w : Mv → Nat) (ms : List Mv) (N : Nat) : Nat → List Int
  | 0 => List.replicate N 0
  | k + 1 => (raise ac w ms (rounds ac w ms N k)).1

def wsum (ms : List Mv) (w : Mv → Nat) : List Nat → Nat
  | [] => 0
  | i :: l => (match ms[i]? with | some m => w m | none => 0) + wsum ms w l

theorem wsum_append (ms : List Mv) (w : Mv → Nat) : ∀ u v : List Nat, wsum ms w (u ++ v) = wsum ms w u + wsum ms w v
  | [], v => by simp [wsum]
  | i :: u, v => by simp only [List.cons_append, wsum, wsum_append ms w u v]; omega

section
variable {ac : Mv → Bool} {w : Mv → Nat} {ms : List Mv} {N : Nat}

/-- All moves are between places. -/
def InN (N : Nat) (ms : List Mv) : Prop := ∀ m ∈ ms, (0 ≤ fr m ∧ fr m < (N : Int)) ∧ (0 ≤ tg m ∧ tg m < (N : Int))

theorem goG_in (hN : InN N ms) {may : Mv → Bool} : ∀ (l : List Nat) {p q : Int}, 0 ≤ p ∧ p < (N : Int) → goG ms may p l = some q → 0 ≤ q ∧ q < (N : Int)
  | [], p, q, hp, h => by simp only [goG, Option.some.injEq] at h; subst h; exact hp
  | i :: l, p, q, hp, h => by
    simp only [goG] at h
    cases hm : ms[i]? with
    | none => rw [hm] at h; cases h
    | some m =>
      rw [hm] at h
      simp only at h
      split at h
      · exact goG_in hN l (hN m (List.mem_of_getElem? hm)).2 h
      · cases h

theorem nth_set_same {r : List Int} {i : Nat} {v : Int} (h : i < r.length) : nth (r.set i v) i = v := by
  rw [nth_lt (by simpa using h)]; simp
theorem nth_set_other {r : List Int} {i j : Nat} {v : Int} (h : j ≠ i) : nth (r.set i v) j = nth r j := by
  unfold nth
  simp only [List.getD, List.getElem?_set]
  rw [if_neg (fun e => h e.symm)]

theorem relax_length (st : List Int × Bool) (m : Mv) : (relax ac w st m).1.length = st.1.length := by
  unfold relax; split <;> simp

theorem fold_length : ∀ (l : List Mv) (st : List Int × Bool), (l.foldl (relax ac w) st).1.length = st.1.length
  | [], st => rfl
  | m :: l, st => by rw [List.foldl_cons, fold_length l, relax_length]

theorem rounds_length : ∀ k, (rounds ac w ms N k).length = N
  | 0 => by simp [rounds]
  | k + 1 => by simp only [rounds, raise]; rw [fold_length]; exact rounds_length k

theorem relax_up (st : List Int × Bool) (m : Mv) (hm : (fr m).toNat < st.1.length) (p : Nat) : nth st.1 p ≤ nth (relax ac w st m).1 p := by
  unfold relax
  split
  · rename_i h
    by_cases e : p = (fr m).toNat
    · subst e; simp only; rw [nth_set_same hm]; omega
    · simp only; rw [nth_set_other e]; exact Int.le_refl _
  · exact Int.le_refl _

theorem fold_up : ∀ (l : List Mv) (st : List Int × Bool), (∀ m ∈ l, (fr m).toNat < st.1.length) → ∀ p, nth st.1 p ≤ nth (l.foldl (relax ac w) st).1 p
  | [], st, _, p => Int.le_refl _
  | m :: l, st, h, p => by
    rw [List.foldl_cons]
    exact Int.le_trans (relax_up st m (h m (by simp)) p) (fold_up l _ (fun m' hm' => by rw [relax_length]; exact h m' (by simp [hm'])) p)

/-- If nothing was raised, the ranks stay, and no rank must be raised. -/
theorem fold_same : ∀ (l : List Mv) (st : List Int × Bool), (l.foldl (relax ac w) st).2 = false → (l.foldl (relax ac w) st) = st ∧ st.2 = false ∧ ∀ m ∈ l, ac m = true → nth st.1 (tg m).toNat + (w m : Int) ≤ nth st.1 (fr m).toNat
  | [], st, h => ⟨rfl, h, fun m hm => by cases hm⟩
  | m :: l, st, h => by
    rw [List.foldl_cons] at h ⊢
    obtain ⟨h1, h2, h3⟩ := fold_same l _ h
    rw [h1]
    unfold relax at h2 h3 ⊢
    split
    · rename_i hc
      rw [if_pos hc] at h2; cases h2
    · rename_i hc
      rw [if_neg hc] at h2 h3
      refine ⟨rfl, h2, fun m' hm' ha => ?_⟩
      rcases List.mem_cons.1 hm' with rfl | hm'
      · by_cases h4 : nth st.1 (fr m').toNat < nth st.1 (tg m').toNat + (w m' : Int)
        · exact absurd ⟨ha, h4⟩ hc
        · omega
      · exact h3 m' hm' ha

/-- Once raised, a rank is higher at the end. -/
theorem fold_more : ∀ (l : List Mv) (st : List Int × Bool), (∀ m ∈ l, (fr m).toNat < st.1.length) → st.2 = false → (l.foldl (relax ac w) st).2 = true → ∃ p, nth st.1 p < nth (l.foldl (relax ac w) st).1 p
  | [], st, _, h1, h2 => by rw [List.foldl_nil] at h2; rw [h1] at h2; cases h2
  | m :: l, st, h, h1, h2 => by
    rw [List.foldl_cons] at h2 ⊢
    have hm := h m (by simp)
    have hl : ∀ m' ∈ l, (fr m').toNat < (relax ac w st m).1.length := fun m' hm' => by rw [relax_length]; exact h m' (by simp [hm'])
    by_cases hc : ac m = true ∧ nth st.1 (fr m).toNat < nth st.1 (tg m).toNat + (w m : Int)
    · refine ⟨(fr m).toNat, ?_⟩
      have h3 := fold_up (ac := ac) (w := w) l (relax ac w st m) hl (fr m).toNat
      have h4 : nth (relax ac w st m).1 (fr m).toNat = nth st.1 (tg m).toNat + (w m : Int) := by
        unfold relax; rw [if_pos hc]; exact nth_set_same hm
      omega
    · have h5 : relax ac w st m = st := by unfold relax; rw [if_neg hc]
      rw [h5] at h2 ⊢
      exact fold_more l st (fun m' hm' => h m' (by simp [hm'])) h1 h2

/-- Each rank is the weight of a path. -/
def Held (ac : Mv → Bool) (w : Mv → Nat) (ms : List Mv) (r : List Int) : Prop := ∀ p : Nat, p < r.length → ∃ l q, goG ms ac (p : Int) l = some q ∧ nth r p = (wsum ms w l : Int)

theorem held_fold (hN : InN N ms) : ∀ (l : List Mv) (st : List Int × Bool), (∀ m ∈ l, m ∈ ms) → st.1.length = N → Held ac w ms st.1 → Held ac w ms (l.foldl (relax ac w) st).1
  | [], st, _, _, h => h
  | m :: l, st, hl, hn, h => by
    rw [List.foldl_cons]
    refine held_fold hN l _ (fun m' hm' => hl m' (by simp [hm'])) (by rw [relax_length]; exact hn) ?_
    unfold relax
    split
    · rename_i hc
      intro p hp
      simp only at hp ⊢
      by_cases e : p = (fr m).toNat
      · subst e
        rw [nth_set_same (by simpa using hp)]
        have hb := hN m (hl m (by simp))
        obtain ⟨u, q, h1, h2⟩ := h (tg m).toNat (by rw [hn]; omega)
        obtain ⟨i, hi, him⟩ := List.getElem_of_mem (hl m (by simp))
        have hi2 : ms[i]? = some m := by rw [List.getElem?_eq_getElem hi, him]
        refine ⟨i :: u, q, ?_, ?_⟩
        · simp only [goG, hi2]
          rw [if_pos ⟨by omega, hc.1⟩]
          rw [show (((tg m).toNat : Nat) : Int) = tg m by omega] at h1
          exact h1
        · rw [h2]; simp only [wsum, hi2]; omega
      · rw [nth_set_other e]
        exact h p (by simpa using hp)
    · exact h

theorem nth_replicate (N p : Nat) : nth (List.replicate N 0) p = 0 := by
  unfold nth
  by_cases h : p < N
  · simp [List.getD, h]
  · simp [List.getD, h]

theorem held_rounds (hN : InN N ms) : ∀ k, Held ac w ms (rounds ac w ms N k)
  | 0 => fun p hp => ⟨[], p, rfl, by simp only [rounds]; rw [nth_replicate]; rfl⟩
  | k + 1 => held_fold hN ms _ (fun _ h => h) (rounds_length k) (held_rounds hN k)

/-- A move that is relaxed in a round counts. -/
theorem fold_step (hN : InN N ms) : ∀ (l : List Mv) (st : List Int × Bool), (∀ m ∈ l, m ∈ ms) → st.1.length = N → ∀ m ∈ l, ac m = true → nth st.1 (tg m).toNat + (w m : Int) ≤ nth (l.foldl (relax ac w) st).1 (fr m).toNat
  | [], st, _, _, m, hm, _ => by cases hm
  | m' :: l, st, hl, hn, m, hm, ha => by
    rw [List.foldl_cons]
    have hb := hN m' (hl m' (by simp))
    have hlt : (fr m').toNat < st.1.length := by omega
    have hl2 : ∀ x ∈ l, (fr x).toNat < (relax ac w st m').1.length := fun x hx => by
      have := hN x (hl x (by simp [hx]))
      rw [relax_length, hn]; omega
    rcases List.mem_cons.1 hm with rfl | hm
    · refine Int.le_trans ?_ (fold_up l _ hl2 _)
      unfold relax
      split
      · simp only; rw [nth_set_same hlt]; exact Int.le_refl _
      · rename_i hc
        by_cases h4 : nth st.1 (fr m).toNat < nth st.1 (tg m).toNat + (w m : Int)
        · exact absurd ⟨ha, h4⟩ hc
        · omega
    · have h1 := fold_step hN l (relax ac w st m') (fun x hx => hl x (by simp [hx])) (by rw [relax_length]; exact hn) m hm ha
      have h2 := relax_up (ac := ac) (w := w) st m' hlt (tg m).toNat
      omega

theorem mono_rounds (hN : InN N ms) (k p : Nat) : nth (rounds ac w ms N k) p ≤ nth (rounds ac w ms N (k + 1)) p :=
  fold_up ms _ (fun m hm => by have := hN m hm; rw [rounds_length]; omega) p

/-- After k rounds no path of at most k moves weighs more. -/
theorem cover_rounds (hN : InN N ms) : ∀ (k : Nat) (l : List Nat) (p : Nat) (q : Int), p < N → l.length ≤ k → goG ms ac (p : Int) l = some q → (wsum ms w l : Int) ≤ nth (rounds ac w ms N k) p
  | 0, l, p, q, _, hl, _ => by
    obtain rfl : l = [] := List.length_eq_zero_iff.1 (by omega)
    simp only [rounds]; rw [nth_replicate]; exact Int.le_refl _
  | k + 1, [], p, q, hp, _, h => Int.le_trans (cover_rounds hN k [] p q hp (by simp) h) (mono_rounds hN k p)
  | k + 1, i :: l, p, q, hp, hl, h => by
    simp only [goG] at h
    cases hm : ms[i]? with
    | none => rw [hm] at h; cases h
    | some m =>
      rw [hm] at h
      simp only at h
      split at h
      · rename_i hc
        have hb := hN m (List.mem_of_getElem? hm)
        have ih := cover_rounds hN k l (tg m).toNat q (by omega) (by simpa using hl) (by rw [show (((tg m).toNat : Nat) : Int) = tg m by omega]; exact h)
        have h2 := fold_step (ac := ac) (w := w) hN ms (rounds ac w ms N k, false) (fun _ h => h) (rounds_length k) m (List.mem_of_getElem? hm) hc.2
        have hp2 : (fr m).toNat = p := by omega
        rw [hp2] at h2
        simp only [wsum, hm]
        simp only [rounds, raise]
        simp only at h2
        omega
      · cases h

/-- No circle weighs anything. -/
def NoLasso (ac : Mv → Bool) (w : Mv → Nat) (ms : List Mv) : Prop := ∀ p l, goG ms ac p l = some p → wsum ms w l = 0

/-- Circles can be left out. -/
theorem strip (hN : InN N ms) (hl : NoLasso ac w ms) : ∀ (n : Nat) (l : List Nat) (p : Int) (q : Int), l.length = n → 0 ≤ p ∧ p < (N : Int) → goG ms ac p l = some q → ∃ l', goG ms ac p l' = some q ∧ l'.length < N ∧ wsum ms w l' = wsum ms w l := by
  intro n
  induction n using Nat.strongRecOn with
  | ind n ih =>
    intro l p q hn hp h
    by_cases hlt : l.length < N
    · exact ⟨l, h, hlt, rfl⟩
    · -- the places on the way
      have hsome : ∀ j, ∃ r, goG ms ac p (l.take j) = some r := fun j => by
        rw [← List.take_append_drop j l, goG_append] at h
        cases hr : goG ms ac p (l.take j) with
        | none => rw [hr] at h; simp at h
        | some r => exact ⟨r, rfl⟩
      obtain ⟨pl, hpl⟩ : ∃ pl : Nat → Int, ∀ j, goG ms ac p (l.take j) = some (pl j) := ⟨fun j => (hsome j).choose, fun j => (hsome j).choose_spec⟩
      have hnd : ¬ ((List.range (l.length + 1)).map (fun j => (pl j).toNat)).Nodup := fun hnd => by
        have := nodup_lt_length N _ hnd (fun x hx => by
          obtain ⟨j, _, rfl⟩ := List.mem_map.1 hx
          have := goG_in hN (l.take j) hp (hpl j)
          omega)
        simp at this
        omega
      rw [List.nodup_iff_pairwise_ne, List.pairwise_map] at hnd
      have hex : ∃ i j, i < j ∧ j ≤ l.length ∧ pl i = pl j := by
        by_cases hx : ∃ i j, i < j ∧ j ≤ l.length ∧ pl i = pl j
        · exact hx
        · refine absurd (List.pairwise_iff_getElem.2 (fun i j hi hj hij => ?_)) hnd
          simp only [List.getElem_range]
          simp at hj
          intro e
          have h1 := goG_in hN (l.take i) hp (hpl i)
          have h2 := goG_in hN (l.take j) hp (hpl j)
          exact hx ⟨i, j, hij, by omega, by omega⟩
      obtain ⟨i, j, hij, hj, he⟩ := hex
      have hmid : goG ms ac (pl i) ((l.take j).drop i) = some (pl j) := by
        have h1 := hpl j
        rw [← List.take_append_drop i (l.take j), goG_append, List.take_take, Nat.min_eq_left (by omega), hpl i] at h1
        simpa using h1
      have hend : goG ms ac (pl j) (l.drop j) = some q := by
        rw [← List.take_append_drop j l, goG_append, hpl j] at h
        simpa using h
      have hz : wsum ms w ((l.take j).drop i) = 0 := hl (pl i) _ (by rw [hmid, he])
      have hgo : goG ms ac p (l.take i ++ l.drop j) = some q := by
        rw [goG_append, hpl i]
        simp only [Option.bind_some]
        rw [he]; exact hend
      have hlen : (l.take i ++ l.drop j).length < n := by
        rw [List.length_append, List.length_take, List.length_drop]; omega
      have hws : wsum ms w (l.take i ++ l.drop j) = wsum ms w l := by
        have h1 : l = l.take i ++ ((l.take j).drop i ++ l.drop j) := by
          rw [← List.append_assoc]
          have h2 : l.take i ++ (l.take j).drop i = l.take j := by
            have := List.take_append_drop i (l.take j)
            rw [List.take_take, Nat.min_eq_left (by omega)] at this
            exact this
          rw [h2, List.take_append_drop]
        have h2 := congrArg (wsum ms w) h1
        rw [wsum_append, wsum_append, hz] at h2
        rw [wsum_append]; omega
      obtain ⟨l', r1, r2, r3⟩ := ih _ hlen _ p q rfl hp hgo
      exact ⟨l', r1, r2, r3.trans hws⟩

/-- Without a lasso the ranks stay in the N-th round at the latest. -/
theorem stays (hN : InN N ms) (hl : NoLasso ac w ms) (h1 : 1 ≤ N) : (raise ac w ms (rounds ac w ms N (N - 1))).2 = false := by
  cases hb : (raise ac w ms (rounds ac w ms N (N - 1))).2 with
  | false => rfl
  | true =>
    obtain ⟨p, hp⟩ := fold_more ms (rounds ac w ms N (N - 1), false) (fun m hm => by have := hN m hm; simp only; rw [rounds_length]; omega) rfl hb
    have hpN : p < N := by
      by_cases h : p < N
      · exact h
      · have e1 : nth (rounds ac w ms N (N - 1)) p = 0 := by
          unfold nth
          simp [List.getD, List.getElem?_eq_none (show (rounds ac w ms N (N - 1)).length ≤ p by rw [rounds_length]; omega)]
        have e2 : nth (rounds ac w ms N (N - 1 + 1)) p = 0 := by
          unfold nth
          simp [List.getD, List.getElem?_eq_none (show (rounds ac w ms N (N - 1 + 1)).length ≤ p by rw [rounds_length]; omega)]
        simp only [rounds, raise] at e2
        simp only at hp
        omega
    obtain ⟨l, q, r1, r2⟩ := held_rounds (ac := ac) (w := w) hN (N - 1 + 1) p (by rw [rounds_length]; exact hpN)
    obtain ⟨l', s1, s2, s3⟩ := strip hN hl _ l p q rfl ⟨by omega, by omega⟩ r1
    have := cover_rounds (ac := ac) (w := w) hN (N - 1) l' p q hpN (by omega) s1
    simp only [rounds, raise] at r2
    simp only at hp
    omega

/-- Where ranks stay, no circle weighs anything. -/
theorem no_lasso_of_stays {r : List Int} (hm : ∀ m ∈ ms, ac m = true → nth r (tg m).toNat + (w m : Int) ≤ nth r (fr m).toNat) : NoLasso ac w ms := by
  have key : ∀ (l : List Nat) (p q : Int), goG ms ac p l = some q → nth r q.toNat + (wsum ms w l : Int) ≤ nth r p.toNat := by
    intro l
    induction l with
    | nil =>
      intro p q h
      simp only [goG, Option.some.injEq] at h
      subst h
      simp [wsum]
    | cons i l ih =>
      intro p q h
      simp only [goG] at h
      cases hm' : ms[i]? with
      | none => rw [hm'] at h; cases h
      | some m =>
        rw [hm'] at h
        simp only at h
        split at h
        · rename_i hc
          have h1 := ih _ _ h
          have h2 := hm m (List.mem_of_getElem? hm') hc.2
          rw [hc.1] at h2
          simp only [wsum, hm']
          omega
        · cases h
  intro p l h
  have := key l p p h
  omega

theorem raise_same {r : List Int} (h : (raise ac w ms r).2 = false) : (raise ac w ms r).1 = r ∧ ∀ m ∈ ms, ac m = true → nth r (tg m).toNat + (w m : Int) ≤ nth r (fr m).toNat := by
  obtain ⟨h1, -, h3⟩ := fold_same ms (r, false) h
  exact ⟨congrArg Prod.fst h1, h3⟩

/-- The least k at which the ranks stay. -/
theorem stays_least (hN : InN N ms) (hl : NoLasso ac w ms) (h1 : 1 ≤ N) : ∃ k, k < N ∧ (raise ac w ms (rounds ac w ms N k)).2 = false ∧ ∀ j, j < k → (raise ac w ms (rounds ac w ms N j)).2 = true := by
  have h := stays hN hl h1
  have hex : ∃ k, (raise ac w ms (rounds ac w ms N k)).2 = false := ⟨_, h⟩
  have key : ∀ n, (raise ac w ms (rounds ac w ms N n)).2 = false → ∃ k, k ≤ n ∧ (raise ac w ms (rounds ac w ms N k)).2 = false ∧ ∀ j, j < k → (raise ac w ms (rounds ac w ms N j)).2 = true := by
    intro n
    induction n using Nat.strongRecOn with
    | ind n ih =>
      intro hn
      by_cases hx : ∃ j, j < n ∧ (raise ac w ms (rounds ac w ms N j)).2 = false
      · obtain ⟨j, hj, hf⟩ := hx
        obtain ⟨k, hk, r⟩ := ih j hj hf
        exact ⟨k, by omega, r⟩
      · refine ⟨n, Nat.le_refl _, hn, fun j hj => ?_⟩
        cases hb : (raise ac w ms (rounds ac w ms N j)).2 with
        | true => rfl
        | false => exact absurd ⟨j, hj, hb⟩ hx
  obtain ⟨k, hk, r⟩ := key _ h
  exact ⟨k, by omega, r⟩
end
end Go.Lin.Pg
