/- Plain: a failure of power wherever it comes, and what a book opened then has. Walk: Copy (29). Walks of the law's helpers: cells (21), behind (22), the reference's within (92), IsNumber (56); a slice of bytes. -/
import Derived.Test.YtmohnddglmolgaaGreatDoorKpDoA
import Derived.Shelf.SlMaps.Clone
namespace Go.Lin.Kp
open Go Go.Lin

/-- Each number is one of the two. -/
def mix (F K K' : Nat → Int) : Prop := ∀ i, K' i = F i ∨ K' i = K i

/-- A memory with power, as seen from M0. -/
structure Up (M0 M : Mem) (F K : Nat → Int) (N : Nat → Option Int) : Prop where
  ok : Ok M
  on : M.on = true
  fresh : M.fresh = F
  kept : M.kept = K
  notes : M.notes = N
  fails : M.fails = M0.fails
  opened : M.opened = M0.opened
  plan : M0.plan = 0 → M.plan = 0

/-- A memory whose power has failed, as seen from M0. -/
structure Down (M0 M : Mem) (K : Nat → Int) : Prop where
  ok : Ok M
  off : M.on = false
  kept : M.kept = K
  notes : M.notes = fun _ => none
  fails : M.fails = M0.fails + 1
  opened : M.opened = M0.opened
  plan : M0.plan ≠ 0

/-- Steps are done, or power has failed on the way and what is kept is right by R. -/
def Went (M0 : Mem) (o : Ord) (F K : Nat → Int) (N : Nat → Option Int) (R : (Nat → Int) → Prop) : Prop :=
  (o.1 = 0 ∧ Up M0 o.2 F K N) ∨ (o.1 = 101 ∧ ∃ K', Down M0 o.2 K' ∧ R K')

theorem mix_kept {M : Mem} (l : List Int) : mix M.fresh M.kept (keptOf M l) := fun i => by
  unfold keptOf; split
  · exact .inl rfl
  · exact .inr rfl

theorem Went.bind {M0 : Mem} {o : Ord} {F K F' K' : Nat → Int} {N N' : Nat → Option Int} {R : (Nat → Int) → Prop} (h : Went M0 o F K N R) {g : Mem → Mem} (hg : Steps g) (hp : ∀ M, (g M).plan = M.plan)
    (he : ∀ M : Mem, M.fresh = F → M.kept = K → M.notes = N → (g M).fresh = F' ∧ (g M).kept = K' ∧ (g M).notes = N') (hR : ∀ K', mix F K K' → R K') :
    Went M0 (if o.1 = 0 then o.2.done true g else o) F' K' N' R := by
  rcases h with ⟨e, h⟩ | ⟨e, h⟩
  · rw [if_pos e]
    unfold Mem.done
    rw [if_pos rfl, if_pos h.on]
    unfold Mem.step
    by_cases h1 : o.2.plan = 1
    · rw [if_pos h1]
      refine .inr ⟨rfl, keptOf o.2 o.2.early, ⟨h.ok.fail _, rfl, rfl, rfl, ?_, h.opened, fun e => by have := h.plan e; omega⟩, hR _ ?_⟩
      · show o.2.fails + 1 = _
        rw [h.fails]
      · have := mix_kept (M := o.2) o.2.early
        rw [h.fresh, h.kept] at this; exact this
    · rw [if_neg h1]
      have ht : Ok { o.2 with plan := o.2.plan - 1, steps := o.2.steps + 1 } := Ok.tick h.ok
      obtain ⟨a, b, c, d, e⟩ := hg _ ht h.on
      obtain ⟨p, q, r⟩ := he { o.2 with plan := o.2.plan - 1, steps := o.2.steps + 1 } h.fresh h.kept h.notes
      exact .inl ⟨rfl, a, e, p, q, r, c.trans h.fails, d.trans h.opened, fun e0 => by
        rw [hp]; have := h.plan e0; dsimp only; omega⟩
  · rw [if_neg (by rw [e]; decide)]
    exact .inr ⟨e, h⟩

section
variable {M0 : Mem} {o : Ord} {F K : Nat → Int} {N : Nat → Option Int} {R : (Nat → Int) → Prop}

theorem Went.write (h : Went M0 o F K N R) {c n : Int} (hc : isCell c = true) (hn : isNum n = true) (hR : ∀ K', mix F K K' → R K') : Went M0 (Ord.write o c n) (upd F c.toNat n) K N R := by
  have := h.bind (F' := upd F c.toNat n) (K' := K) (N' := N) (Steps.setF hc hn) (fun _ => rfl) (fun M a b d => ⟨by unfold Mem.setF; dsimp only; rw [a], b, d⟩) hR
  unfold Ord.write Mem.write
  rw [hc, hn]; exact this
theorem Went.flush (h : Went M0 o F K N R) {c : Int} (hc : isCell c = true) (hR : ∀ K', mix F K K' → R K') : Went M0 (Ord.flush o c) F K (upd N c.toNat (some (F c.toNat))) R := by
  have := h.bind (F' := F) (K' := K) (N' := upd N c.toNat (some (F c.toNat))) (Steps.noteF hc) (fun _ => rfl) (fun M a b d => ⟨a, b, by unfold Mem.noteF; dsimp only; rw [a, d]⟩) hR
  unfold Ord.flush Mem.flush
  rw [hc]; exact this
theorem Went.fence (h : Went M0 o F K N R) (hR : ∀ K', mix F K K' → R K') : Went M0 (Ord.fence o) F (fun i => (N i).getD (K i)) (fun _ => none) R := by
  have := h.bind (F' := F) (K' := fun i => (N i).getD (K i)) (N' := fun _ => none) Steps.fenceF (fun _ => rfl) (fun M a b d => ⟨a, by unfold Mem.fenceF fenced; dsimp only; rw [b, d], rfl⟩) hR
  exact this

theorem Went.congr {F' K' : Nat → Int} {N' : Nat → Option Int} (h : Went M0 o F K N R) (a : F = F') (b : K = K') (d : N = N') : Went M0 o F' K' N' R := by
  subst a b d; exact h

theorem mix_same {K' : Nat → Int} (h : mix F F K') : K' = F := funext fun i => (h i).elim id id
theorem mix_upd {K' : Nat → Int} {c : Nat} {n : Int} (h : mix (upd F c n) F K') : K' = F ∨ K' = upd F c n := by
  by_cases hc : K' c = n
  · refine .inr (funext fun i => ?_)
    by_cases e : i = c
    · subst e; rw [hc, upd_same]
    · rw [upd_other _ _ e]
      rcases h i with h1 | h1
      · rw [h1, upd_other _ _ e]
      · exact h1
  · refine .inl (funext fun i => ?_)
    rcases h i with h1 | h1
    · by_cases e : i = c
      · subst e; rw [upd_same] at h1; exact absurd h1 hc
      · rw [h1, upd_other _ _ e]
    · exact h1

/-- A number is put into a cell of a memory all of whose numbers are kept. -/
theorem Went.put (h : Went M0 o F F (fun _ => none) R) {c n : Int} (hc : isCell c = true) (hn : isNum n = true) (h0 : R F) (h1 : R (upd F c.toNat n)) :
    Went M0 (Ord.put o c n) (upd F c.toNat n) (upd F c.toNat n) (fun _ => none) R := by
  have hm : ∀ K', mix (upd F c.toNat n) F K' → R K' := fun K' h => (mix_upd h).elim (fun e => e ▸ h0) (fun e => e ▸ h1)
  refine (((h.write hc hn (fun K' h => (mix_same h) ▸ h0)).flush hc hm).fence hm).congr rfl ?_ rfl
  funext i
  by_cases e : i = c.toNat
  · subst e; rw [upd_same]; simp
  · rw [upd_other _ _ e, upd_other _ _ e]; rfl
end

theorem went_refl {M : Mem} {K : Nat → Int} (hok : Ok M) (hon : M.on = true) (hf : M.fresh = K) (hk : M.kept = K) (hn : M.notes = fun _ => none) (R : (Nat → Int) → Prop) : Went M (0, M) K K (fun _ => none) R :=
  .inl ⟨rfl, hok, hon, hf, hk, hn, rfl, rfl, id⟩

/-- The numbers once the note of a change is undone. -/
def und (K : Nat → Int) : Nat → Int := if K 40 = 1 ∧ 1 ≤ K 41 ∧ K 41 ≤ K 0 then upd K (K 41).toNat (K 42) else K

/-- A book opened on these numbers has these entries. -/
structure Rec (K : Nat → Int) (l : List Int) : Prop where
  len : K 0 = l.length
  small : l.length ≤ 20
  at_ : ∀ i, i < l.length → und K (i + 1) = nth l i

/-- A memory with power, all of whose numbers are kept. -/
structure Cl (M : Mem) (K : Nat → Int) : Prop where
  ok : Ok M
  on : M.on = true
  fresh : M.fresh = K
  kept : M.kept = K
  notes : M.notes = fun _ => none

theorem Up.cl {M0 M : Mem} {K : Nat → Int} (h : Up M0 M K K (fun _ => none)) : Cl M K := ⟨h.ok, h.on, h.fresh, h.kept, h.notes⟩
theorem Cl.went {M : Mem} {K : Nat → Int} (h : Cl M K) (R : (Nat → Int) → Prop) : Went M (0, M) K K (fun _ => none) R := went_refl h.ok h.on h.fresh h.kept h.notes R

theorem Down.start {M0 M : Mem} {K : Nat → Int} (h : Down M0 M K) : Cl M.start K := by
  have := ok_start h.ok
  unfold Mem.start at this ⊢
  rw [if_neg (by rw [h.off]; decide)] at this ⊢
  exact ⟨this, rfl, h.kept, h.kept, h.notes⟩
theorem Cl.start {M : Mem} {K : Nat → Int} (h : Cl M K) : M.start = M := by unfold Mem.start; rw [if_pos h.on]

theorem und_of {K : Nat → Int} (h : K 40 = 0) : und K = K := by unfold und; rw [if_neg (by rw [h]; simp)]

/-- The entries that lie in the cells. -/
theorem Rec.entries {K : Nat → Int} {l : List Int} (h : Rec K l) (hn : K 40 = 0) : entriesOf K (K 0).toNat = l := by
  have hl : (K 0).toNat = l.length := by rw [h.len]; simp
  rw [hl]
  refine ext_nth (Go.Proofs.YtmohnddglmolgaaGreatDoor.len_entries _ _) fun i hi => ?_
  rw [Go.Proofs.YtmohnddglmolgaaGreatDoor.len_entries] at hi
  rw [Go.Proofs.YtmohnddglmolgaaGreatDoor.nth_entries _ hi, ← h.at_ i hi, und_of hn]

theorem Rec.mk' {K : Nat → Int} {l : List Int} (hn : K 40 = 0) (hl : K 0 = l.length) (hs : l.length ≤ 20) (ha : ∀ i, i < l.length → K (i + 1) = nth l i) : Rec K l := ⟨hl, hs, fun i hi => by rw [und_of hn]; exact ha i hi⟩

/-- What opening leaves of a memory. -/
def OpenWent (M : Mem) (l : List Int) (r : Option Bk × Int × Mem) : Prop :=
  (∃ b K, r = (some b, 0, r.2.2) ∧ Cl r.2.2 K ∧ Rec K l ∧ K 40 = 0 ∧ b.list = l ∧ b.fails + b.opened = r.2.2.fails + r.2.2.opened ∧ (M.plan = 0 → r.2.2.plan = 0) ∧ r.2.2.fails + r.2.2.opened = M.fails + M.opened + 1) ∨
  (∃ K, r = (none, 101, r.2.2) ∧ Down M r.2.2 K ∧ Rec K l)

theorem open_cl {M : Mem} {K : Nat → Int} {l : List Int} (hM : Cl M.start K) (h : Rec K l) : OpenWent M.start l M.open_ := by
  have hr : ∀ i, 0 ≤ K i ∧ K i ≤ 999 := fun i => by rw [← hM.fresh]; exact hM.ok.fresh i
  have hs := h.small
  -- the note is undone
  have h1 : Went M.start (undo M.start) (und K) (und K) (fun _ => none) (fun K' => Rec K' l) ∧ Rec (und K) l := by
    unfold undo und
    rw [hM.fresh]
    by_cases hc : K 40 = 1 ∧ 1 ≤ K 41 ∧ K 41 ≤ K 0
    · rw [if_pos hc, if_pos hc]
      obtain ⟨c1, c2, c3⟩ := hc
      have hl := h.len
      have hr2 : Rec (upd K (K 41).toNat (K 42)) l := by
        have e40 : upd K (K 41).toNat (K 42) 40 = K 40 := upd_other _ _ (by omega)
        have e41 : upd K (K 41).toNat (K 42) 41 = K 41 := upd_other _ _ (by omega)
        have e42 : upd K (K 41).toNat (K 42) 42 = K 42 := upd_other _ _ (by omega)
        have e0 : upd K (K 41).toNat (K 42) 0 = K 0 := upd_other _ _ (by omega)
        refine ⟨by rw [e0]; exact hl, hs, fun i hi => ?_⟩
        rw [← h.at_ i hi]
        unfold und
        rw [e40, e41, e42, e0, if_pos ⟨c1, c2, c3⟩, if_pos ⟨c1, c2, c3⟩]
        by_cases e : i + 1 = (K 41).toNat
        · rw [e, upd_same, upd_same]
        · rw [upd_other _ _ e]
      exact ⟨(hM.went _).put (cell_of (by omega) (by omega)) (isNum_iff.2 (hr 42)) h hr2, hr2⟩
    · rw [if_neg hc, if_neg hc]
      exact ⟨hM.went _, h⟩
  obtain ⟨h1, hR⟩ := h1
  have h2 : ∃ K2, Went M.start (unnote (undo M.start)) K2 K2 (fun _ => none) (fun K' => Rec K' l) ∧ Rec K2 l ∧ ((unnote (undo M.start)).1 = 0 → K2 40 = 0) := by
    unfold unnote
    by_cases h4 : (undo M.start).2.fresh 40 = 0
    · rw [if_pos h4]
      refine ⟨_, h1, hR, fun e0 => ?_⟩
      rcases h1 with ⟨_, u⟩ | ⟨e, _⟩
      · rw [← u.fresh]; exact h4
      · rw [e] at e0; cases e0
    · rw [if_neg h4]
      have e0 : upd (und K) 40 0 0 = und K 0 := upd_other _ _ (by decide)
      have hR2 : Rec (upd (und K) 40 0) l := by
        refine Rec.mk' (upd_same _ _ _) (by rw [e0]; exact hR.len) hs fun i hi => ?_
        rw [upd_other _ _ (by omega), ← h.at_ i hi]
      exact ⟨_, h1.put (c := 40) (n := 0) (by decide) (by decide) hR hR2, hR2, fun _ => upd_same _ _ _⟩
  obtain ⟨K2, h2, hR2, h40⟩ := h2
  have hl := h.len
  unfold Mem.open_
  rw [hM.fresh, if_neg (by omega)]
  obtain ⟨o, ho⟩ : ∃ o, unnote (undo M.start) = o := ⟨_, rfl⟩
  rw [ho] at h2 h40 ⊢
  dsimp only
  rcases h2 with ⟨e, u⟩ | ⟨e, K', d, r⟩
  · rw [if_pos e]
    have hk0 : (K 0).toNat = (K2 0).toNat := by rw [h.len, hR2.len]
    exact .inl ⟨_, K2, rfl, ⟨ok_opened u.ok _, u.on, u.fresh, u.kept, u.notes⟩, hR2, h40 e, by dsimp only; rw [u.fresh, hk0]; exact hR2.entries (h40 e), rfl, u.plan, by dsimp only; rw [u.fails, u.opened]; omega⟩
  · rw [if_neg (by rw [e]; decide)]
    exact .inr ⟨K', by rw [e], d, r⟩

/-- A memory and a book on it between two deeds. -/
structure Fine (M : Mem) (b : Bk) (l : List Int) : Prop where
  ok : Ok M
  on : M.on = true
  bk : BkOk b
  list : b.list = l
  era : b.fails + b.opened = M.fails + M.opened
  mem : ∃ K, Cl M K ∧ Rec K l ∧ K 40 = 0

theorem fine_open {M' : Mem} {b : Bk} {K : Nat → Int} {l : List Int} (hc : Cl M' K) (hr : Rec K l) (h4 : K 40 = 0) (hb : b.list = l) (he : b.fails + b.opened = M'.fails + M'.opened) (hbk : BkOk b) : Fine M' b l := ⟨hc.ok, hc.on, hbk, hb, he, K, hc, hr, h4⟩

/-- Opening with power that cannot fail. -/
theorem open_sure {M : Mem} {K : Nat → Int} {l : List Int} (hok : Ok M) (hM : Cl M.start K) (h : Rec K l) (hp : M.start.plan = 0) : ∃ b, M.open_ = (some b, 0, M.open_.2.2) ∧ Fine M.open_.2.2 b l ∧ M.open_.2.2.plan = 0 ∧ M.open_.2.2.fails + M.open_.2.2.opened = M.start.fails + M.start.opened + 1 := by
  rcases open_cl hM h with ⟨b, K', e, hc, hr, h4, hb, he, hpl, hz⟩ | ⟨K', e, hd, hr⟩
  · exact ⟨b, e, fine_open hc hr h4 hb he (bkOk_open hok (by rw [e])), hpl hp, hz⟩
  · exact absurd hp hd.plan

theorem try_cl {M : Mem} {K : Nat → Int} {l : List Int} (hok : Ok M) (hM : Cl M.start K) (h : Rec K l) : ∃ b M', tryOpen 3 M = (some b, M') ∧ Fine M' b l ∧ (M.start.plan = 0 → M'.plan = 0) := by
  rcases open_cl hM h with ⟨b, K', e, hc, hr, h4, hb, he, hpl, _⟩ | ⟨K', e, hd, hr⟩
  · refine ⟨b, M.open_.2.2, ?_, fine_open hc hr h4 hb he (bkOk_open hok (by rw [e])), hpl⟩
    unfold tryOpen
    rw [e]
  · obtain ⟨M1, hM1⟩ : ∃ M1, M.open_.2.2 = M1 := ⟨_, rfl⟩
    rw [hM1] at e hd
    have hp1 : M1.start.plan = 0 := by
      unfold Mem.start; rw [if_neg (by rw [hd.off]; decide)]; exact (hd.ok.off hd.off).1
    obtain ⟨b, e2, hf, hp, _⟩ := open_sure hd.ok hd.start hr hp1
    refine ⟨b, M1.open_.2.2, ?_, hf, fun _ => hp⟩
    unfold tryOpen
    rw [e]
    dsimp only
    rw [if_pos rfl]
    unfold tryOpen
    rw [e2]

/-! ### Deeds -/

/-- Whether a deed is not refused, and the entries behind it. -/
def mayD (l : List Int) (k n : Int) : Bool := isNum n && (if k = 0 then decide (l.length < 20) else decide (1 ≤ k) && decide (k ≤ l.length))
def nextD (l : List Int) (k n : Int) : List Int := if k = 0 then l ++ [n] else l.set (k - 1).toNat n

theorem nth_set {l : List Int} {i j : Nat} {x : Int} (hj : j < l.length) : nth (l.set i x) j = if j = i then x else nth l j := by
  have h2 : j < (l.set i x).length := by rw [List.length_set]; exact hj
  rw [nth_lt h2, List.getElem_set, nth_lt hj]
  by_cases e : i = j
  · rw [if_pos e, if_pos e.symm]
  · rw [if_neg e, if_neg (fun h => e h.symm)]

/-- What a deed leaves. -/
def DeedWent (M : Mem) (b : Bk) (l l' : List Int) (r : Int × Bk × Mem) : Prop :=
  (r.1 = 0 ∧ Fine r.2.2 r.2.1 l' ∧ (M.plan = 0 → r.2.2.plan = 0)) ∨
  (r = (101, b, r.2.2) ∧ ∃ K, Down M r.2.2 K ∧ (Rec K l ∨ Rec K l'))

theorem asked_fine {M : Mem} {b : Bk} {l : List Int} (h : Fine M b l) (n : Int) : askedB M b n = if isNum n then 0 else 103 := by
  unfold askedB
  rw [if_neg (by rw [h.on, h.era]; simp)]

theorem add_fine {M : Mem} {b : Bk} {l : List Int} (h : Fine M b l) {n : Int} (hn : isNum n = true) (h20 : l.length < 20) : DeedWent M b l (l ++ [n]) (M.add b n) := by
  have hbk := bkOk_add (M := M) (n := n) h.bk
  have ha := asked_fine h n
  rw [hn, if_pos rfl] at ha
  have hbl := h.list
  unfold Mem.add at hbk ⊢
  rw [if_pos ha] at hbk ⊢
  rw [hbl] at hbk ⊢
  rw [if_neg (by omega)] at hbk ⊢
  obtain ⟨K, hc, hr, h4⟩ := h.mem
  have hl := hr.len
  have r1 : Rec (upd K (l.length + 1) n) l := Rec.mk' (by rw [upd_other _ _ (by omega)]; exact h4) (by rw [upd_other _ _ (by omega)]; exact hl) hr.small fun i hi => by
    rw [upd_other _ _ (by omega), ← hr.at_ i hi, und_of h4]
  have r2 : Rec (upd (upd K (l.length + 1) n) 0 (l.length + 1)) (l ++ [n]) := Rec.mk' (by rw [upd_other _ _ (by omega), upd_other _ _ (by omega)]; exact h4) (by rw [upd_same]; simp) (by simp; omega) fun i hi => by
    rw [upd_other _ _ (by omega)]
    rw [List.length_append, List.length_singleton] at hi
    by_cases e : i = l.length
    · subst e
      rw [upd_same, nth_append_right (Nat.le_refl _), Nat.sub_self]; rfl
    · rw [upd_other _ _ (by omega), nth_append_left (by omega), ← hr.at_ i (by omega), und_of h4]
  have hw := ((hc.went (fun K' => Rec K' l ∨ Rec K' (l ++ [n]))).put (c := l.length + 1) (n := n) (cell_of (by omega) (by omega)) hn (.inl hr) (.inl (by rw [show ((l.length : Int) + 1).toNat = l.length + 1 by omega]; exact r1))).put (c := 0) (n := l.length + 1) (by decide) (num_of (by omega) (by omega))
    (.inl (by rw [show ((l.length : Int) + 1).toNat = l.length + 1 by omega]; exact r1)) (.inr (by rw [show ((l.length : Int) + 1).toNat = l.length + 1 by omega]; exact r2))
  have ho : addO M b n = Ord.put (Ord.put (0, M) ((l.length : Int) + 1) n) 0 ((l.length : Int) + 1) := by unfold addO; rw [hbl]
  rw [ho] at hbk ⊢
  obtain ⟨o, hoo⟩ : ∃ o, Ord.put (Ord.put (0, M) ((l.length : Int) + 1) n) 0 ((l.length : Int) + 1) = o := ⟨_, rfl⟩
  rw [hoo] at hw hbk ⊢
  dsimp only at hbk ⊢
  rcases hw with ⟨e, u⟩ | ⟨e, K', d, r⟩
  · rw [if_pos e] at hbk ⊢
    exact .inl ⟨e, fine_open u.cl (by rw [show ((l.length : Int) + 1).toNat = l.length + 1 by omega]; exact r2) (by
      show upd (upd K ((l.length : Int) + 1).toNat n) 0 ((l.length : Int) + 1) 40 = 0
      rw [upd_other _ _ (by omega), upd_other _ _ (by omega)]; exact h4) rfl (by dsimp only; rw [h.era, u.fails, u.opened]) hbk, u.plan⟩
  · rw [if_neg (by rw [e]; decide)]
    exact .inr ⟨by rw [e], K', d, r⟩

theorem change_fine {M : Mem} {b : Bk} {l : List Int} (h : Fine M b l) {k n : Int} (hn : isNum n = true) (h1 : 1 ≤ k) (h2 : k ≤ l.length) : DeedWent M b l (l.set (k - 1).toNat n) (M.change b k n) := by
  have hbk := bkOk_change (M := M) (i := k) (n := n) h.bk
  have ha := asked_fine h n
  rw [hn, if_pos rfl] at ha
  have hbl := h.list
  have hbk0 := h.bk
  unfold Mem.change at hbk ⊢
  rw [if_pos ha] at hbk ⊢
  rw [hbl] at hbk ⊢
  rw [if_pos ⟨h1, h2⟩] at hbk ⊢
  obtain ⟨K, hc, hr, h4⟩ := h.mem
  have hl := hr.len
  have hs := hr.small
  obtain ⟨j, rfl⟩ : ∃ j : Nat, k = (j : Int) + 1 := ⟨(k - 1).toNat, by omega⟩
  have ej : ((j : Int) + 1 - 1).toNat = j := by omega
  have ej2 : ((j : Int) + 1).toNat = j + 1 := by omega
  rw [ej] at hbk ⊢
  have hj : j < l.length := by omega
  have hw : isNum (nth l j) = true := by rw [nth_lt hj]; exact hbk0.2 _ (by rw [hbl]; exact List.getElem_mem hj)
  have ha0 : ∀ i, i < l.length → K (i + 1) = nth l i := fun i hi => by rw [← hr.at_ i hi, und_of h4]
  obtain ⟨was, hwas⟩ : ∃ x, nth l j = x := ⟨_, rfl⟩
  rw [hwas] at hw hbk ⊢
  -- what is kept on the way
  have rA : ∀ K', (∀ i, i ≠ 41 → i ≠ 42 → K' i = K i) → Rec K' l := fun K' hK => Rec.mk' (by rw [hK _ (by decide) (by decide)]; exact h4) (by rw [hK _ (by decide) (by decide)]; exact hl) hs fun i hi => by rw [hK _ (by omega) (by omega)]; exact ha0 i hi
  obtain ⟨K1, hK1⟩ : ∃ K1, upd (upd K 41 ((j : Int) + 1)) 42 was = K1 := ⟨_, rfl⟩
  have k41 : K1 41 = (j : Int) + 1 := by rw [← hK1, upd_other _ _ (by decide), upd_same]
  have k42 : K1 42 = was := by rw [← hK1, upd_same]
  have kot : ∀ i, i ≠ 41 → i ≠ 42 → K1 i = K i := fun i a b => by rw [← hK1, upd_other _ _ b, upd_other _ _ a]
  have rB : ∀ x, Rec (upd (upd K1 40 1) (j + 1) x) l := fun x => by
    have e40 : upd (upd K1 40 1) (j + 1) x 40 = 1 := by rw [upd_other _ _ (by omega), upd_same]
    have e41 : upd (upd K1 40 1) (j + 1) x 41 = (j : Int) + 1 := by rw [upd_other _ _ (by omega), upd_other _ _ (by omega)]; exact k41
    have e42 : upd (upd K1 40 1) (j + 1) x 42 = was := by rw [upd_other _ _ (by omega), upd_other _ _ (by omega)]; exact k42
    have e0 : upd (upd K1 40 1) (j + 1) x 0 = l.length := by rw [upd_other _ _ (by omega), upd_other _ _ (by omega), kot _ (by decide) (by decide)]; exact hl
    refine ⟨e0, hs, fun i hi => ?_⟩
    unfold und
    rw [e40, e41, e42, e0, if_pos ⟨rfl, by omega, by omega⟩, ej2]
    by_cases e : i = j
    · subst e; rw [upd_same]; exact hwas.symm
    · rw [upd_other _ _ (by omega), upd_other _ _ (by omega), upd_other _ _ (by omega), kot _ (by omega) (by omega)]; exact ha0 i hi
  have rB0 : Rec (upd K1 40 1) l := by
    have := rB (upd K1 40 1 (j + 1))
    rwa [show upd (upd K1 40 1) (j + 1) (upd K1 40 1 (j + 1)) = upd K1 40 1 from funext fun i => by
      by_cases e : i = j + 1
      · subst e; rw [upd_same]
      · rw [upd_other _ _ e]] at this
  have r4 : upd (upd (upd K1 40 1) (j + 1) n) 40 0 40 = 0 := upd_same _ _ _
  have rC : Rec (upd (upd (upd K1 40 1) (j + 1) n) 40 0) (l.set j n) := Rec.mk' r4 (by rw [upd_other _ _ (by decide), upd_other _ _ (by omega), upd_other _ _ (by decide), kot _ (by decide) (by decide), List.length_set]; exact hl) (by rw [List.length_set]; exact hs) fun i hi => by
    rw [List.length_set] at hi
    rw [upd_other _ _ (by omega), nth_set hi]
    by_cases e : i = j
    · subst e; rw [upd_same, if_pos rfl]
    · rw [upd_other _ _ (by omega), upd_other _ _ (by omega), kot _ (by omega) (by omega), if_neg e]; exact ha0 i hi
  -- the steps
  have g0 : ∀ K', mix K K K' → Rec K' l ∨ Rec K' (l.set j n) := fun K' hm => .inl (rA K' fun i _ _ => by rw [mix_same hm])
  have g1 : ∀ K', mix (upd K 41 ((j : Int) + 1)) K K' → Rec K' l ∨ Rec K' (l.set j n) := fun K' hm => .inl (rA K' fun i a _ => by
    rcases hm i with e | e
    · rw [e, upd_other _ _ a]
    · exact e)
  have g2 : ∀ K', mix K1 K K' → Rec K' l ∨ Rec K' (l.set j n) := fun K' hm => .inl (rA K' fun i a b => by
    rcases hm i with e | e
    · rw [e, kot i a b]
    · exact e)
  have s1 := (hc.went (fun K' => Rec K' l ∨ Rec K' (l.set j n))).write (c := 41) (n := (j : Int) + 1) (by decide) (num_of (by omega) (by omega)) g0
  have s2 := s1.write (c := 42) (n := was) (by decide) hw g1
  have s2 := s2.congr (F' := K1) (show upd (upd K 41 ((j : Int) + 1)) 42 was = K1 from hK1) rfl rfl
  have s3 := ((s2.flush (c := 41) (by decide) g2).flush (c := 42) (by decide) g2).fence g2
  have s3 := s3.congr (F' := K1) (K' := K1) rfl (by
    funext i
    show (upd (upd (fun _ => none) 41 (some (K1 41))) 42 (some (K1 42)) i).getD (K i) = K1 i
    by_cases a : i = 42
    · subst a; rw [upd_same]; rfl
    · rw [upd_other _ _ a]
      by_cases e : i = 41
      · subst e; rw [upd_same]; rfl
      · rw [upd_other _ _ e, kot i e a]; rfl) rfl
  have s4 := s3.put (c := 40) (n := 1) (by decide) (by decide) (.inl (rA _ kot)) (.inl rB0)
  have s5 := s4.put (c := (j : Int) + 1) (n := n) (cell_of (by omega) (by omega)) hn (.inl rB0) (.inl (by rw [ej2]; exact rB n))
  have s6 := s5.put (c := 40) (n := 0) (by decide) (by decide) (.inl (by rw [ej2]; exact rB n)) (.inr (by rw [ej2]; exact rC))
  have ho : changeO M ((j : Int) + 1) was n = Ord.put (Ord.put (Ord.put (Ord.fence (Ord.flush (Ord.flush (Ord.write (Ord.write (0, M) 41 ((j : Int) + 1)) 42 was) 41) 42)) 40 1) ((j : Int) + 1) n) 40 0 := rfl
  rw [← ho] at s6
  obtain ⟨o, hoo⟩ : ∃ o, changeO M ((j : Int) + 1) was n = o := ⟨_, rfl⟩
  rw [hoo] at s6 hbk ⊢
  dsimp only at hbk ⊢
  rcases s6 with ⟨e, u⟩ | ⟨e, K', d, r⟩
  · rw [if_pos e] at hbk ⊢
    exact .inl ⟨e, fine_open u.cl (by rw [ej2]; exact rC) (by rw [ej2]; exact r4) rfl (by dsimp only; rw [h.era, u.fails, u.opened]) hbk, u.plan⟩
  · rw [if_neg (by rw [e]; decide)]
    exact .inr ⟨by rw [e], K', d, r⟩

/-- A deed that may be done: done, or power has failed. -/
theorem doD_may {M : Mem} {b : Bk} {l : List Int} (h : Fine M b l) {k n : Int} (hm : mayD l k n = true) : DeedWent M b l (nextD l k n) (doD M b k n) := by
  unfold mayD at hm
  rw [Bool.and_eq_true] at hm
  unfold doD nextD
  by_cases hk : k = 0
  · rw [if_pos hk, if_pos hk]
    rw [if_pos hk, decide_eq_true_eq] at hm
    exact add_fine h hm.1 hm.2
  · rw [if_neg hk, if_neg hk]
    rw [if_neg hk, Bool.and_eq_true, decide_eq_true_eq, decide_eq_true_eq] at hm
    exact change_fine h hm.1 hm.2.1 hm.2.2

/-- A deed that is refused. -/
theorem doD_not {M : Mem} {b : Bk} {l : List Int} (h : Fine M b l) {k n : Int} (hm : mayD l k n = false) : ∃ e : Int, (e = 103 ∨ e = 4 ∨ e = 5) ∧ doD M b k n = (e, b, M) := by
  have ha := asked_fine h n
  have hs : l.length ≤ 20 := by rw [← h.list]; exact h.bk.1
  unfold doD Mem.add Mem.change
  rw [h.list]
  by_cases hn : isNum n = true
  · unfold mayD at hm
    rw [hn, if_pos rfl] at ha
    rw [hn, Bool.true_and] at hm
    by_cases hk : k = 0
    · rw [if_pos hk, decide_eq_false_iff_not] at hm
      rw [if_pos hk, if_pos ha, if_pos (by omega)]
      exact ⟨4, .inr (.inl rfl), rfl⟩
    · rw [if_neg hk] at hm
      rw [if_neg hk, if_pos ha, if_neg (fun e => by simp [e.1, e.2] at hm)]
      exact ⟨5, .inr (.inr rfl), rfl⟩
  · rw [if_neg hn] at ha
    rw [ha]
    refine ⟨103, .inl rfl, ?_⟩
    split <;> rfl

/-- Without power nothing is done. -/
theorem doD_off {M : Mem} (b : Bk) (k n : Int) (h : M.on = false ∨ b.fails + b.opened ≠ M.fails + M.opened) : doD M b k n = (101, b, M) := by
  have ha : askedB M b n = 101 := by unfold askedB; rw [if_pos h]
  unfold doD Mem.add Mem.change
  rw [ha]
  split <;> rfl

/-- A deed with power that cannot fail. -/
theorem doD_sure {M : Mem} {b : Bk} {l : List Int} (h : Fine M b l) (hp : M.plan = 0) (k n : Int) : ∃ l', Fine (doD M b k n).2.2 (doD M b k n).2.1 l' ∧ (doD M b k n).2.2.plan = 0 := by
  cases hm : mayD l k n with
  | true =>
    rcases doD_may h hm with ⟨_, hf, hpl⟩ | ⟨_, K, hd, _⟩
    · exact ⟨_, hf, hpl hp⟩
    · exact absurd hp hd.plan
  | false =>
    obtain ⟨e, _, hr⟩ := doD_not h hm
    rw [hr]
    exact ⟨l, h, hp⟩

/-- A failure between two deeds loses nothing. -/
theorem crash_fine {M : Mem} {b : Bk} {l c : List Int} (h : Fine M b l) (hc : areEarly c = true) : M.crash c = (0, M.fail c) ∧ ∃ b' M', tryOpen 3 (M.fail c) = (some b', M') ∧ Fine M' b' l := by
  obtain ⟨K, hM, hr, _⟩ := h.mem
  have hk : keptOf M c = K := funext fun i => by
    unfold keptOf; rw [hM.fresh, hM.kept]; split <;> rfl
  refine ⟨by unfold Mem.crash; rw [if_pos hc, if_pos h.on], ?_⟩
  have hs : Cl (M.fail c).start K := by
    have := ok_start (h.ok.fail c)
    unfold Mem.start at this ⊢
    rw [if_neg (by unfold Mem.fail; simp)] at this ⊢
    exact ⟨this, rfl, hk, hk, rfl⟩
  obtain ⟨b', M', e, hf, _⟩ := try_cl (h.ok.fail c) hs hr
  exact ⟨b', M', e, hf⟩

/-- A further book makes the first one a book of the past. -/
theorem again_fine {M : Mem} {b : Bk} {l : List Int} (h : Fine M b l) (hp : M.plan = 0) : ∃ b' M', tryOpen 3 M = (some b', M') ∧ Fine M' b' l ∧ ∀ k n, doD M' b k n = (101, b, M') := by
  obtain ⟨K, hM, hr, _⟩ := h.mem
  have hs : M.start = M := hM.start
  obtain ⟨b', e, hf, _, hz⟩ := open_sure h.ok (by rw [hs]; exact hM) hr (by rw [hs]; exact hp)
  rw [hs] at hz
  refine ⟨b', M.open_.2.2, by unfold tryOpen; rw [e], hf, fun k n => doD_off b k n (.inr (by rw [h.era]; omega))⟩

theorem fine_new : Fine { Mem.new with opened := 1 } ⟨0, 1, []⟩ [] :=
  ⟨dkOk_new.M, rfl, dkOk_new.b, rfl, rfl, fun _ => 0, ⟨dkOk_new.M, rfl, rfl, rfl, rfl⟩, Rec.mk' rfl rfl (by decide) (fun i hi => by cases hi), rfl⟩

end Go.Lin.Kp
namespace Go.Proofs.YtmohnddglmolgaaGreatDoor
open Go Go.RowKit Go.Lin Go.Lin.Kp

theorem clone62_any (b n : Nat) (S : Nat → Option Int) (w : World) (h : NMap w Tryz.prog 3 3 b n S) :
    Calls Tryz.prog 62 #[.map (some b)] w fun e w' => e = .returned (.map (some w.heap.size)) ∧ NMap w' Tryz.prog 3 3 w.heap.size n S ∧ Grew w w' ∧ w.heap.size < w'.heap.size := by
  obtain ⟨D, hD, h1, h2⟩ := h
  refine (AnyW.maps_Clone_owns Tryz.cloneM 3 (plainElem Tryz.prog 3) b n D w hD).mono fun e w' ⟨he, ho, _, hB⟩ => ?_
  exact ⟨he, ⟨D, ho, h1, h2⟩, hB, ho.lt⟩

theorem block_made (w : World) (c : Array Value) (t : TypeId) : ∃ W0, w.alloc (.cells c t) = W0 ∧ Grew w W0 ∧ W0.heap[w.heap.size]? = some (.cells c t (0, 0)) ∧ W0.heap.size = w.heap.size + 1 :=
  ⟨_, rfl, grew_alloc (grew_refl w) _, heap_alloc_new w _, by simp⟩

theorem row_grew {w w' : World} {b n : Nat} {t : TypeId} {f : Nat → Value} (h : w.rowIs b t n f) (hg : Grew w w') : w'.rowIs b t n f := by
  obtain ⟨c, h1, h2, h3⟩ := h
  exact ⟨c, (hg.block _ (lt_of_obj h1)).trans h1, h2, h3⟩

theorem grew_setB {w w' : World} (hg : Grew w w') {b : Nat} (hb : w.heap.size ≤ b) (i : Nat) (v : Value) : Grew w (w'.setCell ⟨b, i, none⟩ v) := by
  have hk : Keeps (fun k _ => k = b) w' (w'.setCell ⟨b, i, none⟩ v) := keeps_set1 _ _ (fun _ => rfl)
  exact grew_b hg (hk.below hg.size (fun k _ e => by rw [e]; exact hb))

theorem zero89_size : Tryz.zeroCells89.size = 135 := by kernel_rfl

set_option maxHeartbeats 4000000 in
set_option maxRecDepth 20000 in
theorem copy29_mem (bm : Nat) (M : Mem) (F : Nat → Prop) (w : World) (h : IsMem w bm M F) (hok : Ok M) :
    Calls Tryz.prog 29 #[ptr bm] w fun e w' => ∃ bm' F', e = .returned (ptr bm') ∧ IsMem w' bm' M F' ∧ (∀ k, F' k → w.heap.size ≤ k) ∧ Grew w w' := by
  have HN := hid (none57_mem bm M F w h)
  obtain ⟨bn, sv, h⟩ := h
  obtain ⟨sa, sc, rfl⟩ : ∃ sa sc, sv = .slice sa M.early.length sc := by obtain ⟨a, c, e, _⟩ := h.early; exact ⟨a, c, e⟩
  have HH := hid h
  have hbm : bm < w.heap.size := h.row.lt
  have hra := rangeAt_row h.row 0 135 (by omega) (memAt M bn (.slice sa M.early.length sc)) (fun j _ => by rw [Nat.zero_add])
  obtain ⟨cs, hcs⟩ : ∃ cs, (List.range 135).map (memAt M bn (.slice sa M.early.length sc)) = cs := ⟨_, rfl⟩
  rw [hcs] at hra
  have hl : cs.length = 135 := by rw [← hcs]; simp
  have h1 : ∀ v ∈ cs, v.oneCell' = true := by
    intro v hv
    rw [← hcs] at hv
    obtain ⟨i, _, rfl⟩ := List.mem_map.1 hv
    unfold memAt
    repeat' split
    all_goals rfl
  have HCS := hid hcs; have HL := hid hl; have H1 := hid h1
  have hsz : (Tryz.prog.info? 89).map (·.size) = some cs.length := by rw [hl]; kernel_rfl
  have hsz2 : (Tryz.prog.info? 89).map (·.size) = some cs.toArray.size := by rw [List.size_toArray, hl]; kernel_rfl
  have HSZ := hid hsz; have HSZ2 := hid hsz2
  have HRA := hid hra
  obtain ⟨W1, hW1, g1, ho1, hz1⟩ := block_made w Tryz.zeroCells89 89
  have hrow1 : W1.rowIs w.heap.size 89 135 (fun i => Tryz.zeroCells89.getD i undef) := ⟨_, ho1, zero89_size, fun i hi => by simp [Array.getD, hi]⟩
  have HTH := hid (there_row hrow1 0 cs.toArray.size (by rw [List.size_toArray, hl]; omega))
  obtain ⟨W2, hW2⟩ : ∃ W, W1.setCells w.heap.size 0 cs = W := ⟨_, rfl⟩
  have hk2 : Keeps (fun k _ => k = w.heap.size) W1 W2 := by rw [← hW2]; exact keeps_setCells _ cs (fun _ => rfl)
  have hg2 : Grew w W2 := grew_b g1 (hk2.below g1.size (fun k _ e => by rw [e]; exact Nat.le_refl _))
  have hr2 : W2.rowIs w.heap.size 89 135 (memAt M bn (.slice sa M.early.length sc)) := by
    rw [← hW2]
    refine (Go.Lin.Kp.rowIs_setCells cs 0 hrow1).congr fun i hi => ?_
    rw [if_pos (Nat.zero_le _), ← hcs, Nat.sub_zero, List.getD_eq_getElem?_getD, List.getElem?_map, List.getElem?_range hi, Option.map_some, Option.getD_some]
  have hz2 : w.heap.size < W2.heap.size := hr2.lt
  have HW2 := hid hW2; have HR2 := hid hr2; have HG2 := hid hg2
  have hm2 := h.grew hg2
  have HM2 := hid hm2
  have HCL := hid (clone62_any bn M.steps M.notes W2 hm2.notes)
  have h3 := HH.out
  clear h hra hcs hl h1 hsz hsz2 ho1 hz1 hrow1 g1 hk2 hm2 hr2 hg2 hW2 h3
  have HCI := hid (fun (W : World) (hg : Grew w W) => clone_ints (.slice sa M.early.length sc) M.early.length M.early W rfl (by have := hok.early; unfold areEarly at this; rw [Bool.and_eq_true, decide_eq_true_eq] at this; omega) (HH.out.grew hg).early.any)
  have c129 : W2.cell? ⟨bm, 129, none⟩ = some (.map (some bn)) := by
    have := HM2.out.row.cell (i := 129) (by omega); exact this
  have d129 : W2.cell? ⟨w.heap.size, 129, none⟩ = some (.map (some bn)) := HR2.out.cell (i := 129) (by omega)
  go_enter Tryz.func29, Tryz.ntmps29
  go_wp2_with (first
    | (go_at_call 57; (with_reducible refine HN.out.mono ?_); rintro e w1 ⟨rfl, rfl⟩)
    | (refine wpList_load_mid rfl 89 _ rfl bm 0 rfl _ _ HRA.out Tryz.underlying89 rfl HSZ.out ?_)
    | (refine wpList_store_mid rfl 89 _ _ rfl w.heap.size 0 _ rfl rfl HTH.out HSZ2.out (all_oneCell_toArray H1.out) ?_; rw [HW2.out])
    | (go_at_call 62; go_loud (
      (with_reducible refine HCL.out.mono ?_); rintro e w3 ⟨rfl, hn3, hg3, hz3⟩; have HN3 := hid hn3; have HG3 := hid hg3; have hr3 := row_grew HR2.out hg3; have HR3 := hid hr3; have e129 : w3.cell? ⟨w.heap.size, 129, none⟩ = some (.map (some bn)) := hr3.cell (i := 129) (by omega); have f129 := hr3.frozen 129; have hm3 := HM2.out.grew hg3; have c132 : w3.cell? ⟨bm, 132, none⟩ = some (.slice sa M.early.length sc) := hm3.row.cell (i := 132) (by omega); have hb3 := Nat.ne_of_lt (HH.out.row.lt); have HI4 := hid (HCI.out (w3.setCell ⟨w.heap.size, 129, none⟩ (.map (some W2.heap.size))) (grew_setB (grew_trans HG2.out hg3) (Nat.le_refl _) _ _)); clear hn3 hg3 hr3 hm3))
    | (go_at_call 52; (with_reducible refine HI4.out.mono ?_); rintro e w5 ⟨u, rfl, hs5, hg5⟩; obtain ⟨ua, uc, rfl, _⟩ := hs5.shape; have HS5 := hid hs5; have HG5 := hid hg5; have hr5 := row_grew (HR3.out.set 129 (.map (some W2.heap.size))) hg5; have HR5 := hid hr5; have e132 : w5.cell? ⟨w.heap.size, 132, none⟩ = some (.slice sa M.early.length sc) := hr5.cell (i := 132) (by omega); have f132 := hr5.frozen 132; clear hs5 hg5 hr5))
  go_ret
  have hz2 := HG2.out.size
  have hz3 := HG3.out.size
  have hn := HN3.out
  have hlt3 : W2.heap.size < w3.heap.size := hn.lt
  have hg6 : Grew w w5 := grew_trans (grew_setB (grew_trans HG2.out HG3.out) (Nat.le_refl _) _ _) HG5.out
  have hz5 := HG5.out.size
  rw [World.size_setCell] at hz5
  have hn5 : NMap w5 Tryz.prog 3 3 W2.heap.size M.steps M.notes := (hn.setOther (by dsimp only; have := HR2.out.lt; omega) _).of_block (HG5.out.block _ (by rw [World.size_setCell]; omega))
  refine ⟨w.heap.size, fun k => w.heap.size ≤ k ∧ k < w5.heap.size, rfl, ⟨W2.heap.size, .slice ua M.early.length uc, (HR5.out.set 132 (.slice ua M.early.length uc)).congr fun i hi => ?_, hn5.setOther (by dsimp only; have := HR2.out.lt; omega) _, ?_, ⟨Nat.le_refl _, by omega⟩, ⟨by omega, by omega⟩, fun k hk => by rw [World.size_setCell]; exact hk.2⟩, fun k hk => hk.1, grew_setB hg6 (Nat.le_refl _) _ _⟩
  · by_cases h132 : i = 132
    · subst h132; rfl
    · rw [if_neg h132]
      by_cases h129 : i = 129
      · subst h129; rfl
      · rw [if_neg h129]
        unfold memAt
        simp only [h129, h132, if_false]
  · have hk : Keeps (fun k _ => k = w.heap.size) w5 (w5.setCell ⟨w.heap.size, 132, none⟩ (.slice ua M.early.length uc)) := keeps_set1 _ _ (fun _ => rfl)
    obtain ⟨a, cap, e, hm, hc⟩ := HS5.out.isInts
    refine ⟨a, cap, e, hm, fun i hi => ?_⟩
    obtain ⟨b, off, o, q1, q2, q3, q4⟩ := hc i hi
    have q5 := q3.1
    rw [World.size_setCell] at q5
    have q6 := lt_of_obj q2
    refine ⟨b, off, o, q1, hk.obj _ _ q2 (fun e => by omega), ⟨⟨by omega, q6⟩, by omega, by omega⟩, ?_⟩
    rw [World.cell?_setCell_other _ _ _ _ (by simp only [ne_eq, Addr.mk.injEq, not_and]; intro e2; omega)]
    exact q4

end Go.Proofs.YtmohnddglmolgaaGreatDoor
namespace Go.Proofs.YtmohnddglmolgaaGreatDoor
open Go Go.RowKit Go.Lin Go.Lin.Kp

/-- A slice of bytes. -/
def IsBytes (w : World) (v : Value) (p : List Int) : Prop :=
  ∃ a c, v = .slice a p.length c ∧ p.length ≤ 9223372036854775807 ∧ ∀ i, i < p.length → ∃ b off o, a = some ⟨b, off, none⟩ ∧ w.heap[b]? = some o ∧ w.cell? ⟨b, off + i, none⟩ = some (.int .u8 (nth p i)) ∧ 0 ≤ nth p i ∧ nth p i ≤ 255

theorem IsBytes.grew {w w' : World} {v : Value} {p : List Int} (h : IsBytes w v p) (hg : Grew w w') : IsBytes w' v p := by
  obtain ⟨a, c, e, hl, hc⟩ := h
  refine ⟨a, c, e, hl, fun i hi => ?_⟩
  obtain ⟨b, off, o, e1, e2, e3, e4⟩ := hc i hi
  exact ⟨b, off, o, e1, (hg.block b (lt_of_obj e2)).trans e2, (hg.cell (p := ⟨b, off + i, none⟩) (lt_of_obj e2)).trans e3, e4⟩

theorem src_ints {w : World} {v : Value} {xs : List Int} (h : IsInts Any w v xs) : Src Tryz.prog 1 39 v xs.length (xs.map (.int .i64)) w := by
  obtain ⟨a, cap, rfl, hm, hc⟩ := h
  rcases a with _ | ad
  · have h0 : xs.length = 0 := by
      rcases Nat.eq_zero_or_pos xs.length with h | h
      · exact h
      · obtain ⟨_, _, _, h2, _⟩ := hc 0 h; cases h2
    have : xs = [] := List.length_eq_zero_iff.1 h0
    subst this
    exact Src.ofNil _ Tryz.underlying39 cap
  · refine Src.ofSlice _ Tryz.underlying39 ad _ cap _ (by simp) ?_ ?_
    · intro j u hj
      have hjn : j < xs.length := by have := (List.getElem?_eq_some_iff.1 hj).1; simpa using this
      simp only [List.getElem?_map, List.getElem?_eq_getElem hjn, Option.map_some, Option.some.injEq] at hj
      obtain ⟨b, off, o, h2, h3, _, h5⟩ := hc j hjn
      cases h2
      rw [Addr.add_lit, h5, ← hj]
      simp only [nth_lt hjn]
    · intro u hu
      obtain ⟨i, _, rfl⟩ := List.mem_map.1 hu
      rfl

/-- The cells that bytes stand for. -/
def cellsOf (l : List Int) : List Int := l.map (· % 64)

theorem cellsOf_len (l : List Int) : (cellsOf l).length = l.length := List.length_map _
theorem cellsOf_early {l : List Int} (h : l.length ≤ 10) : areEarly (cellsOf l) = true := by
  unfold areEarly
  rw [cellsOf_len, Bool.and_eq_true, decide_eq_true_eq, List.all_eq_true]
  refine ⟨h, fun x hx => ?_⟩
  obtain ⟨y, _, rfl⟩ := List.mem_map.1 hx
  exact isCell_iff.2 ⟨Int.emod_nonneg _ (by decide), by have := Int.emod_lt_of_pos y (show (0 : Int) < 64 by decide); omega⟩

set_option maxHeartbeats 1000000 in
theorem cells21_any (v : Value) (l : List Int) (w : World) (hv : IsBytes w v l) (hl : l.length ≤ 1000000) :
    Calls Tryz.prog 21 #[v] w fun e w' => ∃ u, e = .returned u ∧ Seg w' w.heap.size 3 1 u l.length ((cellsOf l).map (.int .i64)) ∧ Grew w w' := by
  obtain ⟨a, cap, rfl, hm, hc⟩ := hv
  have HC := hid hc; clear hc
  obtain ⟨n, hnn⟩ : ∃ n, l.length = n := ⟨_, rfl⟩
  rw [hnn] at HC hm hl ⊢
  have HN := hid hnn
  clear hnn
  go_enter Tryz.func21, Tryz.ntmps21
  go_wp2
  go_loopg [3, 4] n (fun gk nv iv wr => ∃ (j : Nat), j ≤ n ∧ iv = .int .i64 (j : Int) ∧ Hid (gk = n - j) ∧ Hid (Grew w wr) ∧ Hid (Seg wr w.heap.size 3 1 nv j ((cellsOf (l.take j)).map (.int .i64))))
  case atStart => exact ⟨0, Nat.zero_le _, rfl, hid rfl, hid (grew_refl _), hid (Seg.nil _ _ _ _)⟩
  case round =>
    obtain ⟨j, hj, rfl, HGK, HG, HSG⟩ := hrel
    rename World => wr
    by_cases hlt : j < n
    · obtain ⟨b, off, o, rfl, hb, hcj, h0, h255⟩ := HC.out j hlt
      have hcj0 := (HG.out.cell (p := ⟨b, off + j, none⟩) (lt_of_obj hb)).trans hcj
      have hjl : j < l.length := by rw [HN.out]; exact hlt
      have htk : (cellsOf (l.take (j + 1))).map (Value.int .i64) = (cellsOf (l.take j)).map (.int .i64) ++ [.int .i64 (nth l j % 64)] := by
        rw [take_succ_nth hjl]; simp [cellsOf]
      obtain ⟨x, hx⟩ : ∃ x, nth l j = x := ⟨_, rfl⟩
      rw [hx] at hcj0 htk h0 h255
      have hmod : x.tmod 64 = x % 64 := Int.tmod_eq_emod_of_nonneg h0
      have HTK := hid htk
      obtain ⟨na, nc, rfl, hsh⟩ := HSG.out.shape
      clear htk hx hjl hb hcj hsh
      go_wp2_with (at_builtin; refine wpList_append_one rfl _ _ 39 rfl w.heap.size 3 Tryz.underlying39 Tryz.info3 rfl (by decide) (.slice na j nc) j _ rfl (HSG.out.alloc _) _ _ _ rfl (one_new _ _ _) rfl (by omega) ?_ ?_; (have := HG.out.size; (try simp only [World.size_alloc]); omega); intro v9 w9 hown9 hgrow9 hblk9; have hg9 : Grew w w9 := (HG.out.alloc HG.out.size _).grown hgrow9 (HG.out.alloc HG.out.size _).size (fun k e => (HSG.out.own k e).1); have HG9 := hid hg9; have HS9 := hid hown9; clear hown9 hgrow9 hblk9 hg9)
      go_roundg (n - (j + 1))
      case measure => have := HGK.out; omega
      case rel => exact ⟨j + 1, by omega, by go_num, hid rfl, HG9, hid (by rw [HTK.out]; exact HS9.out)⟩
    · obtain rfl : j = n := by omega
      have hS := HSG.out
      rw [List.take_of_length_le (by rw [HN.out]; exact Nat.le_refl _)] at hS
      have HS := hid hS
      clear hS
      go_wp2
      go_ret
      exact ⟨_, rfl, HS.out, HG.out⟩

theorem within92_any (a n b : Int) (w : World) : Calls Tryz.prog 92 #[.int .i64 a, .int .i64 n, .int .i64 b] w fun e w' => e = .returned (.bool (decide (a ≤ n) && decide (n ≤ b))) ∧ w = w' := by
  obtain ⟨x, hx⟩ : ∃ x, decide (a ≤ n) = x := ⟨_, rfl⟩
  rw [hx]
  cases x
  all_goals
    go_enter Tryz.func92, Tryz.ntmps92
    go_wp2
    go_ret
    exact ⟨by simp, rfl⟩

theorem isNumber56_any (n : Int) (w : World) : Calls Tryz.prog 56 #[.int .i64 n] w fun e w' => e = .returned (.bool (isNum n)) ∧ w = w' := by
  have HB := hid (within92_any 0 n 999)
  go_enter Tryz.func56, Tryz.ntmps56
  go_wp2_with (go_at_call 92; (with_reducible refine (HB.out _).mono ?_); rintro e w1 ⟨rfl, rfl⟩)
  go_ret
  exact ⟨rfl, rfl⟩

/-- What 'behind' returns. -/
def BehindLeft (w : World) (l : List Int) (k n : Int) (e : Ending) (w' : World) : Prop :=
  Grew w w' ∧ ∃ u L, e = .returned (.tuple #[u, .bool (mayD l k n)]) ∧ Seg w' w.heap.size 3 1 u L.length (L.map (.int .i64)) ∧ (mayD l k n = true → L = nextD l k n)

set_option maxHeartbeats 4000000 in
set_option maxRecDepth 20000 in
theorem behind22_any (v : Value) (l : List Int) (k n : Int) (w : World) (hv : IsInts Any w v l) (hl : l.length ≤ 1000) :
    Calls Tryz.prog 22 #[v, .agg #[.int .i64 k, .int .i64 n]] w (BehindLeft w l k n) := by
  obtain ⟨w1, hw1, g1, k0, k1, hz1⟩ := box2 w (.int .i64 k) (.int .i64 n) 49
  have HI := hid (fun W => isNumber56_any n W)
  have hsrc := src_ints (Reads.grew hv (grew_alloc g1 (.cells #[] 3)))
  obtain ⟨va, vc, rfl, hm, -⟩ := hv
  obtain ⟨i0, hi, hz0, hzz, hz2⟩ := info_parts Tryz.info3
  have hseg : Seg (w1.alloc (.cells #[] 3)) w1.heap.size 3 1 (.slice (some ⟨w1.heap.size, 0, none⟩) 0 0) 0 [] :=
    ⟨by simp, .inr ⟨w1.heap.size, 0, 0, #[], rfl, Nat.le_refl _, heap_alloc_new w1 _, Nat.le_refl _, by unfold maxLen; omega, by simp, by simp⟩⟩
  have HSRC := hid hsrc; have HSEG := hid hseg; have HG1 := hid g1
  clear hsrc hseg g1
  unfold BehindLeft
  obtain ⟨m, hmm⟩ : ∃ m, l.length = m := ⟨_, rfl⟩
  have HM := hid hmm
  rw [hmm] at hm hl HSRC ⊢
  clear hmm
  obtain ⟨q, hq⟩ : ∃ q, isNum n = q := ⟨_, rfl⟩
  rw [hq] at HI
  have HQ := hid hq
  clear hq
  have hw1s := HG1.out.size
  cases q with
  | false =>
    have hmay : mayD l k n = false := by unfold mayD; rw [HQ.out]; rfl
    rw [hmay]
    clear hmay
    go_enter Tryz.func22, Tryz.ntmps22
    go_wp2_with (first
      | (at_builtin; refine wpList_append_seg rfl _ _ 39 39 rfl w1.heap.size 3 i0 (.int .i64 0) 1 8 Tryz.underlying39 hi hz0 hzz hz2 rfl _ 0 [] rfl HSEG.out _ rfl m _ HSRC.out (by unfold maxLen; omega) (by omega) ?_ ?_; simp; intro v2 w2 hown2 hgrow2 hblk2; have hg2 : Grew w1 w2 := ((grew_refl w1).alloc (Nat.le_refl _) _).grown hgrow2 (by simp) (fun k e => by cases e; exact Nat.le_refl _); have HS2 := hid hown2; have HG2 := hid hg2; have e0 := (hg2.cell (p := ⟨w.heap.size, 0, none⟩) hz1).trans k0; have e1 := (hg2.cell (p := ⟨w.heap.size, 1, none⟩) hz1).trans k1; clear hown2 hgrow2 hblk2 hg2)
      | (go_at_call 56; (with_reducible refine (HI.out _).mono ?_); rintro e w3 ⟨rfl, rfl⟩))
    go_ret2
    refine ⟨grew_trans HG1.out HG2.out, _, l, rfl, ?_, fun h => by cases h⟩
    rw [HM.out]; simpa using HS2.out.mono hw1s
  | true =>
    by_cases hk : k = 0
    · subst hk
      have hmay : mayD l 0 n = decide (m < 20) := by unfold mayD; rw [HQ.out, HM.out]; simp
      have hmI : decide ((m : Int) < 20) = decide (m < 20) := by rw [decide_eq_decide]; omega
      rw [hmay]
      obtain ⟨d, hd⟩ : ∃ d, decide (m < 20) = d := ⟨_, rfl⟩
      rw [hd] at hmI ⊢
      clear hmay hd
      go_enter Tryz.func22, Tryz.ntmps22
      go_wp2_with (first
        | (at_builtin; refine wpList_append_seg rfl _ _ 39 39 rfl w1.heap.size 3 i0 (.int .i64 0) 1 8 Tryz.underlying39 hi hz0 hzz hz2 rfl _ 0 [] rfl HSEG.out _ rfl m _ HSRC.out (by unfold maxLen; omega) (by omega) ?_ ?_; simp; intro v2 w2 hown2 hgrow2 hblk2; have hg2 : Grew w1 w2 := ((grew_refl w1).alloc (Nat.le_refl _) _).grown hgrow2 (by simp) (fun k e => by cases e; exact Nat.le_refl _); rw [Nat.zero_add, List.nil_append] at hown2; obtain ⟨na, nc, rfl, hnl⟩ := hown2.shape; have HS2 := hid hown2; have HG2 := hid hg2; have e0 := (hg2.cell (p := ⟨w.heap.size, 0, none⟩) hz1).trans k0; have e1 := (hg2.cell (p := ⟨w.heap.size, 1, none⟩) hz1).trans k1; clear hown2 hgrow2 hblk2 hg2 hnl)
        | (go_at_call 56; (with_reducible refine (HI.out _).mono ?_); rintro e w3 ⟨rfl, rfl⟩)
        | (at_builtin; refine wpList_append_one rfl _ _ 39 rfl w1.heap.size 3 Tryz.underlying39 Tryz.info3 rfl (by decide) (.slice na m nc) m _ rfl (HS2.out.alloc _) _ _ _ rfl (one_new _ _ _) rfl (by omega) ?_ ?_; (have := HG2.out.size; (try simp only [World.size_alloc]); omega); intro v9 w9 hown9 hgrow9 hblk9; have hg9 : Grew w1 w9 := (HG2.out.alloc HG2.out.size _).grown hgrow9 (HG2.out.alloc HG2.out.size _).size (fun k e => (HS2.out.own k e).1); have HG9 := hid hg9; have HS9 := hid hown9; clear hown9 hgrow9 hblk9 hg9))
      go_ret2
      refine ⟨grew_trans HG1.out HG9.out, _, l ++ [n], rfl, ?_, fun _ => by unfold nextD; rw [if_pos rfl]⟩
      have h := HS9.out.mono hw1s
      rw [List.length_append, HM.out, List.map_append]
      simpa using h
    · have e0' : (k == 0) = false := by rw [beq_eq_false_iff_ne]; exact hk
      by_cases hr : 1 ≤ k ∧ k ≤ (m : Int)
      · have hmay : mayD l k n = true := by unfold mayD; rw [HQ.out, HM.out, if_neg hk]; simp [hr.1, hr.2]
        rw [hmay]
        have d1 : decide (k < 1) = false := by simp; omega
        have d2 : decide ((m : Int) < k) = false := by simp; omega
        obtain ⟨j, rfl⟩ : ∃ j : Nat, k = (j : Int) + 1 := ⟨(k - 1).toNat, by omega⟩
        have hjm : j < m := by omega
        have hnx : nextD l ((j : Int) + 1) n = l.set j n := by unfold nextD; rw [if_neg hk, show ((j : Int) + 1 - 1).toNat = j by omega]
        have HNX := hid hnx
        have hwr : IntKind.i64.wrap ((j : Int) + 1 - 1) = (j : Int) := by rw [show (j : Int) + 1 - 1 = j by omega]; exact IntWalk.i64_in _ (by omega)
        clear hmay hr hk hnx
        go_enter Tryz.func22, Tryz.ntmps22
        go_wp2_with (first
          | (at_builtin; refine wpList_append_seg rfl _ _ 39 39 rfl w1.heap.size 3 i0 (.int .i64 0) 1 8 Tryz.underlying39 hi hz0 hzz hz2 rfl _ 0 [] rfl HSEG.out _ rfl m _ HSRC.out (by unfold maxLen; omega) (by omega) ?_ ?_; simp; intro v2 w2 hown2 hgrow2 hblk2; have hg2 : Grew w1 w2 := ((grew_refl w1).alloc (Nat.le_refl _) _).grown hgrow2 (by simp) (fun k e => by cases e; exact Nat.le_refl _); rw [Nat.zero_add, List.nil_append] at hown2; obtain ⟨ng, no, nc, cur, rfl, hngb, hngo, hnlc, hncm, hnat⟩ := hown2.at (by omega); have HS2 := hid hown2; have HG2 := hid hg2; have e0 := (hg2.cell (p := ⟨w.heap.size, 0, none⟩) hz1).trans k0; have e1 := (hg2.cell (p := ⟨w.heap.size, 1, none⟩) hz1).trans k1; have nf := frozen_of_row w2 ng (no + j) _ _ hngo; have ncl := hnat j (by omega); rw [List.getElem?_map, List.getElem?_eq_getElem (by rw [HM.out]; exact hjm)] at ncl; simp only [Option.map_some] at ncl; have HNG := hid hngb; clear hown2 hgrow2 hblk2 hg2 hngo hnat hngb)
          | (go_at_call 56; (with_reducible refine (HI.out _).mono ?_); rintro e w3 ⟨rfl, rfl⟩))
        go_ret2
        refine ⟨?_, _, l.set j n, rfl, ?_, fun _ => HNX.out.symm⟩
        · exact grew_setB (grew_trans HG1.out HG2.out) (Nat.le_trans hw1s HNG.out) _ _
        · rw [List.length_set, HM.out, List.map_set]
          exact (Seg.set HS2.out rfl hjm _).mono hw1s
      · have hmay : mayD l k n = false := by
          unfold mayD; rw [HQ.out, HM.out, if_neg hk, Bool.true_and, Bool.and_eq_false_iff, decide_eq_false_iff_not, decide_eq_false_iff_not]; omega
        rw [hmay]
        clear hmay hk
        rcases (show k < 1 ∨ (¬ k < 1 ∧ (m : Int) < k) by omega) with h1 | ⟨h1, h2⟩
        · have d1 : decide (k < 1) = true := by simpa using h1
          clear hr
          go_enter Tryz.func22, Tryz.ntmps22
          go_wp2_with (first
            | (at_builtin; refine wpList_append_seg rfl _ _ 39 39 rfl w1.heap.size 3 i0 (.int .i64 0) 1 8 Tryz.underlying39 hi hz0 hzz hz2 rfl _ 0 [] rfl HSEG.out _ rfl m _ HSRC.out (by unfold maxLen; omega) (by omega) ?_ ?_; simp; intro v2 w2 hown2 hgrow2 hblk2; have hg2 : Grew w1 w2 := ((grew_refl w1).alloc (Nat.le_refl _) _).grown hgrow2 (by simp) (fun k e => by cases e; exact Nat.le_refl _); have HS2 := hid hown2; have HG2 := hid hg2; have e0 := (hg2.cell (p := ⟨w.heap.size, 0, none⟩) hz1).trans k0; have e1 := (hg2.cell (p := ⟨w.heap.size, 1, none⟩) hz1).trans k1; clear hown2 hgrow2 hblk2 hg2)
            | (go_at_call 56; (with_reducible refine (HI.out _).mono ?_); rintro e w3 ⟨rfl, rfl⟩))
          go_ret2
          refine ⟨grew_trans HG1.out HG2.out, _, l, rfl, ?_, fun h => by cases h⟩
          rw [HM.out]; simpa using HS2.out.mono hw1s
        · have d1 : decide (k < 1) = false := by simpa using h1
          have d2 : decide ((m : Int) < k) = true := by simpa using h2
          clear hr
          go_enter Tryz.func22, Tryz.ntmps22
          go_wp2_with (first
            | (at_builtin; refine wpList_append_seg rfl _ _ 39 39 rfl w1.heap.size 3 i0 (.int .i64 0) 1 8 Tryz.underlying39 hi hz0 hzz hz2 rfl _ 0 [] rfl HSEG.out _ rfl m _ HSRC.out (by unfold maxLen; omega) (by omega) ?_ ?_; simp; intro v2 w2 hown2 hgrow2 hblk2; have hg2 : Grew w1 w2 := ((grew_refl w1).alloc (Nat.le_refl _) _).grown hgrow2 (by simp) (fun k e => by cases e; exact Nat.le_refl _); have HS2 := hid hown2; have HG2 := hid hg2; have e0 := (hg2.cell (p := ⟨w.heap.size, 0, none⟩) hz1).trans k0; have e1 := (hg2.cell (p := ⟨w.heap.size, 1, none⟩) hz1).trans k1; clear hown2 hgrow2 hblk2 hg2)
            | (go_at_call 56; (with_reducible refine (HI.out _).mono ?_); rintro e w3 ⟨rfl, rfl⟩))
          go_ret2
          refine ⟨grew_trans HG1.out HG2.out, _, l, rfl, ?_, fun h => by cases h⟩
          rw [HM.out]; simpa using HS2.out.mono hw1s

end Go.Proofs.YtmohnddglmolgaaGreatDoor
