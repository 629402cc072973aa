/- Plain: two specifications side by side: their machine, calls that commute, words that part. -/
import Derived.Test.YtnebpcpihldllaaBoth
import Derived.Test.YtnebpcpihldllaaWCommute
import Derived.Test.YtnebpcpihldllaaTurns
namespace Go.Lin

section
variable {s t : RSpec} {n p m q : Nat} (h : Sized s t n p m q) (hnm : n * m ≤ 8) (hpq : p + q ≤ 4)
include h hnm hpq

omit hnm hpq in
theorem both_next {i k : Nat} (hi : i < n) (hk : k < m) : nthL (bothM s t).next (i * m + k) = bothN s t m i k ∧ nthL (bothM s t).says (i * m + k) = bothY s t i k := by
  have hlt : i * m + k < n * m := by
    have : (i + 1) * m ≤ n * m := Nat.mul_le_mul_right _ (by omega)
    rw [Nat.add_mul] at this; omega
  rw [bothM_of h]
  constructor
  · show nthL ((List.range (n * m)).map (bothNr s t m)) _ = _
    rw [nthL_range _ hlt, bothNr_at s t hk]
  · show nthL ((List.range (n * m)).map (bothYr s t m)) _ = _
    rw [nthL_range _ hlt, bothYr_at s t hk]

omit hnm hpq in
theorem both_at {i k : Nat} (hi : i < n) (hk : k < m) {o : Nat} (ho : o < p + q) :
    ((bothM s t).next.length = n * m ∧ (bothM s t).says.length = n * m ∧ (bothN s t m i k).length = p + q ∧ (bothY s t i k).length = p + q) ∧
    (o < p → nth (bothN s t m i k) o = nth (nthL s.next i) o * (m : Int) + (k : Int) ∧ nth (bothY s t i k) o = nth (nthL s.says i) o) ∧
    (p ≤ o → nth (bothN s t m i k) o = (i : Int) * (m : Int) + nth (nthL t.next k) (o - p) ∧ nth (bothY s t i k) o = nth (nthL t.says k) (o - p)) := by
  have l1 := (h.next i hi).1
  have l2 := (h.next' k hk).1
  have l3 := h.says i hi
  have l4 := h.says' k hk
  refine ⟨⟨by rw [bothM_of h]; simp, by rw [bothM_of h]; simp, by simp [bothN, l1, l2], by simp [bothY, l3, l4]⟩, fun hp => ⟨?_, ?_⟩, fun hp => ⟨?_, ?_⟩⟩
  · unfold bothN
    rw [nth_append_left (by simpa [l1] using hp), nth_map (by omega)]
  · unfold bothY
    rw [nth_append_left (by omega)]
  · unfold bothN
    rw [nth_append_right (by simpa [l1] using hp), List.length_map, l1, nth_map (by omega)]
  · unfold bothY
    rw [nth_append_right (by omega), l3]

theorem valid_both (hs : validM s = true) (ht : validM t = true) : validM (bothM s t) = true := by
  obtain ⟨_, _, ⟨hl3, hr3⟩⟩ := valid_parts hs
  obtain ⟨_, _, ⟨hl4, hr4⟩⟩ := valid_parts ht
  have hb := bothM_of h
  have hst : (bothM s t).st = (n : Int) * (m : Int) := by rw [hb]
  have hop : (bothM s t).ops = (p : Int) + (q : Int) := by rw [hb]
  have hN : (n : Int) * (m : Int) = ((n * m : Nat) : Int) := by rw [Int.natCast_mul]
  have h1 : 1 ≤ n * m := Nat.mul_pos h.n1 h.m1
  have hp1 := h.p1; have hq1 := h.q1
  have parts : ∀ r, r < n * m → ∃ i k, i < n ∧ k < m ∧ r = i * m + k := fun r hr => ⟨r / m, r % m, by rw [Nat.div_lt_iff_lt_mul h.m1]; exact hr, Nat.mod_lt _ h.m1, by rw [Nat.mul_comm]; exact (Nat.div_add_mod r m).symm⟩
  unfold validM
  rw [Bool.and_eq_true, Bool.and_eq_true]
  refine ⟨⟨decide_eq_true ⟨by rw [hst, hN]; omega, by rw [hst, hN]; omega, by rw [hop]; omega, by rw [hop]; omega⟩, ?_⟩, ?_⟩
  · refine isTableM_true (by rw [hst, hN, hb]; simp) (fun r hr => ?_)
    have hr' : r < n * m := by rw [hb] at hr; simpa using hr
    obtain ⟨i, k, hi, hk, rfl⟩ := parts r hr'
    rw [(both_next h hi hk).1]
    have hz := both_at h hi hk (o := 0) (by omega)
    refine rowOK_true (by rw [hz.1.2.2.1, hop]; omega) (fun o ho => ?_)
    rw [hz.1.2.2.1] at ho
    obtain ⟨_, h3, h4⟩ := both_at h hi hk ho
    have hkm : (k : Int) < (m : Int) := by omega
    by_cases hop2 : o < p
    · rw [(h3 hop2).1, hst]
      have hx := (h.next i hi).2 o hop2
      have e1 : 0 ≤ nth (nthL s.next i) o * (m : Int) := Int.mul_nonneg hx.1 (by omega)
      have e2 : (nth (nthL s.next i) o + 1) * (m : Int) ≤ (n : Int) * (m : Int) := Int.mul_le_mul_of_nonneg_right (by omega) (by omega)
      rw [Int.add_mul] at e2
      omega
    · rw [(h4 (by omega)).1, hst]
      have hx := (h.next' k hk).2 (o - p) (by omega)
      have e1 : 0 ≤ (i : Int) * (m : Int) := Int.mul_nonneg (by omega) (by omega)
      have e2 : ((i : Int) + 1) * (m : Int) ≤ (n : Int) * (m : Int) := Int.mul_le_mul_of_nonneg_right (by omega) (by omega)
      rw [Int.add_mul] at e2
      omega
  · refine isTableM_true (by rw [hst, hN, hb]; simp) (fun r hr => ?_)
    have hr' : r < n * m := by rw [hb] at hr; simpa using hr
    obtain ⟨i, k, hi, hk, rfl⟩ := parts r hr'
    rw [(both_next h hi hk).2]
    have hz := both_at h hi hk (o := 0) (by omega)
    refine rowOK_true (by rw [hz.1.2.2.2, hop]; omega) (fun o ho => ?_)
    rw [hz.1.2.2.2] at ho
    obtain ⟨_, h3, h4⟩ := both_at h hi hk ho
    have hsl := h.st; have htl := h.st'
    by_cases hop2 : o < p
    · rw [(h3 hop2).2]
      exact (hr3 i (by omega)).2 o (by rw [h.says i hi]; exact hop2)
    · rw [(h4 (by omega)).2]
      exact (hr4 k (by omega)).2 (o - p) (by rw [h.says' k hk]; omega)

omit hnm hpq in
theorem mach_both {i k : Nat} (hi : i < n) (hk : k < m) {o : Nat} (ho : o < p + q) :
    (o < p → (machOf (bothM s t)).nx (i * m + k) o = (machOf s).nx i o * m + k ∧ (machOf (bothM s t)).sy (i * m + k) o = (machOf s).sy i o) ∧
    (p ≤ o → (machOf (bothM s t)).nx (i * m + k) o = i * m + (machOf t).nx k (o - p) ∧ (machOf (bothM s t)).sy (i * m + k) o = (machOf t).sy k (o - p)) := by
  obtain ⟨_, h3, h4⟩ := both_at h hi hk ho
  obtain ⟨e1, e2⟩ := both_next h hi hk
  refine ⟨fun hp => ⟨?_, ?_⟩, fun hp => ⟨?_, ?_⟩⟩
  · show (nth (nthL (bothM s t).next (i * m + k)) o).toNat = (nth (nthL s.next i) o).toNat * m + k
    rw [e1, (h3 hp).1]
    have hx := (h.next i hi).2 o hp
    obtain ⟨x, hxe⟩ : ∃ x : Nat, nth (nthL s.next i) o = (x : Int) := ⟨(nth (nthL s.next i) o).toNat, by omega⟩
    rw [hxe, Int.toNat_natCast, ← Int.natCast_mul]
    omega
  · show nth (nthL (bothM s t).says (i * m + k)) o = nth (nthL s.says i) o
    rw [e2, (h3 hp).2]
  · show (nth (nthL (bothM s t).next (i * m + k)) o).toNat = i * m + (nth (nthL t.next k) (o - p)).toNat
    rw [e1, (h4 hp).1]
    have hx := (h.next' k hk).2 (o - p) (by omega)
    rw [← Int.natCast_mul]
    omega
  · show nth (nthL (bothM s t).says (i * m + k)) o = nth (nthL t.says k) (o - p)
    rw [e2, (h4 hp).2]

omit hpq in
theorem nums_both : (machOf (bothM s t)).n = n * m ∧ (machOf (bothM s t)).k = p + q ∧ (machOf s).n = n ∧ (machOf t).n = m ∧ (machOf s).k = p ∧ (machOf t).k = q := by
  refine ⟨?_, ?_, ?_, ?_, ?_, ?_⟩
  · show (bothM s t).st.toNat = _
    rw [bothM_of h]
    show ((n : Int) * (m : Int)).toNat = _
    rw [← Int.natCast_mul]; omega
  · show (bothM s t).ops.toNat = _
    rw [bothM_of h]
    show ((p : Int) + (q : Int)).toNat = _
    omega
  · show s.st.toNat = _; rw [h.st]; omega
  · show t.st.toNat = _; rw [h.st']; omega
  · show s.ops.toNat = _; rw [h.ops]; omega
  · show t.ops.toNat = _; rw [h.ops']; omega

omit hpq in
/-- The calls of the one commute with those of the other one. -/
theorem commute_both (hs : validM s = true) (ht : validM t = true) (sB : Nat → Nat → Bool) (hsB : ∀ a b, sB a b = true ↔ NoTells (machOf (bothM s t)) (machOf (bothM s t)) a b) {z a b : Nat} (hz : z < n * m) (ha : a < p) (hb : b < q) :
    commuteB (machOf (bothM s t)) sB z a (p + b) = true := by
  obtain ⟨i, k, hi, hk, rfl⟩ : ∃ i k, i < n ∧ k < m ∧ z = i * m + k := ⟨z / m, z % m, by rw [Nat.div_lt_iff_lt_mul h.m1]; exact hz, Nat.mod_lt _ h.m1, by rw [Nat.mul_comm]; exact (Nat.div_add_mod z m).symm⟩
  obtain ⟨_, _, n3, n4, n5, n6⟩ := nums_both h hnm
  have wfs := wf_machOf hs
  have wft := wf_machOf ht
  have hx : (machOf s).nx i a < n := by have := wfs.nx i (by omega) a (by omega); omega
  have hy : (machOf t).nx k b < m := by have := wft.nx k (by omega) b (by omega); omega
  obtain ⟨m1, _⟩ := mach_both h hi hk (o := a) (by omega)
  obtain ⟨_, m2⟩ := mach_both h hi hk (o := p + b) (by omega)
  obtain ⟨m3, _⟩ := mach_both h hi hy (o := a) (by omega)
  obtain ⟨_, m4⟩ := mach_both h hx hk (o := p + b) (by omega)
  obtain ⟨a1, a2⟩ := m1 ha
  obtain ⟨b1, b2⟩ := m2 (by omega)
  obtain ⟨c1, c2⟩ := m3 ha
  obtain ⟨d1, d2⟩ := m4 (by omega)
  rw [show p + b - p = b by omega] at b1 b2 d1 d2
  unfold commuteB
  rw [a1, b1, c1, d1, a2, c2, b2, d2]
  simp
  exact (hsB _ _).2 (fun _ _ => rfl)

theorem commuteOf_both (hs : validM s = true) (ht : validM t = true) (sB : Nat → Nat → Bool) (hsB : ∀ a b, sB a b = true ↔ NoTells (machOf (bothM s t)) (machOf (bothM s t)) a b) {z a b : Nat} (hz : z < n * m) (ha : a < p) (hb : b < q) :
    callsM (bothM s t) (z : Int) (a : Int) ((p : Int) + (b : Int)) = 0 ∧ Go.Proofs.Ytnebpcpihldllaa.commuteOf (bothM s t) sB (z : Int) (a : Int) ((p : Int) + (b : Int)) = true := by
  have hv := valid_both h hnm hpq hs ht
  have hst : (bothM s t).st = ((n * m : Nat) : Int) := by rw [bothM_of h, Int.natCast_mul]
  have hop : (bothM s t).ops = (p : Int) + (q : Int) := by rw [bothM_of h]
  have h0 : callsM (bothM s t) (z : Int) (a : Int) ((p : Int) + (b : Int)) = 0 := by
    unfold callsM
    rw [if_pos hv, if_pos]
    unfold inM
    rw [hst, hop]
    simp
    omega
  refine ⟨h0, ?_⟩
  unfold Go.Proofs.Ytnebpcpihldllaa.commuteOf
  rw [if_pos h0, show ((p : Int) + (b : Int)).toNat = p + b by omega, Int.toNat_natCast, Int.toNat_natCast]
  exact commute_both h hnm hs ht sB hsB hz ha hb

omit hpq in
/-- The calls of the one, and their answers; and those of the other one. -/
theorem parted (hs : validM s = true) (ht : validM t = true) : ∀ (ws : List Nat) (i k : Nat), i < n → k < m → OkW (p + q) ws →
    anM (machOf s) i ((ws.zip (anM (machOf (bothM s t)) (i * m + k) ws)).filterMap fun x => if x.1 < p then some x.1 else none) = (ws.zip (anM (machOf (bothM s t)) (i * m + k) ws)).filterMap (fun x => if x.1 < p then some x.2 else none) ∧
    anM (machOf t) k ((ws.zip (anM (machOf (bothM s t)) (i * m + k) ws)).filterMap fun x => if x.1 < p then none else some (x.1 - p)) = (ws.zip (anM (machOf (bothM s t)) (i * m + k) ws)).filterMap (fun x => if x.1 < p then none else some x.2) := by
  obtain ⟨_, _, n3, n4, n5, n6⟩ := nums_both h hnm
  have wfs := wf_machOf hs
  have wft := wf_machOf ht
  intro ws
  induction ws with
  | nil => intro i k _ _ _; exact ⟨rfl, rfl⟩
  | cons o ws ih =>
    intro i k hi hk hw
    have ho : o < p + q := hw o (by simp)
    have hw' : OkW (p + q) ws := fun x hx => hw x (by simp [hx])
    obtain ⟨m1, m2⟩ := mach_both h hi hk ho
    by_cases hop : o < p
    · obtain ⟨a1, a2⟩ := m1 hop
      have hx : (machOf s).nx i o < n := by have := wfs.nx i (by omega) o (by omega); omega
      obtain ⟨i1, i2⟩ := ih _ k hx hk hw'
      simp only [anM, a1, a2, List.zip_cons_cons, List.filterMap_cons, hop, if_true]
      exact ⟨by rw [i1], i2⟩
    · obtain ⟨a1, a2⟩ := m2 (by omega)
      have hx : (machOf t).nx k (o - p) < m := by have := wft.nx k (by omega) (o - p) (by omega); omega
      obtain ⟨i1, i2⟩ := ih i _ hi hx hw'
      simp only [anM, a1, a2, List.zip_cons_cons, List.filterMap_cons, hop, if_false]
      exact ⟨i1, by rw [i2]⟩
end

/-! ### A word that is parted -/

def firstsI (p : Nat) (l : List (Int × Int)) : List Int := l.filterMap fun x => if x.1 < (p : Int) then some x.1 else none
def onesI (p : Nat) (l : List (Int × Int)) : List Int := l.filterMap fun x => if x.1 < (p : Int) then some x.2 else none
def secondsI (p : Nat) (l : List (Int × Int)) : List Int := l.filterMap fun x => if x.1 < (p : Int) then none else some (x.1 - (p : Int))
def othersI (p : Nat) (l : List (Int × Int)) : List Int := l.filterMap fun x => if x.1 < (p : Int) then none else some x.2

theorem parted_int (p : Nat) : ∀ (wn : List Nat) (A : List Int),
    firstsI p ((ofN wn).zip A) = ofN ((wn.zip A).filterMap fun x => if x.1 < p then some x.1 else none) ∧ onesI p ((ofN wn).zip A) = ((wn.zip A).filterMap fun x => if x.1 < p then some x.2 else none) ∧
    secondsI p ((ofN wn).zip A) = ofN ((wn.zip A).filterMap fun x => if x.1 < p then none else some (x.1 - p)) ∧ othersI p ((ofN wn).zip A) = ((wn.zip A).filterMap fun x => if x.1 < p then none else some x.2) := by
  intro wn
  induction wn with
  | nil => intro A; exact ⟨rfl, rfl, rfl, rfl⟩
  | cons o wn ih =>
    intro A
    cases A with
    | nil => exact ⟨rfl, rfl, rfl, rfl⟩
    | cons a A =>
      obtain ⟨h1, h2, h3, h4⟩ := ih A
      unfold firstsI at *; unfold onesI at *; unfold secondsI at *; unfold othersI at *
      by_cases ho : o < p
      · have hoi : (o : Int) < (p : Int) := by omega
        have e : ofN (o :: wn) = (o : Int) :: ofN wn := rfl
        rw [e, List.zip_cons_cons, List.zip_cons_cons]
        simp only [List.filterMap_cons, ho, hoi, if_true]
        exact ⟨by rw [h1]; rfl, by rw [h2], h3, h4⟩
      · have hoi : ¬ (o : Int) < (p : Int) := by omega
        have e : ofN (o :: wn) = (o : Int) :: ofN wn := rfl
        rw [e, List.zip_cons_cons, List.zip_cons_cons]
        simp only [List.filterMap_cons, ho, hoi, if_false]
        refine ⟨h1, h2, ?_, by rw [h4]⟩
        rw [h3]
        show _ = ((o - p : Nat) : Int) :: _
        rw [show ((o - p : Nat) : Int) = (o : Int) - (p : Int) by omega]
        rfl

theorem okW_firsts {p q : Nat} (wn : List Nat) (A : List Int) (hw : OkW (p + q) wn) :
    OkW p ((wn.zip A).filterMap fun x => if x.1 < p then some x.1 else none) ∧ OkW q ((wn.zip A).filterMap fun x => if x.1 < p then none else some (x.1 - p)) := by
  constructor
  · intro x hx
    obtain ⟨y, hy, he⟩ := List.mem_filterMap.1 hx
    split at he
    · simp only [Option.some.injEq] at he; omega
    · cases he
  · intro x hx
    obtain ⟨y, hy, he⟩ := List.mem_filterMap.1 hx
    have := hw y.1 (List.of_mem_zip hy).1
    split at he
    · cases he
    · simp only [Option.some.injEq] at he; omega

theorem toN_ofN' (ws : List Nat) : toN (ofN ws) = ws := by
  unfold toN ofN
  rw [List.map_map]
  conv => rhs; rw [← List.map_id ws]
  exact List.map_congr_left (fun x _ => by simp)

theorem ofN_toN2 {ops : Int} {ws : List Int} (hw : isWordM ops ws = true) : ofN (toN ws) = ws := by
  unfold isWordM at hw
  rw [Bool.and_eq_true, List.all_eq_true] at hw
  unfold toN ofN
  rw [List.map_map]
  conv => rhs; rw [← List.map_id ws]
  refine List.map_congr_left (fun x hx => ?_)
  have := hw.1 x hx
  unfold inM at this
  simp at this
  simp; omega

theorem isWord_ofN' {k : Nat} {ops : Int} {ws : List Nat} (ho : ops = (k : Int)) (hw : OkW k ws) (hl : ws.length ≤ 20) : isWordM ops (ofN ws) = true := by
  unfold isWordM
  rw [Bool.and_eq_true, List.all_eq_true]
  refine ⟨fun x hx => ?_, by simpa [ofN] using hl⟩
  obtain ⟨y, hy, rfl⟩ := List.mem_map.1 hx
  have := hw y hy
  unfold inM
  simp; omega

theorem sides_facts {s t : RSpec} {n p m q : Nat} (h : Sized s t n p m q) (hnm : n * m ≤ 8) (hpq : p + q ≤ 4) (hs : validM s = true) (ht : validM t = true) {ws : List Int} (hw : isWordM (bothM s t).ops ws = true) :
    runE (bothM s t) 0 ws = 0 ∧ (runL (bothM s t) 0 ws).length = ws.length ∧
    runE s 0 (firstsI p (ws.zip (runL (bothM s t) 0 ws))) = 0 ∧ runL s 0 (firstsI p (ws.zip (runL (bothM s t) 0 ws))) = onesI p (ws.zip (runL (bothM s t) 0 ws)) ∧
    runE t 0 (secondsI p (ws.zip (runL (bothM s t) 0 ws))) = 0 ∧ runL t 0 (secondsI p (ws.zip (runL (bothM s t) 0 ws))) = othersI p (ws.zip (runL (bothM s t) 0 ws)) := by
  have hv := valid_both h hnm hpq hs ht
  have hst : (bothM s t).st = ((n * m : Nat) : Int) := by rw [bothM_of h, Int.natCast_mul]
  have hop : (bothM s t).ops = ((p + q : Nat) : Int) := by rw [bothM_of h]; show (p : Int) + (q : Int) = _; omega
  have hpos : 1 ≤ n * m := Nat.mul_pos h.n1 h.m1
  have e0 : runE (bothM s t) 0 ws = 0 := by
    unfold runE
    rw [if_pos hv, if_pos]
    rw [hw, Bool.and_true]
    unfold inM
    rw [hst]; simp; omega
  have hL : runL (bothM s t) 0 ws = anM (machOf (bothM s t)) (0 * m + 0) (toN ws) := by
    unfold runL
    rw [if_pos e0, Nat.zero_mul, Nat.zero_add]; rfl
  have hlen : (toN ws).length = ws.length := by simp [toN]
  have hok : OkW (p + q) (toN ws) := by
    have h1 := okW_toN hw
    have h2 : (machOf (bothM s t)).k = p + q := (nums_both h hnm).2.1
    rwa [h2] at h1
  have hw20 : ws.length ≤ 20 := by
    unfold isWordM at hw
    rw [Bool.and_eq_true] at hw
    simpa using hw.2
  obtain ⟨k1, k2⟩ := parted h hnm hs ht (toN ws) 0 0 h.n1 h.m1 hok
  have hwz := ofN_toN2 hw
  obtain ⟨p1, p2, p3, p4⟩ := parted_int p (toN ws) (anM (machOf (bothM s t)) (0 * m + 0) (toN ws))
  rw [hwz] at p1 p2 p3 p4
  obtain ⟨o1, o2⟩ := okW_firsts (p := p) (q := q) (toN ws) (anM (machOf (bothM s t)) (0 * m + 0) (toN ws)) hok
  have hzl : ((toN ws).zip (anM (machOf (bothM s t)) (0 * m + 0) (toN ws))).length ≤ 20 := by rw [List.length_zip]; omega
  have r1 := isWord_ofN' h.ops o1 (Nat.le_trans (List.length_filterMap_le _ _) hzl)
  have r2 := isWord_ofN' h.ops' o2 (Nat.le_trans (List.length_filterMap_le _ _) hzl)
  rw [hL, p1, p2, p3, p4]
  have z1 : inM s.st 0 = true := by unfold inM; rw [h.st]; have := h.n1; simp; omega
  have z2 : inM t.st 0 = true := by unfold inM; rw [h.st']; have := h.m1; simp; omega
  have f1 : runE s 0 (ofN (((toN ws).zip (anM (machOf (bothM s t)) (0 * m + 0) (toN ws))).filterMap fun x => if x.1 < p then some x.1 else none)) = 0 := by
    unfold runE; rw [if_pos hs, r1, z1]; rfl
  have f2 : runE t 0 (ofN (((toN ws).zip (anM (machOf (bothM s t)) (0 * m + 0) (toN ws))).filterMap fun x => if x.1 < p then none else some (x.1 - p))) = 0 := by
    unfold runE; rw [if_pos ht, r2, z2]; rfl
  refine ⟨e0, by rw [length_anM]; exact hlen, f1, ?_, f2, ?_⟩
  · unfold runL
    rw [if_pos f1, toN_ofN']
    exact k1
  · unfold runL
    rw [if_pos f2, toN_ofN']
    exact k2

theorem zip_succ {ws A : List Int} {j : Nat} (hj : j < ws.length) (hA : A.length = ws.length) : (ws.zip A).take (j + 1) = (ws.zip A).take j ++ [(nth ws j, nth A j)] := by
  have hl : j < (ws.zip A).length := by rw [List.length_zip]; omega
  rw [List.take_succ_eq_append_getElem hl, List.getElem_zip, nth_lt hj, nth_lt (by omega)]
end Go.Lin
