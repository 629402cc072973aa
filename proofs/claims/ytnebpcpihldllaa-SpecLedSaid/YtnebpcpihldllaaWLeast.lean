/- Regions that draw their order in a round of a loop over a function: where all operations leave the world alone, and where all but the last one do. Of no program. Walks: the least machine, of the program's own text. -/
import Derived.Test.YtnebpcpihldllaaBase
import Derived.OwnWalkIn
import Derived.Sort.QuietThIn
import Derived.Sort.BigQuietIn
import Derived.Test.YtnebpcpihldllaaFirsts
import Derived.Test.YtnebpcpihldllaaWWay
import Derived.Test.YtnebpcpihldllaaWBegun
namespace Go.Lin
open Go Go.RowKit

section
variable {F : Fence} {n : Nat} {P : Program} {ops : Array Oper} {md : Region.Mode} {C : World → Prop}

def plainOps (ops : Array Oper) : Bool := ops.all fun o => match o.op with | .defer _ => false | _ => true
def bareOps (ops : Array Oper) : Bool := ops.all fun o => o.guard.isNone

theorem plain_spec (h : plainOps ops = true) {i : Nat} {o : Oper} (hi : ops[i]? = some o) : ∀ c, o.op ≠ .defer c := by
  intro c hc
  unfold plainOps at h
  rw [Array.all_eq_true] at h
  obtain ⟨hlt, rfl⟩ := Array.getElem?_eq_some_iff.1 hi
  have := h i hlt
  rw [hc] at this
  cases this

theorem bare_spec (h : bareOps ops = true) {i : Nat} {o : Oper} (hi : ops[i]? = some o) : o.guard = none := by
  unfold bareOps at h
  rw [Array.all_eq_true] at h
  obtain ⟨hlt, rfl⟩ := Array.getElem?_eq_some_iff.1 hi
  simpa using h i hlt

theorem quiet_op {o : Oper} {a : Act} {K : Act → Prop} {K' : Act → World → Prop} {Q' : Exit → Act → World → Prop} {w : World} (hpl : ∀ c, o.op ≠ .defer c) (hw : C w) (h : ∀ a w', C w' → K a → K' a w')
    (ha : o.askedIn F P a C) (hh : o.quietIn F n P a C K) : o.wpIn F n P a w K' Q' := by
  obtain ⟨v, h1, h2⟩ := hh
  have h3 := h1 w hw
  unfold Oper.quietAtIn at h3
  unfold Oper.wpIn
  refine ⟨ha w hw, ?_⟩
  rw [Oper.semAt_plain F _ _ hpl]
  generalize (execOp a.eval o).run P w = r at *
  cases r with
  | ok x w' =>
    cases x <;> simp only [Oper.quietUponIn] at h3 <;> simp only [Oper.uponIn]
    case value u =>
      obtain ⟨e1, e2⟩ := h3
      rw [e1, e2]
      exact h _ _ hw h2
    case skip =>
      obtain ⟨e1, e2⟩ := h3
      rw [e1, ← e2]
      exact h _ _ hw h2
    case enter f args =>
      obtain ⟨e1, hd, hc⟩ := h3
      rw [e1]
      exact ⟨hd, hc.mono fun e w'' ⟨he, hw''⟩ => by subst he; exact h _ _ hw'' h2⟩
  | halt x w' => simp only [Oper.quietUponIn] at h3

theorem quiet_at {i : Nat} {a : Act} {K : Act → Prop} {K' : Act → World → Prop} {Q' : Exit → Act → World → Prop} {w : World} (hpl : plainOps ops = true) (hC : C w) (h : ∀ a w', C w' → K a → K' a w')
    (hh : qOpIn F n P ops C i K a) : wpOpIn F n P ops Q' i K' a w := by
  unfold qOpIn at hh
  unfold wpOpIn
  split
  · rename_i ho; simp only [ho] at hh; exact h _ _ hC hh
  · rename_i o ho
    simp only [ho] at hh
    obtain ⟨ha, hh⟩ := hh
    split
    · rename_i hw; simp only [hw, if_true] at hh; exact quiet_op (plain_spec hpl ho) hC h ha hh
    · rename_i hw; simp only [hw] at hh; exact ⟨ha w hC, h _ _ hC hh⟩

theorem quiet_any {Q : Act → Prop} {Q' : Exit → Act → World → Prop} (hpl : plainOps ops = true) (hQ : ∀ a w, C w → Q a → Q' .normal a w) : ∀ (fuel : Nat) (listed : Array Bool) (a : Act) (w : World), C w →
    wpAnyQIn F n P md ops C Q fuel listed a → wpAnyIn F n P md ops Q' fuel listed a w
  | 0, _, _, _, hw, h => ⟨h.1, hQ _ _ hw h.2⟩
  | fuel + 1, _, _, _, hw, h => ⟨fun h0 => hQ _ _ hw (h.1 h0), fun i hi => quiet_at hpl hw (fun a' w' hw' => quiet_any hpl hQ fuel _ a' w' hw') (h.2 i hi)⟩

/-- One walk of the text's order serves every order: in a round, too. -/
theorem wpIn_region_still {id : Nat} {Q : Exit → Act → World → Prop} {a : Act} {w : World} {l : List Oper} (hm : P.follows .mixedOrders = true) (hpl : plainOps l.toArray = true) (hB : Region.lexB .any l.toArray = true)
    (h : wpQuietIn F n P l.toArray (fun w' => ∃ n, w' = w.drewN n) (fun a' => ∀ w', (∃ n, w' = w.drewN n) → Q .normal a' w') l a) : (Code.region id l.toArray true).wpIn F n P Q a w := by
  simp only [Region.lexB, Bool.and_eq_true] at hB
  refine wpIn_region_any hm (quiet_any (C := fun w' => ∃ n, w' = w.drewN n) (Q := fun a' => ∀ w', (∃ n, w' = w.drewN n) → Q .normal a' w') hpl (fun _ w' hw' h => h w' hw') _ _ _ _ ⟨1, rfl⟩ ?_)
  have := wpAnyQIn_lex (F := F) (n := n) (C := fun w' => ∃ n, w' = w.drewN n) (md := .any) hB.1 l 0 (Array.replicate l.toArray.size false) a (by simp) (by simpa using hB.2) h
  simpa using this

/-! ### All but the last one leave the world alone -/

/-- Each waits for earlier ones alone. -/
def backB (ops : Array Oper) : Bool := (List.range ops.size).all fun k => ((ops[k]?).map fun o => o.after.all fun e => !Region.binds .any e || decide (e.on < k)).getD true
/-- Each but the last one is waited for. -/
def usedB (ops : Array Oper) : Bool := (List.range (ops.size - 1)).all fun j => (List.range ops.size).any fun k => decide (j < k) && ((ops[k]?).map fun o => o.after.any fun e => Region.binds .any e && decide (e.on = j)).getD false

theorem back_spec (h : backB ops = true) {k : Nat} {o : Oper} (ho : ops[k]? = some o) {e : _} (he : e ∈ o.after) (hb : Region.binds .any e = true) : e.on < k := by
  unfold backB at h
  rw [List.all_eq_true] at h
  have := h k (List.mem_range.2 (Array.getElem?_eq_some_iff.1 ho).1)
  rw [ho] at this
  simp only [Option.map_some, Option.getD_some, Array.all_eq_true_iff_forall_mem] at this
  have := this e he
  simpa [hb] using this

theorem used_spec (h : usedB ops = true) {j : Nat} (hj : j < ops.size - 1) : ∃ k o, j < k ∧ ops[k]? = some o ∧ ∃ e ∈ o.after, Region.binds .any e = true ∧ e.on = j := by
  unfold usedB at h
  rw [List.all_eq_true] at h
  have := h j (List.mem_range.2 hj)
  rw [List.any_eq_true] at this
  obtain ⟨k, _, hk⟩ := this
  simp only [Bool.and_eq_true, decide_eq_true_eq] at hk
  obtain ⟨h1, h2⟩ := hk
  cases ho : ops[k]? with
  | none => rw [ho] at h2; cases h2
  | some o =>
    rw [ho] at h2
    simp only [Option.map_some, Option.getD_some, Array.any_eq_true'] at h2
    obtain ⟨e, he, h3⟩ := h2
    simp only [Bool.and_eq_true, decide_eq_true_eq] at h3
    exact ⟨k, o, h1, ho, e, he, h3⟩

/-- Whatever is listed, all that it waits for is listed, too. -/
def Closed (ops : Array Oper) (listed : Array Bool) : Prop := ∀ (j : Nat) (o : Oper), ops[j]? = some o → listed.getD j true = true → ∀ e ∈ o.after, Region.binds .any e = true → listed.getD e.on false = true

theorem getD_both {listed : Array Bool} {i : Nat} (h : i < listed.size) : listed.getD i false = listed.getD i true := by
  simp [Array.getD, h]

theorem Closed.set {listed : Array Bool} (h : Closed ops listed) {i : Nat} (hi : i ∈ Region.ready .any ops listed) : Closed ops (listed.setIfInBounds i true) := by
  intro j o ho hj e he hb
  refine getD_set_true ?_
  by_cases e1 : i = j
  · subst e1
    obtain ⟨_, o', ho', hall⟩ := mem_ready.1 hi
    rw [ho] at ho'; cases ho'
    exact hall e he hb
  · rw [getD_set_ne true e1] at hj
    exact h j o ho hj e he hb

/-- Where the last one comes up, all others have come. -/
theorem Closed.all {listed : Array Bool} (h : Closed ops listed) (hu : usedB ops = true) (hs : listed.size = ops.size) (hN : ops.size - 1 ∈ Region.ready .any ops listed) : ∀ d j, d + j = ops.size - 1 → 0 < d → listed.getD j true = true := by
  intro d
  induction d using Nat.strongRecOn with
  | _ d ih =>
    intro j hj hd
    obtain ⟨k, o, h1, ho, e, he, hb, heq⟩ := used_spec hu (j := j) (by omega)
    have hk : k < ops.size := (Array.getElem?_eq_some_iff.1 ho).1
    rw [← getD_both (by omega), ← heq]
    by_cases hkN : k = ops.size - 1
    · obtain ⟨_, o', ho', hall⟩ := mem_ready.1 hN
      rw [← hkN, ho] at ho'; cases ho'
      exact hall e he hb
    · exact h k o ho (ih (ops.size - 1 - k) (by omega) k (by omega) (by omega)) e he hb

theorem ready_some {listed : Array Bool} (hb : backB ops = true) (hs : listed.size = ops.size) : ∀ j, j < ops.size → listed.getD j true = false → Region.ready .any ops listed ≠ [] := by
  intro j
  induction j using Nat.strongRecOn with
  | _ j ih =>
    intro hj hl
    by_cases h : ∃ i, i < j ∧ listed.getD i true = false
    · obtain ⟨i, h1, h2⟩ := h
      exact ih i h1 (by omega) h2
    · have : j ∈ Region.ready .any ops listed := mem_ready.2 ⟨hl, ops[j], Array.getElem?_eq_getElem hj, fun e he hbe => by
        have hlt := back_spec hb (Array.getElem?_eq_getElem hj) he hbe
        rw [getD_both (by omega)]
        cases hv : listed.getD e.on true with
        | true => rfl
        | false => exact absurd ⟨_, hlt, hv⟩ h⟩
      intro e
      rw [e] at this
      cases this

/-- The last one, made to do nothing. -/
def stilled (t : Oper) : Oper := { t with op := .move (.const undef), dst := none }

theorem ready_stilled {l : List Oper} {t : Oper} (listed : Array Bool) : Region.ready .any (l ++ [stilled t]).toArray listed = Region.ready .any (l ++ [t]).toArray listed := by
  unfold Region.ready
  have hs : (l ++ [stilled t]).toArray.size = (l ++ [t]).toArray.size := by simp
  rw [hs]
  refine List.filter_congr (fun i hi => ?_)
  have hi' : i < l.length + 1 := by simpa using hi
  congr 1
  by_cases h : i < l.length
  · simp [List.getElem?_append_left h]
  · have : i = l.length := by omega
    subst this
    simp [stilled]

theorem last_any {l : List Oper} {t : Oper} {Qf : Act → Prop} {Q : Exit → Act → World → Prop} (hpl : plainOps (l ++ [t]).toArray = true) (hbare : bareOps (l ++ [t]).toArray = true) (hb : backB (l ++ [t]).toArray = true) (hu : usedB (l ++ [t]).toArray = true)
    (hlast : ∀ a w, C w → Qf a → t.wpIn F n P a w (fun a w => Q .normal a w) Q) :
    ∀ (fuel : Nat) (listed : Array Bool) (a : Act) (w : World), C w → Closed (l ++ [t]).toArray listed → listed.size = l.length + 1 → listed.getD l.length true = false →
      wpAnyQIn F n P .any (l ++ [stilled t]).toArray C Qf fuel listed a → wpAnyIn F n P .any (l ++ [t]).toArray Q fuel listed a w
  | 0, listed, a, w, _, _, hs, hN, h => by
    refine absurd (ready_stilled (t := t) listed ▸ h.1) (ready_some hb (by simpa using hs) l.length (by simp) hN)
  | fuel + 1, listed, a, w, hw, hc, hs, hN, h => by
    refine ⟨fun h0 => absurd h0 (ready_some hb (by simpa using hs) l.length (by simp) hN), fun i hi => ?_⟩
    have h2 := h.2 i (by rw [ready_stilled]; exact hi)
    by_cases hiN : i = l.length
    · subst hiN
      have hot : (l ++ [t]).toArray[l.length]? = some t := by simp
      have hos : (l ++ [stilled t]).toArray[l.length]? = some (stilled t) := by simp
      have hfull : ∀ j, j < l.length → listed.getD j true = true := fun j hj => hc.all hu (by simpa using hs) (by simpa using hi) (l.length - j) j (by simp; omega) (by omega)
      have hnone : Region.ready .any (l ++ [t]).toArray (listed.setIfInBounds l.length true) = [] := by
        rw [List.eq_nil_iff_forall_not_mem]
        intro j hj
        obtain ⟨h0, o, ho, _⟩ := mem_ready.1 hj
        have hjl : j < l.length + 1 := by simpa using (Array.getElem?_eq_some_iff.1 ho).1
        by_cases e : l.length = j
        · subst e
          simp [Array.getD, hs] at h0
        · rw [getD_set_ne true e, hfull j (by omega)] at h0
          cases h0
      unfold qOpIn at h2
      simp only [hos] at h2
      have hg : (stilled t).guard = none := (bare_spec hbare hot : t.guard = none)
      have hwant : ∀ y, Region.wanted (stilled t) y = true := fun y => by simp [Region.wanted, hg]
      obtain ⟨_, h2⟩ := h2
      rw [hwant, if_pos rfl] at h2
      obtain ⟨v, _, h3⟩ := h2
      have h4 : Qf a := by
        have hr : Region.ready .any (l ++ [stilled t]).toArray (listed.setIfInBounds l.length true) = [] := by rw [ready_stilled]; exact hnone
        cases fuel with
        | zero => exact h3.2
        | succ f => exact h3.1 hr
      unfold wpOpIn
      simp only [hot]
      have hwant2 : ∀ y, Region.wanted t y = true := fun y => by simp [Region.wanted, show t.guard = none from hg]
      rw [hwant2, if_pos rfl]
      refine Oper.wpIn_mono (fun a' w' hq => ?_) (hlast a w hw h4)
      cases fuel with
      | zero => exact ⟨hnone, hq⟩
      | succ f => exact ⟨fun _ => hq, fun j hj => by rw [hnone] at hj; cases hj⟩
    · obtain ⟨_, o, ho, _⟩ := mem_ready.1 hi
      have hil : i < l.length := by
        have : i < l.length + 1 := by simpa using (Array.getElem?_eq_some_iff.1 ho).1
        omega
      have ho2 : (l ++ [stilled t]).toArray[i]? = some o := by
        have : (l ++ [t]).toArray[i]? = some o := ho
        simp [List.getElem?_append_left hil] at this ⊢
        exact this
      have hg := bare_spec hbare ho
      have hwant : ∀ y, Region.wanted o y = true := fun y => by simp [Region.wanted, hg]
      unfold qOpIn at h2
      simp only [ho2] at h2
      obtain ⟨ha, h2⟩ := h2
      rw [hwant, if_pos rfl] at h2
      unfold wpOpIn
      simp only [ho]
      rw [hwant, if_pos rfl]
      exact quiet_op (plain_spec hpl ho) hw (fun a' w' hw' hk => last_any hpl hbare hb hu hlast fuel _ a' w' hw' (hc.set hi) (by simpa using hs) (by rw [getD_set_ne true hiN]; exact hN) hk) ha h2

/-- One walk of the text's order, and then the last operation. -/
theorem wpIn_region_last {id : Nat} {Q : Exit → Act → World → Prop} {a : Act} {w : World} {l : List Oper} {t : Oper} (hm : P.follows .mixedOrders = true) (hpl : plainOps (l ++ [t]).toArray = true) (hbare : bareOps (l ++ [t]).toArray = true) (hb : backB (l ++ [t]).toArray = true) (hu : usedB (l ++ [t]).toArray = true)
    (hB : Region.lexB .any (l ++ [stilled t]).toArray = true)
    (h : wpQuietIn F n P (l ++ [stilled t]).toArray (fun w' => ∃ _ : Unit, w' = w.drew) (fun a' => t.wpIn F n P a' w.drew (fun a w => Q .normal a w) Q) l a) : (Code.region id (l ++ [t]).toArray true).wpIn F n P Q a w := by
  simp only [Region.lexB, Bool.and_eq_true] at hB
  refine wpIn_region_any hm (last_any (C := fun w' => ∃ _ : Unit, w' = w.drew) (Qf := fun a' => t.wpIn F n P a' w.drew (fun a w => Q .normal a w) Q) hpl hbare hb hu (fun a' w' ⟨_, hw'⟩ hq => by subst hw'; exact hq) _ _ _ _ ⟨(), rfl⟩ ?_ (by simp) (by simp) ?_)
  · intro j o ho hj
    have hjl : j < l.length + 1 := by simpa using (Array.getElem?_eq_some_iff.1 ho).1
    simp [Array.getD, hjl] at hj
  · have hq : wpQuietIn F n P (l ++ [stilled t]).toArray (fun w' => ∃ _ : Unit, w' = w.drew) (fun a' => t.wpIn F n P a' w.drew (fun a w => Q .normal a w) Q) (l ++ [stilled t]) a := by
      have go : ∀ (l' : List Oper) (a : Act), wpQuietIn F n P (l ++ [stilled t]).toArray (fun w' => ∃ _ : Unit, w' = w.drew) (fun a' => t.wpIn F n P a' w.drew (fun a w => Q .normal a w) Q) l' a →
          wpQuietIn F n P (l ++ [stilled t]).toArray (fun w' => ∃ _ : Unit, w' = w.drew) (fun a' => t.wpIn F n P a' w.drew (fun a w => Q .normal a w) Q) (l' ++ [stilled t]) a := by
        intro l'
        induction l' with
        | nil =>
          intro a h
          refine ⟨fun w' _ f hf => ?_, ?_⟩
          · simp [Oper.about, stilled] at hf
          · have hg : (stilled t).guard = none := (bare_spec hbare (i := l.length) (o := t) (by simp) : t.guard = none)
            rw [show Region.wanted (stilled t) _ = true by simp [Region.wanted, hg], if_pos rfl]
            refine ⟨undef, fun w' _ => ?_, h⟩
            unfold Oper.quietAtIn stilled
            simp [execOp, go_sem, Oper.quietUponIn]
        | cons o l' ih =>
          intro a h
          refine ⟨h.1, ?_⟩
          have h2 := h.2
          split
          · rename_i hw; simp only [hw, if_true] at h2; exact Oper.quietIn_mono (fun a => ih a) h2
          · rename_i hw; simp only [hw] at h2; exact ih _ h2
      exact go l a h
    have := wpAnyQIn_lex (F := F) (n := n) (C := fun w' => ∃ _ : Unit, w' = w.drew) (md := .any) hB.1 (l ++ [stilled t]) 0 (Array.replicate (l ++ [stilled t]).toArray.size false) a (by simp) (by simpa using hB.2) hq
    simpa using this
theorem list_last {L l : List Oper} {t : Oper} (hl : L.dropLast = l) (ht : L.getLast? = some t) : l ++ [t] = L := by
  subst hl
  have hne : L ≠ [] := by intro e; subst e; cases ht
  rw [List.getLast?_eq_some_getLast hne] at ht
  cases ht
  exact List.dropLast_concat_getLast hne

theorem wpIn_region_last' {id : Nat} {Q : Exit → Act → World → Prop} {a : Act} {w : World} {L l : List Oper} {t : Oper} (hl : L.dropLast = l) (ht : L.getLast? = some t) (hm : P.follows .mixedOrders = true) (hpl : plainOps L.toArray = true) (hbare : bareOps L.toArray = true) (hb : backB L.toArray = true) (hu : usedB L.toArray = true)
    (hB : Region.lexB .any (l ++ [stilled t]).toArray = true)
    (h : wpQuietIn F n P (l ++ [stilled t]).toArray (fun w' => ∃ _ : Unit, w' = w.drew) (fun a' => t.wpIn F n P a' w.drew (fun a w => Q .normal a w) Q) l a) : (Code.region id L.toArray true).wpIn F n P Q a w := by
  have e := list_last hl ht
  subst e
  exact wpIn_region_last hm hpl hbare hb hu hB h
end
end Go.Lin
namespace Go.Lin
/-- The rows of the least machine. -/
def leastN (M : Mach) (cl : Nat → Nat) (L : List (List Nat)) (i : Nat) : List Int := (List.range M.k).map fun o => ((posW M cl L (M.nx (repW M L i) o) : Nat) : Int)
def leastY (M : Mach) (L : List (List Nat)) (i : Nat) : List Int := (List.range M.k).map fun o => M.sy (repW M L i) o

theorem leastS_rows (s : RSpec) (cl : Nat → Nat) (L : List (List Nat)) : leastS s cl L = ⟨L.length, s.ops, (List.range L.length).map (leastN (machOf s) cl L), (List.range L.length).map (leastY (machOf s) L)⟩ := rfl

theorem firsts_rep {M : Mach} {cl : Nat → Nat} {xs : List WX} (h : AllWays M xs) {i : Nat} (hi : i < (firstWords cl xs).length) :
    (firstCells (firsts cl xs))[i]? = some (.int .i64 ((repW M (firstWords cl xs) i : Nat) : Int)) := by
  have hi' : i < (firsts cl xs).length := by simpa [firstWords] using hi
  unfold firstCells
  rw [List.getElem?_map, List.getElem?_eq_getElem hi']
  have hy : (firsts cl xs)[i] ∈ firsts cl xs := List.getElem_mem hi'
  have hw := (h.ways _ ((firsts_sublist cl xs).subset hy)).1
  unfold repW
  rw [nthW_lt hi]
  simp only [firstWords, List.getElem_map, Option.map_some]
  rw [hw.leads]

theorem clsOf_words {M : Mach} {cl : Nat → Nat} {xs : List WX} (h : AllWays M xs) : clsOf cl xs = (firstWords cl xs).map fun w => cl (stM M 0 w) := by
  unfold clsOf firstWords
  rw [List.map_map]
  refine List.map_congr_left (fun y hy => ?_)
  have hw := (h.ways _ ((firsts_sublist cl xs).subset hy)).1
  simp only [Function.comp]
  rw [hw.leads]

theorem least_num {M : Mach} {sB : Nat → Nat → Bool} {cl : Nat → Nat} (hS : Sames M sB cl) {xs : List WX} (h : AllWays M xs) {i o : Nat} (hi : i < (firstWords cl xs).length) (ho : o < M.k) :
    numO (clsOf cl xs) (cl (M.nx (repW M (firstWords cl xs) i) o)) = some (posW M cl (firstWords cl xs) (M.nx (repW M (firstWords cl xs) i) o)) := by
  have hL := least_firsts hS h
  obtain ⟨e, hok⟩ := rep_step hL hi ho
  obtain ⟨w, hw, he⟩ := hL.all _ hok
  rw [clsOf_words h, numO_some]
  · rfl
  · rw [e]
    exact List.mem_map.2 ⟨w, hw, ((hS.iff _ _).2 he).symm⟩
end Go.Lin
namespace Go.Proofs.Ytnebpcpihldllaa
open Go.RowKit Go.Lin Go.Maps Go.Shelf
attribute [local go_sem] Oper.semAt_some

/-- What holds when 'pre' has come: BF: the first states' box; BM: the map. -/
structure RF (M : Mach) (cl : Nat → Nat) (Wl : World) (BF BM : Nat) (pre : List WX) (T : Nat → Prop) (v : Value) (W : World) : Prop where
  keep : Keeps (fun k _ => k = BF ∨ k = BM ∨ Wl.heap.size ≤ k) Wl W
  box : W.heap[BF]? = some (.cells #[v] 34 (0, 0))
  seg : Seg W Wl.heap.size 3 1 v (firsts cl pre).length (firstCells (firsts cl pre))
  map : OMap W Try.prog 3 3 BM pre.length encI (numO (clsOf cl pre))
  far : ∀ k, T k → Wl.heap.size ≤ k
  own : ∀ k, v.ownBlock = some k → ¬ T k
  lt : ∀ y ∈ pre, y.1.1 < M.n

theorem keeps_cell {may : Nat → Obj → Prop} {w w' : World} (hk : Keeps may w w') {b : Nat} (hb : b < w.heap.size) (hm : ∀ o, ¬ may b o) (j : Nat) : w'.cell? ⟨b, j, none⟩ = w.cell? ⟨b, j, none⟩ := by
  have h := hk.obj b _ (Array.getElem?_eq_getElem hb) (hm _)
  unfold World.cell?
  simp only [h, Array.getElem?_eq_getElem hb]

theorem zero3 (w : World) : (zeroValue 3).run Try.prog w = .ok (.int .i64 0) w := by kernel_rfl

/-- The ways through a region that draws its order meet again. -/
theorem wpIn_meet {F : Fence} {n : Nat} {P : Program} {c : Code} {K : Act → World → Prop} {Q : Exit → Act → World → Prop} {a : Act} {w : World} (A : Act) (W : World) (h1 : c.wpIn F n P (Exit.then (fun a' w' => a' = A ∧ w' = W) Q) a w) (h2 : K A W) : c.wpIn F n P (Exit.then K Q) a w :=
  wpIn_mono h1 (fun e a' w' h => by
    cases e with
    | normal => obtain ⟨rfl, rfl⟩ := h; exact h2
    | _ => exact h)

/-- What stands behind, where nothing panics. -/
def calm (Q : Exit → Act → World → Prop) : Exit → Act → World → Prop
  | .panic _, _, _ => False
  | .outgrown, _, _ => False
  | e, a, w => Q e a w

theorem wp_calm {P : Program} {c : Code} {Q : Exit → Act → World → Prop} {a : Act} {w : World} (h : c.wp P (calm Q) a w) : c.wp P Q a w :=
  wp_mono h (fun e a w h => by cases e <;> first | exact h | exact h.elim)

theorem wpIn_act {F : Fence} {n : Nat} {P : Program} {c : Code} {Q : Exit → Act → World → Prop} {a : Act} {w : World} (h : ∀ a₀, a = a₀ → c.wpIn F n P Q a₀ w) : c.wpIn F n P Q a w := h a rfl

theorem RF.keeps {M : Mach} {cl : Nat → Nat} {Wl W W' : World} {BF BM : Nat} {pre : List WX} {T T' : Nat → Prop} {v : Value} (h : RF M cl Wl BF BM pre T v W) (h1 : BF < Wl.heap.size) (h2 : BM < Wl.heap.size) (hk : Keeps (fun k o => T k ∨ (Wl.heap.size ≤ k ∧ o.isCells = false)) W W') (hT : ∀ k, T' k → T k ∨ W.heap.size ≤ k) : RF M cl Wl BF BM pre T' v W' := by
  have hfar : ∀ k (o : Obj), (T k ∨ (Wl.heap.size ≤ k ∧ o.isCells = false)) → Wl.heap.size ≤ k := fun k o hm => by
    rcases hm with hm | hm
    · exact h.far k hm
    · exact hm.1
  refine ⟨h.keep.trans (hk.mono (fun k o hm => .inr (.inr (hfar k o hm)))), hk.obj _ _ h.box (fun hm => ?_), h.seg.keeps hk (fun k o hv ⟨cur, ho⟩ hm => ?_), h.map.keeps hk (fun es c hm => ?_), fun k hk' => ?_, fun k hv hk' => ?_, h.lt⟩
  · have := hfar _ _ hm; omega
  · rcases hm with hm | hm
    · exact h.own k hv hm
    · rw [ho] at hm; cases hm.2
  · have := hfar _ _ hm; omega
  · rcases hT k hk' with hm | hm
    · exact h.far k hm
    · have := h.keep.size; omega
  · rcases hT k hk' with hm | hm
    · exact h.own k hv hm
    · have := (h.seg.own k hv).2.1; omega

theorem results_least {t1 t2 : Tmp} {fn : Func} {tmps : Array Value} {p : Nat} {W : World} {v0 v1 v2 v3 u : Value} (h : fn.results = #[.cell t1 24, .tmp t2]) (h1 : tmps[t1]?.getD undef = .pointer (some ⟨p, 0, none⟩)) (h2 : tmps[t2]?.getD undef = u)
    (c0 : W.cell? ⟨p, 0, none⟩ = some v0) (c1 : W.cell? ⟨p, 1, none⟩ = some v1) (c2 : W.cell? ⟨p, 2, none⟩ = some v2) (c3 : W.cell? ⟨p, 3, none⟩ = some v3) :
    (results fn tmps).run Try.prog W = .ok (.tuple #[.agg #[v0, v1, v2, v3], u]) W := by
  simp [results, h, h1, h2, go_sem, c0, c1, c2, c3, Try.isAgg24]

set_option maxHeartbeats 8000000 in
set_option maxRecDepth 100000 in
theorem least_ok (s : RSpec) (sB : Nat → Nat → Bool) (cl : Nat → Nat) (hS : Sames (machOf s) sB cl) (sv : Value) (w : World) (hs : IsSpec w sv s) (hv : validM s = true) :
    Calls Try.prog 42 #[sv] w fun e w' => ∃ L u, e = .returned (.tuple #[u, .int .i64 0]) ∧ LeastW (machOf s) L ∧ IsSpec w' u (leastS s cl L) ∧ Grew w w' := by
  have HOP := hid (fun (y : World) (hy : Grew w y) => opened_ok s _ 70 #[] y (hs.grew hy) hv entered70 (whatever_says _ y s (hs.grew hy)))
  have hM := wf_machOf hv
  have hmach := hs.isMach hv
  have HST := hid (ops_k hv)
  have HCNT := hid (fun (L : List (List Nat)) (h : LeastW (machOf s) L) => And.intro (least_count hv h) (fun (i : Nat) (hi : i < L.length) => rep_lt hv h hi))
  clear hs
  have HLS := hid (fun (L : List (List Nat)) => leastS_rows s cl L)
  obtain ⟨M, hMe⟩ : ∃ M, machOf s = M := ⟨_, rfl⟩
  rw [hMe] at hM hmach hS HST HCNT HLS ⊢
  have HM := hmach
  have HCL := hid (fun (y : World) (hy : Grew w y) => classes_any M hM sB cl hS _ y (HM.grew hy))
  obtain ⟨b1, off1, c1, b2, off2, c2, rfl, t1, t2⟩ := hmach
  have n8 := hM.n8
  have T1 := hid t1; have T2 := hid t2
  clear t1 t2
  obtain ⟨W0, hW0, g0, k0, k1, k2, k3, hz⟩ := box4 w (.int .i64 (M.n : Int)) (.int .i64 (M.k : Int)) (.slice (some ⟨b1, off1, none⟩) M.n c1) (.slice (some ⟨b2, off2, none⟩) M.n c2) 24
  have hobj2 := heap_alloc_new W0 (.cells #[.int .i64 0, .int .i64 0, .slice none 0 0, .slice none 0 0] 24)
  obtain ⟨W2, hW2, g2, q0, q1, q2, q3, hz2, qf⟩ := boxf4 W0 (.int .i64 0) (.int .i64 0) (.slice none 0 0) (.slice none 0 0) 24
  rw [hW2] at hobj2
  have HOBJ := hid hobj2; clear hobj2
  have g02 := grew_trans g0 g2
  have r0 := (g2.cell (p := ⟨w.heap.size, 0, none⟩) hz).trans k0
  have r1 := (g2.cell (p := ⟨w.heap.size, 1, none⟩) hz).trans k1
  have r2 := (g2.cell (p := ⟨w.heap.size, 2, none⟩) hz).trans k2
  have r3 := (g2.cell (p := ⟨w.heap.size, 3, none⟩) hz).trans k3
  clear k0 k1 k2 k3 q0 q1 q2 q3 qf
  have hmm := @run_makeMap Try.prog
  refine (callsIn_wide (n := 6)).1 ?_
  refine callsIn_of_wp_marks Try.func42 rfl trivial ?_ rfl
  simp only [Try.ntmps42, List.size_toArray, List.length_cons, List.length_nil, Nat.reduceAdd, Nat.reduceSub, Array.replicate_succ, Array.replicate_zero, List.push_toArray, List.append_toArray, List.nil_append, List.cons_append]
  gi_wp2_with (first
    | (refine ⟨trivial, ?_⟩; gi_at_call 56; refine (callsIn_wide.2 (HOP.out _ g02)).mono ?_; rintro e w1 ⟨rfl, hx⟩; obtain ⟨W3, hW3, g3, k0, k1, k2, k3, hz3⟩ := box4 w1 (.int .i64 (M.n : Int)) (.int .i64 (M.k : Int)) (.slice (some ⟨b1, off1, none⟩) M.n c1) (.slice (some ⟨b2, off2, none⟩) M.n c2) 60; have hg := grew_trans hx g3)
    | (refine ⟨trivial, ?_⟩; gi_at_call 71; refine (callsIn_wide.2 (HCL.out _ (grew_trans g02 hg))).mono ?_; rintro e w4 ⟨ucl, rfl, hseg4, hg4⟩; have HSEG4 := hid hseg4; obtain ⟨ua, uc, rfl, _⟩ := hseg4.shape; clear hseg4; obtain ⟨W5, hW5, g5, d5, hz5⟩ := box1 w4 (.slice ua M.n uc) 34; obtain ⟨W6, hW6, g6, d6, hz6⟩ := box1 W5 (.slice none 0 0) 34; obtain ⟨W7, hW7⟩ : ∃ W7, W6.alloc (.map #[] 0) = W7 := ⟨_, rfl⟩; obtain ⟨Wl, hWl, gl, dl, hzl⟩ := box1 W7 (.map (some W6.heap.size)) 86; have g7 : Grew W6 W7 := (by rw [← hW7]; exact grew_alloc (grew_refl _) _); have g5l := grew_trans g6 (grew_trans g7 gl); have g4l := grew_trans g5 g5l; have gAll := grew_trans hg4 g4l; have kk0 := (gAll.cell (p := ⟨w1.heap.size, 0, none⟩) hz3).trans k0; have kk1 := (gAll.cell (p := ⟨w1.heap.size, 1, none⟩) hz3).trans k1; have kk2 := (gAll.cell (p := ⟨w1.heap.size, 2, none⟩) hz3).trans k2; have kk3 := (gAll.cell (p := ⟨w1.heap.size, 3, none⟩) hz3).trans k3))
  obtain ⟨ug, uoff, ucap, ucur, huv, hbg, hgo, hcap, hcapm, hcells⟩ := HSEG4.out.at (by have := hM.n1; omega)
  simp only [Value.slice.injEq] at huv
  obtain ⟨rfl, _, rfl⟩ := huv
  have hclc : ∀ x, x < M.n → Wl.cell? ⟨ug, uoff + x, none⟩ = some (.int .i64 (cl x : Int)) := fun x hx => by
    have h := hcells x (by omega)
    refine (g4l.cell (p := ⟨ug, uoff + x, none⟩) (lt_of_obj hgo)).trans (h.trans ?_)
    simp [hx]
  have HCLC := hid hclc
  have hug4 : ug < w4.heap.size := lt_of_obj hgo
  have hugl : ug < Wl.heap.size := Nat.lt_of_lt_of_le (lt_of_obj hgo) g4l.size
  clear hclc hcells hcap hcapm hmm
  have ob6 : Wl.heap[W5.heap.size]? = some (.cells #[.slice none 0 0] 34 (0, 0)) := ((grew_trans g7 gl).block _ hz6).trans (by rw [← hW6]; exact heap_alloc_new W5 _)
  have hmap0 : OMap Wl Try.prog 3 3 W6.heap.size 0 encI (numO (clsOf cl [])) := by
    have h := (OMap.made W6 Try.prog 3 3 encI)
    rw [hW7] at h
    exact (h.grew gl).congr (fun x => rfl)
  have zBF : W5.heap.size < Wl.heap.size := Nat.lt_of_lt_of_le hz6 (grew_trans g7 gl).size
  have zBM : W6.heap.size < Wl.heap.size := hmap0.lt
  have zBC : w4.heap.size < Wl.heap.size := Nat.lt_of_lt_of_le hz5 g5l.size
  have zB8 : W7.heap.size < Wl.heap.size := hzl
  have dC : Wl.cell? ⟨w4.heap.size, 0, none⟩ = some (.slice (some ⟨ug, uoff, none⟩) M.n uc) := (g5l.cell (p := ⟨w4.heap.size, 0, none⟩) hz5).trans d5
  have s5 := g5.size; have s6 := g6.size; have s7 := g7.size; have sl := gl.size
  have e5 : W5.heap.size = w4.heap.size + 1 := by rw [← hW5]; simp
  have e6 : W6.heap.size = W5.heap.size + 1 := by rw [← hW6]; simp
  have e7 : W7.heap.size = W6.heap.size + 1 := by rw [← hW7]; simp
  have g0l := grew_trans g02 (grew_trans hg gAll)
  have hwl : w.heap.size ≤ Wl.heap.size := g0l.size
  have HE := hid (And.intro e5 (And.intro e6 e7))
  have HOB6 := hid ob6; have HMAP0 := hid hmap0
  clear e5 e6 e7 ob6 hmap0 hW0 hW2 hW3 hW5 hW6 hW7 hWl
  obtain ⟨sv, hsv⟩ : ∃ sv : Value, Value.agg #[.int .i64 (M.n : Int), .int .i64 (M.k : Int), .slice (some ⟨b1, off1, none⟩) M.n c1, .slice (some ⟨b2, off2, none⟩) M.n c2] = sv := ⟨_, rfl⟩
  rw [hsv] at HM ⊢
  refine wpIn_act (fun a₀ ha₀ => ?_)
  refine wpIn_rangeFunc_sepH (P := Try.prog) rfl (by decide) (gf := 88) (fa := #[sv]) (lb := #[]) (by rw [← ha₀]; rfl) trivial (enters_of Try.func88 (by kernel_rfl) rfl) (ways_stops M hM sv w 5 (by decide) HM) g0l hwl (fun _ => rfl)
    (fun pre T W => ∃ v, RF M cl Wl W5.heap.size W6.heap.size pre T v W)
    (fun c pre W => False)
    ?hI (fun _ _ _ _ h _ => h)
    (fun pre T x a' W => (∃ v, RF M cl Wl W5.heap.size W6.heap.size pre T v W) ∧ HasWay M pre x W ∧ ∃ Bx ad c, x.2 = .slice ad x.1.2.2.length c ∧ Wl.heap.size + 2 ≤ Bx ∧ W.heap[Bx]? = some (.cells #[.int .i64 (x.1.1 : Int), .slice ad x.1.2.2.length c] 89 (0, 0)) ∧
      a' = { tmps := (a₀.tmps.setIfInBounds 32 (.agg #[.int .i64 (x.1.1 : Int), .slice ad x.1.2.2.length c])).setIfInBounds 9 (.pointer (some ⟨Bx, 0, none⟩)), defers := [] })
    ?hAx ⟨.slice none 0 0, ⟨Keeps.refl _ _, HOB6.out, Seg.nil _ _ _ _, HMAP0.out, fun k h => h.elim, fun k h => (by simp [Value.ownBlock] at h), fun y hy => (by simp at hy)⟩⟩ ?assign ?body ?done (fun _ _ _ _ _ h _ => h.elim)
  case hI =>
    rintro pre T W W' ⟨v, h⟩ hk T' hT'
    exact ⟨v, h.keeps zBF zBM hk hT'⟩
  case hAx =>
    rintro pre T x a' W W' ⟨⟨v, h⟩, hh, Bx, ad, c, hx, hB, hob, rfl⟩ hk
    refine ⟨⟨v, h.keeps zBF zBM (hk.mono (fun k o hm => .inr ⟨hm.1, hm.2.2⟩)) (fun k h => .inl h)⟩, ⟨hh.word.keeps hk (fun k o ⟨c, fr, ho⟩ ⟨_, _, hm⟩ => by rw [ho] at hm; cases hm), hh.way, hh.lt, hh.new⟩, Bx, ad, c, hx, hB, hk.obj _ _ hob (fun h => by omega), rfl⟩
  case assign =>
    rintro l pre T ⟨⟨xs, xz, xw⟩, xv⟩ W K ⟨v, hi⟩ hh hT hlt hK
    obtain ⟨va, vc, hv, _, _⟩ := hh.word
    simp only [] at hv
    subst hv
    subst ha₀
    obtain ⟨W9, hW9, g9, q0, q1, hz9⟩ := box2 W (.int .i64 (xs : Int)) (.slice va xw.length vc) 89
    dsimp only [encW]
    gi_wp2
    refine hK _ W9 g9.keeps ⟨⟨v, hi.keeps zBF zBM g9.keeps (fun k h => .inl h)⟩, ⟨hh.word.grew g9, hh.way, hh.lt, hh.new⟩, W.heap.size, va, vc, rfl, by omega, by rw [← hW9]; exact heap_alloc_new W _, rfl⟩
  case body =>
    rintro l pre T ⟨⟨xs, xz, xw⟩, xv⟩ a' W ⟨⟨v, hi⟩, hh, Bx, ad, c, hx, hB, hob, rfl⟩ hT hlt
    simp only [] at hx hob
    subst hx
    subst ha₀
    have q0 : W.cell? ⟨Bx, 0, none⟩ = some (.int .i64 (xs : Int)) := cell_of_row _ _ _ _ _ _ hob
    have hlow : ∀ k, k < Wl.heap.size → k ≠ W5.heap.size → k ≠ W6.heap.size → ∀ j, W.cell? ⟨k, j, none⟩ = Wl.cell? ⟨k, j, none⟩ := fun k h1 h2 h3 j =>
      keeps_cell hi.keep h1 (fun o hm => by rcases hm with hm | hm | hm <;> omega) j
    have hE := HE.out
    have c8 := (hlow W7.heap.size zB8 (by omega) (by omega) 0).trans dl
    have c6 := (hlow w4.heap.size zBC (by omega) (by omega) 0).trans dC
    have hlt0 : xs < M.n := hh.lt
    have cx := (hlow ug hugl (by omega) (by omega) (uoff + xs)).trans (HCLC.out xs hlt0)
    have hcl := hS.le xs
    have hkl : keyOf Try.prog 3 (encI (cl xs)) = some (.int .i64 ((cl xs : Nat) : Int)) := Maps.keyOf_int_mk Try.underlying3 (WalkArith.wf_i64 (by omega))
    have hlook := fun (q : Nat) => (hi.map.grew (grew_drewN (grew_refl W) q)).look_ok keyed3 Try.underlying86 Try.underlying3 (zero3 (W.drewN q)) hkl
    have z8 : W7.heap.size < W.heap.size := by omega
    have hmx : Try.prog.follows .mixedOrders = true := by kernel_rfl
    clear hE hlow
    have hwas : ∃ was : Bool, (numO (clsOf cl pre) (cl xs)).isSome = was ∧ (was = true ↔ cl xs ∈ clsOf cl pre) := ⟨_, rfl, by
      by_cases h : cl xs ∈ clsOf cl pre
      · rw [numO_some h]; simpa using h
      · rw [numO_none h]; simpa using h⟩
    obtain ⟨was, hw1, hw2⟩ := hwas
    obtain ⟨num, hnum⟩ : ∃ num : Nat, (numO (clsOf cl pre) (cl xs)).getD 0 = num := ⟨_, rfl⟩
    rw [hw1, hnum] at hlook
    simp only [encI] at hlook
    have HW2 := hid hw2; have HI := hid hi; have HH := hid hh; have HOB := hid hob; have HKL := hid hkl
    clear hw1 hw2 hnum hi hh hob hkl hcl
    gi_wp2
    refine wpIn_region_still hmx (by kernel_rfl) (by kernel_rfl) ?_
    repeat (gi_big_quiet_step (fail))
    refine wpQuietIn_nil ?_
    rintro wq ⟨nq, hwq⟩
    have hkq : Keeps (fun _ _ => False) W wq := by rw [hwq]; exact (Keeps.refl _ W).drewN nq
    have hiq : RF M cl Wl W5.heap.size W6.heap.size pre T v wq := HI.out.keeps zBF zBM (hkq.mono (fun k o h => h.elim)) (fun k h => .inl h)
    have hobq := hkq.obj _ _ HOB.out (fun h => h)
    have hlow : ∀ k, k < Wl.heap.size → k ≠ W5.heap.size → k ≠ W6.heap.size → ∀ j, wq.cell? ⟨k, j, none⟩ = Wl.cell? ⟨k, j, none⟩ := fun k h1 h2 h3 j =>
      keeps_cell hiq.keep h1 (fun o hm => by rcases hm with hm | hm | hm <;> omega) j
    have hE := HE.out
    have c8q := (hlow W7.heap.size zB8 (by omega) (by omega) 0).trans dl
    have c6q := (hlow w4.heap.size zBC (by omega) (by omega) 0).trans dC
    have cxq := (hlow ug hugl (by omega) (by omega) (uoff + xs)).trans (HCLC.out xs hlt0)
    have q0q : wq.cell? ⟨Bx, 0, none⟩ = some (.int .i64 (xs : Int)) := cell_of_row _ _ _ _ _ _ hobq
    have e7 : wq.cell? ⟨W5.heap.size, 0, none⟩ = some v := cell_of_row _ _ _ _ _ _ hiq.box
    have z8q : W7.heap.size < wq.heap.size := Nat.lt_of_lt_of_le z8 hkq.size
    have hTq : ∀ k, T k → Wl.heap.size + 2 ≤ k ∧ k < wq.heap.size := fun k h => ⟨(hT k h).1, Nat.lt_of_lt_of_le (hT k h).2 hkq.size⟩
    have HIQ := hid hiq; have HKQ := hid hkq; have HTQ := hid hTq
    clear hwq c8 c6 cx q0 hlook hE hlow hiq hkq hobq hT hTq z8
    cases was
    · have hnin : cl xs ∉ clsOf cl pre := fun h => by have := HW2.out.2 h; cases this
      have hcl := hS.le xs
      have hF1 := (firsts_sublist cl pre).length_le
      have hcnt : (pre ++ [((xs, xz, xw), Value.slice ad xw.length c)]).length ≤ M.n := by
        have := nodup_lt_length M.n _ HH.out.new (fun x hx => by
          obtain ⟨y, hy, rfl⟩ := List.mem_map.1 hx
          rcases List.mem_append.1 hy with hy | hy
          · exact HI.out.lt y hy
          · simp only [List.mem_singleton] at hy; subst hy; exact HH.out.lt)
        simpa [wStates] using this
      rw [List.length_append, List.length_singleton] at hcnt
      obtain ⟨av, cv, rfl, _⟩ := HIQ.out.seg.shape
      have hmap2 : OMap wq.drew Try.prog 3 3 W6.heap.size pre.length encI (numO (clsOf cl pre)) := HIQ.out.map.grew (grew_drew (grew_refl wq))
      have hcl2 : (clsOf cl pre).length = (firsts cl pre).length := by simp [clsOf]
      obtain ⟨W', hupd, hmap', hgrow'⟩ := hmap2.update keyed3 Try.underlying86 Try.underlying3 (by unfold maxLen; omega) HKL.out (fun y h => encI_inj _ _ h) (e := (firsts cl pre).length) (by omega) (S' := numO (clsOf cl pre ++ [cl xs])) (by rw [numO_new hnin, hcl2]) (fun y hy => numO_old hy)
      simp only [encI] at hupd
      have HMAP' := hid hmap'
      clear hmap' hmap2
      gi_wp2
      refine wpIn_region_last' rfl rfl hmx (by kernel_rfl) (by kernel_rfl) (by kernel_rfl) (by kernel_rfl) (by kernel_rfl) ?_
      dsimp only [List.dropLast, List.cons_append, List.nil_append, stilled]
      repeat (gi_big_quiet_step (fail))
      refine wpQuietIn_nil ?_
      go_simp
      obtain ⟨mes, mec, hmobj⟩ := HIQ.out.map.obj
      have hk1 : Keeps (fun k o => k = W6.heap.size ∧ ∃ es c, o = .map es c) wq W' := ((Keeps.refl _ wq).drew).grown hgrow' (fun k o e ho => by cases e; have ho2 : wq.heap[W6.heap.size]? = some o := ho; rw [hmobj] at ho2; cases ho2; exact ⟨rfl, _, _, rfl⟩)
      have ob1 := hk1.obj _ _ HIQ.out.box (fun ⟨_, _, _, h⟩ => by cases h)
      have obx := hk1.obj _ _ (HKQ.out.obj _ _ HOB.out (fun h => h)) (fun ⟨_, _, _, h⟩ => by cases h)
      have hseg1 := HIQ.out.seg.keeps hk1 (fun k o hv ⟨cur, ho⟩ ⟨_, _, _, h⟩ => by rw [ho] at h; cases h)
      have cB1 : W'.cell? ⟨W5.heap.size, 0, none⟩ = some (.slice av (firsts cl pre).length cv) := cell_of_row _ _ _ _ _ _ ob1
      have cX1 : W'.cell? ⟨Bx, 0, none⟩ = some (.int .i64 (xs : Int)) := cell_of_row _ _ _ _ _ _ obx
      have hBx : Bx < W'.heap.size := lt_of_obj obx
      have hBF1 : W5.heap.size < W'.heap.size := lt_of_obj ob1
      have hz1 := hk1.size
      have hzq := HIQ.out.keep.size
      have hlen : (firsts cl pre).length < 1000000000 := by omega
      have HSEG1 := hid hseg1; have OB1 := hid ob1; have HK1 := hid hk1
      clear hseg1 ob1 obx hk1 hmobj hgrow' hupd e7 c8q c6q cxq q0q
      gi_wp2_with (gi_at_builtin; refine wpListIn_append_one rfl _ _ 34 rfl Wl.heap.size 3 Try.underlying34 Try.info3 rfl (by decide) _ (firsts cl pre).length _ rfl (HSEG1.out.alloc _) _ _ _ rfl (one_new _ _ _) rfl hlen ?_ ?_
                   (simp only [World.size_alloc]; omega)
                   intro v4 wz hown4 hgrow4 hblk4
                   have hk4 : Keeps (fun k o => (Value.slice av (firsts cl pre).length cv).ownBlock = some k ∧ ∃ cur, o = .cells cur 3 (0, 0)) W' wz := ((Keeps.refl _ W').alloc _).grown hgrow4 (fun k o e ho => by obtain ⟨_, _, cur, hcur⟩ := HSEG1.out.own k e; have h2 : (W'.alloc (.cells #[.int .i64 (xs : Int)] 3)).heap[k]? = some (.cells cur 3 (0, 0)) := (Below.heap_alloc _ _ k (lt_of_obj hcur)).trans hcur; rw [h2] at ho; cases ho; exact ⟨e, _, rfl⟩)
                   have ob4 := hk4.obj _ _ OB1.out (fun ⟨_, cur, h⟩ => by cases h)
                   have c4 : wz.cell? ⟨W5.heap.size, 0, none⟩ = some (.slice av (firsts cl pre).length cv) := cell_of_row _ _ _ _ _ _ ob4
                   have f4 := frozen_obj ob4 0
                   have OB4 := hid ob4; have HK4 := hid hk4; have HOWN4 := hid hown4; have HBLK4 := hid hblk4
                   obtain ⟨a4, c4', rfl, _⟩ := hown4.shape
                   clear ob4 hk4 hown4 hblk4 hgrow4)
      have hne : ∀ k, (Value.slice a4 ((firsts cl pre).length + 1) c4').ownBlock = some k → k ≠ W5.heap.size := fun k hv e => by
        obtain ⟨_, _, cur, hcur⟩ := HOWN4.out.own k hv
        rw [e, OB4.out] at hcur; cases hcur
      have hks := keeps_setCell (may := fun k o => k = W5.heap.size ∧ ∃ c, o = .cells c 34 (0, 0)) wz W5.heap.size (.slice a4 ((firsts cl pre).length + 1) c4') (fun o ho => by rw [OB4.out] at ho; cases ho; exact ⟨rfl, _, rfl⟩)
      have hz4 := HK4.out.size
      have hz5 := hks.size
      have hnT : ∀ k, T k → Wl.heap.size ≤ k := HIQ.out.far
      have hkb : Keeps (fun k o => ¬ T k ∧ w.heap.size ≤ k ∧ (k < Wl.heap.size ∨ o.isCells = true)) W (wz.setCell ⟨W5.heap.size, 0, none⟩ (.slice a4 ((firsts cl pre).length + 1) c4')) := by
        have hE := HE.out
        have hw0 : w.heap.size ≤ W5.heap.size := by have := g0.size; have := g2.size; have := hg.size; have := hg4.size; omega
        refine (((HKQ.out.mono (fun k o h => h.elim)).trans (HK1.out.mono (fun k o h => ?_))).trans (HK4.out.mono (fun k o h => ?_))).trans (hks.mono (fun k o h => ?_))
        · obtain ⟨rfl, _⟩ := h
          exact ⟨fun hTk => by have := hnT _ hTk; omega, by omega, .inl zBM⟩
        · exact ⟨HIQ.out.own k h.1, by have := (HIQ.out.seg.own k h.1).1; omega, .inr (by obtain ⟨_, cur, ho⟩ := h; rw [ho]; rfl)⟩
        · obtain ⟨rfl, _⟩ := h
          exact ⟨fun hTk => by have := hnT _ hTk; omega, hw0, .inl zBF⟩
      refine ⟨hkb, .slice a4 ((firsts cl pre).length + 1) c4', ?_⟩
      have hfx : firsts cl (pre ++ [((xs, xz, xw), Value.slice ad xw.length c)]) = firsts cl pre ++ [((xs, xz, xw), Value.slice ad xw.length c)] := clsOf_new (x := ((xs, xz, xw), Value.slice ad xw.length c)) hnin
      have hcx : clsOf cl (pre ++ [((xs, xz, xw), Value.slice ad xw.length c)]) = clsOf cl pre ++ [cl xs] := by unfold clsOf; rw [hfx]; simp
      refine ⟨?_, ?_, ?_, ?_, HIQ.out.far, fun k hv hTk => ?_, fun y hy => ?_⟩
      · refine ((HIQ.out.keep.trans (HK1.out.mono (fun k o h => .inr (.inl h.1)))).trans (HK4.out.mono (fun k o h => .inr (.inr (HIQ.out.seg.own k h.1).1)))).trans (hks.mono (fun k o h => .inl h.1))
      · have h1 := OB4.out
        simp [World.setCell, Array.getElem?_modify, h1]
      · have h := HOWN4.out.keeps hks (fun k o hv _ e => hne k hv e.1)
        rw [hfx]
        simpa [firstCells] using h
      · rw [hcx]
        have h1 := HMAP'.out.keeps HK4.out (fun es c ⟨_, cur, h⟩ => by cases h)
        have h2 := h1.keeps hks (fun es c ⟨_, cur, h⟩ => by cases h)
        rw [List.length_append, List.length_singleton]
        exact h2
      · rcases HBLK4.out with e | e
        · exact HIQ.out.own k (e.symm.trans hv) hTk
        · have e2 := e.symm.trans hv
          have := (HTQ.out _ hTk).2
          simp at e2
          omega
      · rcases List.mem_append.1 hy with hy | hy
        · exact HIQ.out.lt y hy
        · simp only [List.mem_singleton] at hy; subst hy; exact HH.out.lt
    · have hin : cl xs ∈ clsOf cl pre := HW2.out.1 rfl
      gi_wp2
      have hfx : firsts cl (pre ++ [((xs, xz, xw), Value.slice ad xw.length c)]) = firsts cl pre := clsOf_old (x := ((xs, xz, xw), Value.slice ad xw.length c)) hin
      have hcx : clsOf cl (pre ++ [((xs, xz, xw), Value.slice ad xw.length c)]) = clsOf cl pre := by unfold clsOf; rw [hfx]
      refine ⟨HKQ.out.mono (fun k o h => h.elim), v, HIQ.out.keep, HIQ.out.box, by rw [hfx]; exact HIQ.out.seg, by rw [hcx]; exact HIQ.out.map.mono (by simp), HIQ.out.far, HIQ.out.own, fun y hy => ?_⟩
      rcases List.mem_append.1 hy with hy | hy
      · exact HIQ.out.lt y hy
      · simp only [List.mem_singleton] at hy; subst hy; exact HH.out.lt
  case done =>
    rintro D xs T W hD hA ⟨v, hi⟩ hK
    subst ha₀
    rename ∀ (a : Act) (w : World), Code.wpIn _ _ _ _ _ a w → _ => hKK
    dsimp only [Exit.inBlock, Exit.then]
    refine hKK _ _ (wpIn_wide.2 (wp_calm ?_))
    clear hKK
    have n1 := hM.n1; have k1 := hM.k1; have k4 := hM.k4
    have hL := least_firsts hS hA
    have hlen : (firsts cl xs).length = (firstWords cl xs).length := by simp [firstWords]
    have hrep := fun (i : Nat) (hi : i < (firstWords cl xs).length) => firsts_rep (M := M) (cl := cl) hA hi
    have hnum := fun (i o : Nat) (hi : i < (firstWords cl xs).length) (ho : o < M.k) => least_num hS hA hi ho
    obtain ⟨L, hLe⟩ : ∃ L, firstWords cl xs = L := ⟨_, rfl⟩
    rw [hLe] at hL hlen hrep hnum
    obtain ⟨⟨l1, l8⟩, hrl⟩ := HCNT.out L hL
    have gwW : Grew w W := g0l.trans (hi.keep.below hwl (fun k o hm => by
      have := HE.out; have := g0.size; have := g2.size; have := hg.size; have := hg4.size
      rcases hm with hm | hm | hm <;> omega))
    have hlow : ∀ k, k < Wl.heap.size → k ≠ W5.heap.size → k ≠ W6.heap.size → ∀ j, W.cell? ⟨k, j, none⟩ = Wl.cell? ⟨k, j, none⟩ := fun k h1 h2 h3 j =>
      keeps_cell hi.keep h1 (fun o hm => by rcases hm with hm | hm | hm <;> omega) j
    have hE := HE.out
    have y1 : w1.heap.size < w4.heap.size := Nat.lt_of_lt_of_le hz3 hg4.size
    have m1 := (hlow w1.heap.size (by omega) (by omega) (by omega) 1).trans kk1
    have m2 := (hlow w1.heap.size (by omega) (by omega) (by omega) 2).trans kk2
    have m3 := (hlow w1.heap.size (by omega) (by omega) (by omega) 3).trans kk3
    have c8 := (hlow W7.heap.size zB8 (by omega) (by omega) 0).trans dl
    have c6 := (hlow w4.heap.size zBC (by omega) (by omega) 0).trans dC
    have ccl : ∀ x, x < M.n → W.cell? ⟨ug, uoff + x, none⟩ = some (.int .i64 (cl x : Int)) := fun x hx => (hlow ug hugl (by omega) (by omega) (uoff + x)).trans (HCLC.out x hx)
    have hresWl : Wl.heap[W0.heap.size]? = some (.cells #[.int .i64 0, .int .i64 0, .slice none 0 0, .slice none 0 0] 24 (0, 0)) := ((grew_trans hg gAll).block _ hz2).trans HOBJ.out
    have y0 : W0.heap.size < W3.heap.size := Nat.lt_of_lt_of_le hz2 hg.size
    have hres : W.heap[W0.heap.size]? = some (.cells #[.int .i64 0, .int .i64 0, .slice none 0 0, .slice none 0 0] 24 (0, 0)) := hi.keep.obj _ _ hresWl (fun hm => by have := hg4.size; rcases hm with hm | hm | hm <;> omega)
    have e7 : W.cell? ⟨W5.heap.size, 0, none⟩ = some v := cell_of_row _ _ _ _ _ _ hi.box
    have hseg := hi.seg
    have hmapW := hi.map
    have hzW := hi.keep.size
    rw [hlen] at hseg
    obtain ⟨fg, foff, fcap, fcur, rfl, hfb, hfo, hfcap, hfcapm, hfc⟩ := hseg.at (by omega)
    have hfg : fg < W.heap.size := lt_of_obj hfo
    have hfcell : ∀ i, i < L.length → W.cell? ⟨fg, foff + i, none⟩ = some (.int .i64 ((repW M L i : Nat) : Int)) := fun i hi2 => (hfc i (by omega)).trans (hrep i hi2)
    have HFC := hid hfcell; have HNUM := hid hnum; have HL := hid hL; have HRL := hid hrl; have HRES := hid hres; have HMW := hid hmapW; have HCC := hid ccl; have C8 := hid c8; have C6 := hid c6; have M2 := hid m2; have M3 := hid m3
    have T1W := hid (T1.out.grew gwW); have T2W := hid (T2.out.grew gwW)
    have hbl0 := Built.start (W := W) (st := (L.length : Int)) (ops := (M.k : Int))
    clear hnum hrep hL hrl hlow hE hres hresWl hseg hfc hfcell hmapW ccl hfcap hfcapm hi hA hLe hlen kk0 kk1 kk2 kk3 r0 r1 r2 r3 k0 k1 k2 k3 d5 d6 dl dC
    have zBFW : W5.heap.size < W.heap.size := by omega
    go_wp2
    obtain ⟨W10, hW10⟩ : ∃ W10, W.alloc (.cells #[.int .i64 (L.length : Int), .int .i64 (M.k : Int), .slice none 0 0, .slice none 0 0] 24) = W10 := ⟨_, rfl⟩
    rw [hW10] at hbl0 ⊢
    have HB0 := hid hbl0
    clear hW10 hbl0
    have hk64 : (M.k : Int) ≤ 4 := by omega
    go_loopg [65] L.length (fun g i wr => ∃ (k : Nat) (nv sw : Value), k ≤ L.length ∧ i = .int .i64 k ∧ Hid (g = L.length - k) ∧ Hid (Built W wr L.length M.k nv sw ((List.range k).map (leastN M cl L)) ((List.range k).map (leastY M L))))
    case atStart => exact ⟨0, _, _, Nat.zero_le _, rfl, hid rfl, HB0⟩
    case round =>
      clear e7 c6 c8 m1 m2 m3
      obtain ⟨k, tv, uv, hk, rfl, HG, HB⟩ := hrel
      by_cases hlt : k < L.length
      · have hB := HB.out
        obtain ⟨ta, tc, htv⟩ := hB.next.shape
        obtain ⟨ua, uc', huv⟩ := hB.says.shape
        rw [List.length_map, List.length_range] at htv huv
        subst htv; subst huv
        have gB := hB.grew
        have hxn := HRL.out k hlt
        have hcf := (gB.cell (p := ⟨fg, foff + k, none⟩) hfg).trans (HFC.out k hlt)
        obtain ⟨x, hx⟩ : ∃ x, repW M L k = x := ⟨_, rfl⟩
        rw [hx] at hcf hxn
        have HX := hid hx
        have T1B := T1W.out.grew gB
        obtain ⟨br, offr, cr, hr, hrb, hrc⟩ := T1B.2 x hxn
        have HRC := hid hrc
        have d2 := (gB.cell (p := ⟨w1.heap.size, 2, none⟩) (by show w1.heap.size < W.heap.size; omega)).trans M2.out
        have hzb1 := T1B.1
        have z1 : w1.heap.size < wr.heap.size := by have := gB.size; omega
        have hfg' : fg < wr.heap.size := Nat.lt_of_lt_of_le hfg gB.size
        obtain ⟨wo, rfl⟩ : ∃ wo : World, wo = wr := ⟨_, rfl⟩
        clear hB hx T1B hrc
        go_wp2
        clear hcf hr d2 hzb1 z1 hfg'
        go_loopg [15, 75] M.k (fun g u i wi => ∃ j : Nat, j ≤ M.k ∧ i = .int .i64 j ∧ Hid (g = M.k - j) ∧ Grew wo wi ∧ Hid (Seg wi wo.heap.size 3 1 u j (((leastN M cl L k).take j).map (.int .i64))))
        case atStart => exact ⟨0, Nat.zero_le _, rfl, hid rfl, grew_refl _, hid (by simpa using Seg.nil _ _ _ _)⟩
        case round =>
          obtain ⟨j, hj, rfl, HGI, hgi, HSEG⟩ := hrel
          obtain ⟨sa, sc, rfl, _⟩ := HSEG.out.shape
          have gI := grew_trans gB hgi
          by_cases hjm : j < M.k
          · have hto := hM.nx x hxn j hjm
            have hcj := (hgi.cell (p := ⟨br, offr + j, none⟩) hrb).trans (HRC.out j hjm)
            have hnm := HNUM.out k j hlt hjm
            rw [HX.out] at hnm
            obtain ⟨to, hto2⟩ : ∃ to, M.nx x j = to := ⟨_, rfl⟩
            have hrow : (leastN M cl L k).take (j + 1) = (leastN M cl L k).take j ++ [((posW M cl L to : Nat) : Int)] := by
              rw [take_succ_nth (by simpa [leastN] using hjm)]
              congr 2
              unfold leastN
              rw [nth_range_map hjm, HX.out, hto2]
            rw [hto2] at hto hcj hnm
            have cc := (gI.cell (p := ⟨ug, uoff + to, none⟩) (by show ug < W.heap.size; omega)).trans (HCC.out to hto)
            have c8 := (gI.cell (p := ⟨W7.heap.size, 0, none⟩) (by show W7.heap.size < W.heap.size; omega)).trans C8.out
            have c6 := (gI.cell (p := ⟨w4.heap.size, 0, none⟩) (by show w4.heap.size < W.heap.size; omega)).trans C6.out
            have hcl := hS.le to
            have hkl : keyOf Try.prog 3 (encI (cl to)) = some (.int .i64 ((cl to : Nat) : Int)) := Maps.keyOf_int_mk Try.underlying3 (WalkArith.wf_i64 (by omega))
            have hlk := (HMW.out.grew (grew_drew gI)).look keyed3 Try.underlying86 Try.underlying3 (zero3 _) hkl
            rw [hnm] at hlk
            simp only [Option.getD_some, encI] at hlk
            obtain ⟨ps, hps⟩ : ∃ ps, posW M cl L to = ps := ⟨_, rfl⟩
            rw [hps] at hlk hrow
            have HROW := hid hrow
            obtain ⟨wj, rfl⟩ : ∃ wj : World, wj = wr := ⟨_, rfl⟩
            have hsz := hgi.size
            have hbr : br < wj.heap.size := Nat.lt_of_lt_of_le hrb hgi.size
            clear hto2 hnm hkl hps hrow
            go_wp2
            go_region_law (first
              | (refine step_append_one (by rfl) _ _ 34 (by rfl) wo.heap.size 3 Try.underlying34 Try.info3 rfl (by decide) _ j _ (by rfl) ((HSEG.out.grew (grew_drew (grew_refl wj))).alloc _) _ _ _ (by rfl) (one_new _ _ _) rfl (by omega) (by simp; omega) ?_; intro v8 w8 hown8 hgrow8 hblk8; obtain ⟨a8, c8', rfl, _⟩ := hown8.shape))
            all_goals
              have hg8 : Grew wo w8 := (grew_alloc (grew_drew hgi) _).grown hgrow8 (by simp; omega) (fun k e => (HSEG.out.own k e).1)
              have HOWN8 := hid hown8
              clear hown8 hgrow8 hblk8
              go_wp2
              go_roundg (M.k - (j + 1))
              case measure => have := HGI.out; omega
              case rel =>
                refine ⟨j + 1, by omega, by go_num, hid rfl, hg8, hid ?_⟩
                rw [HROW.out, List.map_append]; exact HOWN8.out
          · obtain rfl : M.k = j := by omega
            have hN : ((List.range k).map (leastN M cl L)).length = k := by rw [List.length_map, List.length_range]
            have hY : ((List.range k).map (leastY M L)).length = k := by rw [List.length_map, List.length_range]
            have HN := hid hN; have HY := hid hY; clear hN hY
            have hBi := HB.out.grown hgi
            obtain ⟨p0, p1, p2, p3, pf, hzb⟩ := hBi.cells
            obtain ⟨Vs, hVs, hV⟩ := hBi.next
            rw [List.length_map, List.length_range] at hVs hV
            have HV1 := hid hV; clear hV
            have HBI := hid hBi; clear hBi
            have hk9 : k < 1000000000 := by omega
            obtain ⟨wi, rfl⟩ : ∃ wi : World, wi = wr := ⟨_, rfl⟩
            go_wp2_with (at_builtin; refine wpList_append_one rfl _ _ 22 rfl (W.heap.size + 1) 34 Try.underlying22 Try.info34 rfl (by decide) _ k _ rfl (hVs.alloc _) _ _ _ rfl (one_new _ _ _) rfl hk9 ?_ ?_; (simp only [World.size_alloc]; omega); intro v1 w5 hown1 hgrow1 hblk1; obtain ⟨a1, c1', rfl, _⟩ := hown1.shape; obtain ⟨-, hobj1, -⟩ := HBI.out.after (T := (List.range k).map (leastN M cl L)) (v' := .slice a1 (k + 1) c1') 2 (grew_alloc (grew_refl wi) _) (by rw [HN.out]; exact hVs) hgrow1; obtain ⟨y0, y1, y2, y3, yf, hzy⟩ := cells4 hobj1; obtain ⟨w6, hw6⟩ : ∃ w6, w5.setCell ⟨W.heap.size, 2, none⟩ (.slice a1 (k + 1) c1') = w6 := ⟨_, rfl⟩)
            have hrowk : IsInts (IntObj 3) (wi.alloc (.cells #[Value.slice sa M.k sc] 34)) (.slice sa M.k sc) (leastN M cl L k) := by
              have h := (Reads.mono HSEG.out.isInts (S' := IntObj 3) (fun k o ⟨_, cur, ho⟩ => ⟨cur, _, ho⟩)).grew (grew_alloc (grew_refl wi) (.cells #[Value.slice sa M.k sc] 34))
              rwa [List.take_of_length_le (by simp [leastN])] at h
            have hB6 := HBI.out.next_snoc (v' := .slice a1 (k + 1) c1') (Vs := Vs) (row := leastN M cl L k) (grew_alloc (grew_refl wi) _) (by rw [HN.out]; exact hVs) (by rw [HN.out]; exact HV1.out) (by rw [HN.out]; exact hown1) hgrow1
              (hblk1.imp id (fun h => ⟨_, h, by simp⟩)) hrowk
            rw [hw6, ← range_snoc] at hB6
            obtain ⟨f0, f1, f2, f3, ff, hz6⟩ := hB6.cells
            have g36 := hB6.grew
            obtain ⟨Vs2, hVs2, hV2⟩ := hB6.says
            rw [HY.out] at hVs2 hV2
            have HV2 := hid hV2; have HB6 := hid hB6
            clear hw6 hV2 hB6 hrowk y0 y1 y2 y3 yf hzy hobj1 hgrow1 hblk1 hown1 hVs HV1 p0 p1 p2 p3 pf hzb HSEG hgi HBI gI w5
            obtain ⟨bs, offs, cs, hs2, hsb, hsc⟩ := T2W.out.2 x hxn
            have hread : Reads Any W (.slice (some ⟨bs, offs, none⟩) M.k cs) M.k (fun i => .int .i64 (M.sy x i)) := ⟨_, _, rfl, by omega, fun i hi => ⟨bs, offs, _, rfl, Array.getElem?_eq_getElem hsb, trivial, hsc i hi⟩⟩
            have HREAD := hid hread; clear hread hsc
            have hgd : Grew W w6.drew := grew_drew g36
            have x0 : (0 : Int) ≤ (x : Int) := by omega
            have x1 : (x : Int) < (M.n : Int) := by omega
            have fl3 := (hgd.cell (p := ⟨w1.heap.size, 3, none⟩) (by show w1.heap.size < W.heap.size; omega)).trans M3.out
            have fl4 := (hgd.cell (p := ⟨b2, off2 + x, none⟩) T2W.out.1).trans hs2
            go_region_law (first
              | (refine step_append_one (by rfl) _ _ 22 (by rfl) (W.heap.size + 1) 34 Try.underlying22 Try.info34 rfl (by decide) _ k _ (by rfl) ((hVs2.grew hg67).alloc _) w7.heap.size _ _ (by rfl) (one_new _ _ _) rfl (by omega) (by simp; omega) ?_; intro v8 w8 hown8 hgrow8 hblk8; obtain ⟨a8, c8, rfl, _⟩ := hown8.shape; obtain ⟨-, hobj8, hG8⟩ := HB7.out.after (T := (List.range k).map (leastY M L)) (v' := .slice a8 (k + 1) c8) 3 (grew_alloc (grew_refl w7) _) (by rw [HY.out]; exact hVs2.grew hg67) hgrow8; obtain ⟨y0, y1, y2, y3, yf, hzy⟩ := cells4 hobj8)
              | (go_simp; go_at_call 60; refine (clone_any _ M.k _ _ (by omega) (HREAD.out.grew hgd) (fun i => rfl)).mono ?_; rintro e w7 ⟨cv, rfl, hseg7, hg7⟩; obtain ⟨a7, c7, rfl, _⟩ := hseg7.shape; have hg67 : Grew w6 w7 := grew_trans (grew_drew (grew_refl w6)) hg7; have hG7 := grew_trans g36 hg67; have hB7 := HB6.out.grown hg67; obtain ⟨e0, e1, e2, e3, ef, ez7⟩ := hB7.cells; have HB7 := hid hB7; clear hB7))
            all_goals
              have hrow8 : IsInts (IntObj 3) (w7.alloc (.cells #[.slice a7 M.k c7] 34)) (.slice a7 M.k c7) (leastY M L k) := by
                have he : (List.range M.k).map (fun i => Value.int .i64 (M.sy x i)) = (leastY M L k).map (.int .i64) := by
                  unfold leastY
                  rw [HX.out, List.map_map]
                  rfl
                rw [he] at hseg7
                exact (Reads.mono hseg7.isInts (S' := IntObj 3) (fun k o ⟨_, cur, ho⟩ => ⟨cur, _, ho⟩)).grew (grew_alloc (grew_refl w7) _)
              have hB9 := HB7.out.says_snoc (v' := .slice a8 (k + 1) c8) (Vs := Vs2) (row := leastY M L k) (grew_alloc (grew_refl w7) _) (by rw [HY.out]; exact hVs2.grew hg67) (by rw [HY.out]; exact fun i hi => let ⟨u, h1, h2⟩ := HV2.out i hi; ⟨u, h1, h2.grew hg67⟩)
                (by rw [HY.out]; exact hown8) hgrow8 (hblk8.imp id (fun h => ⟨_, h, by simp⟩)) hrow8
              rw [← range_snoc] at hB9
              have HB9 := hid hB9
              clear hB9 hrow8 hgrow8 hblk8 hown8 hseg7
              go_wp2
              go_roundg (L.length - (k + 1))
              case measure => have := HG.out; omega
              case rel => exact ⟨k + 1, _, _, by omega, by go_num, hid rfl, HB9⟩
      · obtain rfl : L.length = k := by omega
        have hB := HB.out
        obtain ⟨ta, tc, htv⟩ := hB.next.shape
        obtain ⟨ua, uc', huv⟩ := hB.says.shape
        subst htv; subst huv
        obtain ⟨p0, p1, p2, p3, pf, hzb⟩ := hB.cells
        have gB := hB.grew
        have hobj := (gB.block _ (lt_of_obj HRES.out)).trans HRES.out
        have hKr := (gB.block _ (lt_of_obj hK)).trans hK
        obtain ⟨y0, y1, y2, y3, yf, hzy⟩ := cells4 hobj
        have HOB := hid hobj
        clear hobj hB
        go_wp2
        have hset := fun w' => set4 (w' := w') (c := #[.int .i64 0, .int .i64 0, .slice none 0 0, .slice none 0 0]) rfl (.int .i64 (L.length : Int)) (.int .i64 (M.k : Int)) (.slice ta ((List.range L.length).map (leastN M cl L)).length tc) (.slice ua ((List.range L.length).map (leastY M L)).length uc') HOB.out
        have hkp := fun w' => keeps_set4 (w' := w') (.int .i64 (L.length : Int)) (.int .i64 (M.k : Int)) (.slice ta ((List.range L.length).map (leastN M cl L)).length tc) (.slice ua ((List.range L.length).map (leastY M L)).length uc') HOB.out
        have hnx := HB.out.next
        have hsy := HB.out.says
        simp only [List.length_map, List.length_range] at hset hkp hnx hsy ⊢
        generalize hw8 : (((wr.setCell ⟨W0.heap.size, 0, none⟩ (.int .i64 (L.length : Int))).setCell ⟨W0.heap.size, 1, none⟩ (.int .i64 (M.k : Int))).setCell ⟨W0.heap.size, 2, none⟩ (.slice ta L.length tc)).setCell ⟨W0.heap.size, 3, none⟩ (.slice ua L.length uc') = w8
        obtain ⟨hobj8, hsz8⟩ := hset w8 hw8
        have hkp8 := hkp w8 hw8
        clear hset hkp hw8
        have hK8 := hkp8.obj _ _ hKr (fun ⟨_, c, h⟩ => by cases h)
        have hkp9 := keeps_putObj (may := fun k o => Wl.heap.size ≤ k ∧ o.isCells = false) _ (.deferred none) hK8 ⟨hD, rfl⟩
        obtain ⟨d0, d1, d2, d3, -, hd⟩ := cells4 (hkp9.obj _ _ hobj8 (fun h => by cases h.2))
        change LeavesInM Fence.wide 6 Try.prog Try.f42 _ _ _ .returning _
        refine ⟨by simp, .inl ⟨_, _, rfl, run_takeDeferred hK8, ?_⟩⟩
        refine ⟨_, results_least rfl rfl rfl d0 d1 d2 d3, L, _, rfl, HL.out, ?_, ?_⟩
        · rw [HLS.out, HST.out]
          exact ⟨_, _, rfl, ((hnx.keeps hkp8 (fun k cur _ ⟨_, c, ho⟩ => by cases ho) (fun k c fr ⟨_, c', ho⟩ => by cases ho)).keeps hkp9 (fun k cur _ h => by cases h.2) (fun k c fr h => by cases h.2)).isRows,
            ((hsy.keeps hkp8 (fun k cur _ ⟨_, c, ho⟩ => by cases ho) (fun k c fr ⟨_, c', ho⟩ => by cases ho)).keeps hkp9 (fun k cur _ h => by cases h.2) (fun k c fr h => by cases h.2)).isRows⟩
        · have hgr := grew_trans gwW gB
          have hw0 := g0.size
          exact (hgr.trans (hkp8.below hgr.size (fun k o h => by rw [h.1]; omega))).trans (hkp9.below (by have := hgr.size; omega) (fun k o h => by omega))
end Go.Proofs.Ytnebpcpihldllaa
