/- A region that draws its order, inside a fence or in a round of a loop over a function: loads are taken first, as far as what they read is kept up to some operation behind which none of them can come. Of no program. -/
import Derived.Test.YtmohnddglmolgaaGreatDoorBase
import Derived.OwnWalkIn
import Derived.Sort.QuietThIn
import Derived.Sort.BigQuietIn
namespace Go.Lin
open Go Go.RowKit

section
variable {F : Fence} {n : Nat} {P : Program} {ops : Array Oper} {Q : Exit → Act → World → Prop} {S : World → Prop} {g : Nat}

def plainOps (ops : Array Oper) : Bool := ops.all fun o => match o.op with | .defer _ => false | _ => true

theorem plain_spec (h : plainOps ops = true) {i : Nat} {o : Oper} (hi : ops[i]? = some o) : ∀ c, o.op ≠ .defer c := by
  intro c hc
  unfold plainOps at h
  rw [Array.all_eq_true] at h
  obtain ⟨hlt, rfl⟩ := Array.getElem?_eq_some_iff.1 hi
  have := h i hlt
  rw [hc] at this
  cases this

/-- Whatever is listed, all that it waits for is listed, too. -/
def Closed (ops : Array Oper) (listed : Array Bool) : Prop := ∀ (j : Nat) (o : Oper), ops[j]? = some o → listed.getD j true = true → ∀ e ∈ o.after, Region.binds .any e = true → listed.getD e.on false = true
def closedB (ops : Array Oper) (listed : Array Bool) : Bool := (List.range ops.size).all fun j => !listed.getD j true || ((ops[j]?).map fun o => o.after.all fun e => !Region.binds .any e || listed.getD e.on false).getD true

theorem closed_spec {listed : Array Bool} (h : closedB ops listed = true) : Closed ops listed := by
  intro j o ho hj e he hb
  unfold closedB at h
  rw [List.all_eq_true] at h
  have := h j (List.mem_range.2 (Array.getElem?_eq_some_iff.1 ho).1)
  rw [hj, ho] at this
  simp only [Bool.not_true, Bool.false_or, Option.map_some, Option.getD_some, Array.all_eq_true_iff_forall_mem] at this
  have := this e he
  simpa [hb] using this

theorem getD_any {listed : Array Bool} {i : Nat} (h : listed.getD i false = true) : listed.getD i true = true := by
  by_cases hi : i < listed.size
  · simpa [Array.getD, hi] using h
  · simp [Array.getD, hi]

theorem Closed.set {listed : Array Bool} (h : Closed ops listed) {i : Nat} (hi : i ∈ Region.ready .any ops listed) : Closed ops (listed.setIfInBounds i true) := by
  intro j o ho hj e he hb
  refine getD_set_true ?_
  by_cases e1 : i = j
  · subst e1
    obtain ⟨_, o', ho', hall⟩ := mem_ready.1 hi
    rw [ho] at ho'; cases ho'
    exact hall e he hb
  · rw [getD_set_ne true e1] at hj
    exact h j o ho hj e he hb

def waitsB (ops : Array Oper) (j k : Nat) : Bool := ((ops[j]?).map fun o => o.after.any fun e => Region.binds .any e && decide (e.on = k)).getD false
/-- g waits for the first of p, that for the next one .., the last one for i. -/
def pathB (ops : Array Oper) : Nat → List Nat → Nat → Bool
  | g, [], i => waitsB ops g i
  | g, k :: p, i => waitsB ops g k && pathB ops k p i

theorem waits_spec {j k : Nat} (h : waitsB ops j k = true) : ∃ o, ops[j]? = some o ∧ ∃ e ∈ o.after, Region.binds .any e = true ∧ e.on = k := by
  unfold waitsB at h
  cases ho : ops[j]? with
  | none => rw [ho] at h; cases h
  | some o =>
    rw [ho] at h
    simp only [Option.map_some, Option.getD_some, Array.any_eq_true'] at h
    obtain ⟨e, he, h3⟩ := h
    simp only [Bool.and_eq_true, decide_eq_true_eq] at h3
    exact ⟨o, rfl, e, he, h3⟩

theorem path_listed {listed : Array Bool} (hc : Closed ops listed) : ∀ (p : List Nat) (g i : Nat), pathB ops g p i = true → (∀ o, ops[g]? = some o → ∀ e ∈ o.after, Region.binds .any e = true → listed.getD e.on false = true) → listed.getD i false = true
  | [], g, i, h, hg => by
    obtain ⟨o, ho, e, he, hb, rfl⟩ := waits_spec h
    exact hg o ho e he hb
  | k :: p, g, i, h, hg => by
    unfold pathB at h
    rw [Bool.and_eq_true] at h
    obtain ⟨o, ho, e, he, hb, rfl⟩ := waits_spec h.1
    have h1 := getD_any (hg o ho e he hb)
    exact path_listed hc p e.on i h.2 (fun o' ho' => hc _ _ ho' h1)

/-- The operation behind which a load cannot come has not come up as long as the load has not. -/
theorem gate_free {listed : Array Bool} (hc : Closed ops listed) {p : List Nat} {g i : Nat} (hp : pathB ops g p i = true) (hi : listed.getD i true = false) : g ∉ Region.ready .any ops listed ∧ listed.getD g true = false := by
  have no : listed.getD i false = true → False := fun h => by rw [getD_any h] at hi; cases hi
  refine ⟨fun h => ?_, ?_⟩
  · obtain ⟨_, o, ho, hall⟩ := mem_ready.1 h
    exact no (path_listed hc p g i hp (fun o' ho' e he hb => by rw [ho] at ho'; cases ho'; exact hall e he hb))
  · cases hg : listed.getD g true with
    | false => rfl
    | true => exact (no (path_listed hc p g i hp (fun o' ho' => hc g o' ho' hg))).elim

/-- In every world that meets S the operation leaves v, does nothing else, and calls nothing. -/
def YieldsS (P : Program) (ops : Array Oper) (S : World → Prop) (o : Oper) (v : Value) (a : Act) : Prop :=
  ((Region.wanted o (yielded ops a.tmps) = true ∧ ∀ w, S w → (execOp a.eval o).run P w = .ok (.value v) w) ∨ (Region.wanted o (yielded ops a.tmps) = false ∧ v = undef)) ∧ ∀ w, o.about P w a.eval = none

theorem YieldsS.wpOpIn {i : Nat} {o : Oper} {v : Value} {a : Act} (hpl : plainOps ops = true) (hi : ops[i]? = some o) (hy : YieldsS P ops S o v a)
    {K : Act → World → Prop} {w : World} (hS : S w) (h : K (a.put o.dst v) w) : wpOpIn F n P ops Q i K a w := by
  unfold Go.wpOpIn
  simp only [hi]
  have hab : ∀ f, o.about P w a.eval = some f → F.fn f := fun f hf => by rw [hy.2 w] at hf; cases hf
  rcases hy.1 with ⟨hw, hv⟩ | ⟨hw, rfl⟩
  · simp only [hw, if_true, Oper.wpIn, Oper.semAt_plain F _ _ (plain_spec hpl hi), hv w hS, Oper.uponIn]; exact ⟨hab, h⟩
  · simp only [hw, Bool.false_eq_true, if_false]; exact ⟨hab, h⟩

theorem YieldsS.of_same {o : Oper} {v : Value} {a a' : Act} (hy : YieldsS P ops S o v a) (he : execOp a'.eval o = execOp a.eval o)
    (hw : Region.wanted o (yielded ops a'.tmps) = Region.wanted o (yielded ops a.tmps)) (hb : ∀ w, o.about P w a'.eval = o.about P w a.eval) : YieldsS P ops S o v a' := by
  refine ⟨?_, fun w => by rw [hb w]; exact hy.2 w⟩
  rw [he, hw]
  exact hy.1

theorem wpOpIn_putS {j : Nat} {oi oj : Oper} {v : Value} (hpl : plainOps ops = true) (hj : ops[j]? = some oj) (hap : oi.apart ops oj = true)
    (hsi : ∀ cs b, oi.op ≠ .select cs b) (hsj : ∀ cs b, oj.op ≠ .select cs b)
    (hQ : ∀ c a w, Q (.panic c) (a.put oi.dst v) w → Q (.panic c) a w) {K : Act → World → Prop} {a : Act} {w : World}
    (hy : YieldsS P ops S oi v a) (h : wpOpIn F n P ops Q j K (a.put oi.dst v) w) :
    wpOpIn F n P ops Q j (fun a' w' => YieldsS P ops S oi v a' ∧ K (a'.put oi.dst v) w') a w := by
  obtain ⟨h1, h2, h3⟩ := Oper.apart_spec hap
  have keep : ∀ (a : Act), YieldsS P ops S oi v a → ∀ u, YieldsS P ops S oi v (a.put oj.dst u) := fun a hy u =>
    hy.of_same (execOp_put oi hsi a oj.dst u h3) (wanted_put oi a oj.dst u h3) (fun w => about_put oi w a oj.dst u h3)
  have keepD : ∀ d, YieldsS P ops S oi v { a with defers := d :: a.defers } := fun d => hy.of_same rfl rfl (fun _ => rfl)
  have hj0 := hj
  unfold wpOpIn at *
  simp only [hj] at h ⊢
  rw [wanted_put oj a oi.dst v h1, about_put oj w a oi.dst v h1] at h
  split
  · rename_i hw
    simp only [hw, if_true] at h
    unfold Oper.wpIn at *
    rw [about_put oj w a oi.dst v h1] at h
    refine ⟨h.1, ?_⟩
    have h := h.2
    rw [Oper.semAt_plain F _ _ (plain_spec hpl hj0), execOp_put oj hsj a oi.dst v h1] at h
    rw [Oper.semAt_plain F _ _ (plain_spec hpl hj0)]
    generalize (execOp a.eval oj).run P w = r at *
    cases r with
    | ok x w' =>
      cases x <;> simp only [Oper.uponIn] at h ⊢
      case value u => exact ⟨keep a hy u, by rw [← Act.put_comm a v u h2]; exact h⟩
      case skip => exact ⟨keep a hy _, by rw [← Act.put_comm a v undef h2]; exact h⟩
      case defer d =>
        refine ⟨keep _ (keepD d) _, ?_⟩
        rw [← Act.put_comm _ v undef h2, ← Act.put_defers]
        exact h
      case enter f args =>
        refine ⟨h.1, CallsIn.mono h.2 fun e w'' he => ?_⟩
        cases e with
        | returned u => exact ⟨keep a hy u, by rw [← Act.put_comm a v u h2]; exact he⟩
        | panicked c => exact hQ _ _ _ he
        | outgrown => exact he
      case row row args => exact ⟨h.1, RowsIn.mono h.2 fun u w'' he => ⟨keep a hy u, by rw [← Act.put_comm a v u h2]; exact he⟩⟩
      case round l f tmps assign body =>
        refine ⟨h.1, RoundIn.mono h.2 fun e w'' he => ?_⟩
        cases e with
        | returned u => exact ⟨keep a hy u, by rw [← Act.put_comm a v u h2]; exact he⟩
        | panicked c => exact hQ _ _ _ he
        | outgrown => exact he
    | halt x w' =>
      cases x <;> simp only [Oper.uponIn] at h ⊢
      case panic u => exact hQ _ _ _ h
  · rename_i hw
    simp only [hw] at h
    exact ⟨h.1, keep a hy _, by rw [← Act.put_comm a v undef h2]; exact h.2⟩

/-- Whatever order is picked from here on; S holds behind each operation as long as the gate has not come up. -/
def wpAnyG (F : Fence) (n : Nat) (P : Program) (ops : Array Oper) (Q : Exit → Act → World → Prop) (S : World → Prop) (g : Nat) : Nat → Array Bool → Act → World → Prop
  | 0, listed, a, w => Region.ready .any ops listed = [] ∧ Q .normal a w
  | fuel + 1, listed, a, w =>
    (Region.ready .any ops listed = [] → Q .normal a w) ∧
    ∀ i ∈ Region.ready .any ops listed, wpOpIn F n P ops Q i (fun a' w' => ((listed.setIfInBounds i true).getD g true = false → S w') ∧ wpAnyG F n P ops Q S g fuel (listed.setIfInBounds i true) a' w') a w

theorem wpAnyIn_of_gate : ∀ (fuel : Nat) (listed : Array Bool) (a : Act) (w : World), wpAnyG F n P ops Q S g fuel listed a w → wpAnyIn F n P .any ops Q fuel listed a w
  | 0, _, _, _, h => h
  | fuel + 1, _, _, _, h => ⟨h.1, fun i hi => wpOpIn_mono (fun a' w' h' => wpAnyIn_of_gate fuel _ a' w' h'.2) (h.2 i hi)⟩

theorem wpAnyG_first {i : Nat} {oi : Oper} {v : Value} (hpl : plainOps ops = true) (hi : ops[i]? = some oi) (hsel : ∀ (j : Nat) (o : Oper) cs b, ops[j]? = some o → o.op ≠ .select cs b)
    (hQ : ∀ c a w, Q (.panic c) (a.put oi.dst v) w → Q (.panic c) a w) {p : List Nat} (hp : pathB ops g p i = true) :
    ∀ (fuel : Nat) (listed : Array Bool) (a : Act) (w : World),
      (∀ j oj, ops[j]? = some oj → j ≠ i → listed.getD j true = false → (∀ e ∈ oj.after, Region.binds .any e = true → e.on ≠ i) → oi.apart ops oj = true) →
      i ∈ Region.ready .any ops listed → YieldsS P ops S oi v a → S w → Closed ops listed →
      wpAnyG F n P ops Q S g fuel (listed.setIfInBounds i true) (a.put oi.dst v) w → wpAnyG F n P ops Q S g (fuel + 1) listed a w := by
  intro fuel
  induction fuel with
  | zero =>
    intro listed a w _ hr hy hS hc H
    refine ⟨fun h => (by rw [h] at hr; cases hr), fun j hj => ?_⟩
    by_cases hji : j = i
    · subst hji; exact hy.wpOpIn hpl hi hS ⟨fun _ => hS, H⟩
    · have := ready_mono hj hji
      rw [H.1] at this
      cases this
  | succ fuel ih =>
    intro listed a w hfree hr hy hS hc H
    refine ⟨fun h => (by rw [h] at hr; cases hr), fun j hj => ?_⟩
    by_cases hji : j = i
    · subst hji; exact hy.wpOpIn hpl hi hS ⟨fun _ => hS, H⟩
    · have h1 := H.2 j (ready_mono hj hji)
      obtain ⟨hjun, oj, hoj, hall⟩ := mem_ready.1 hj
      have hiun := (mem_ready.1 hr).1
      obtain ⟨gn, gf⟩ := gate_free hc hp hiun
      have hnot : ∀ e ∈ oj.after, Region.binds .any e = true → e.on ≠ i := fun e he hb heq => by
        have h1 := hall e he hb
        rw [heq] at h1
        rw [getD_any h1] at hiun
        cases hiun
      have h2 := wpOpIn_putS hpl hoj (hfree j oj hoj hji hjun hnot) (fun cs b => hsel i oi cs b hi) (fun cs b => hsel j oj cs b hoj) hQ hy h1
      have hfree' : ∀ k ok, ops[k]? = some ok → k ≠ i → (listed.setIfInBounds j true).getD k true = false →
          (∀ e ∈ ok.after, Region.binds .any e = true → e.on ≠ i) → oi.apart ops ok = true := fun k ok hk hki hun hno => by
        refine hfree k ok hk hki ?_ hno
        by_cases hjk : j = k
        · subst hjk; exact hjun
        · rw [getD_set_ne true hjk] at hun; exact hun
      have hgj : j ≠ g := fun e => gn (e ▸ hj)
      have hgi : i ≠ g := fun e => gn (e ▸ hr)
      have hS' : ((listed.setIfInBounds i true).setIfInBounds j true).getD g true = false := by rw [getD_set_ne true hgj, getD_set_ne true hgi]; exact gf
      refine wpOpIn_mono (fun a' w' h3 => ⟨fun _ => h3.2.1 hS', ih (listed.setIfInBounds j true) a' w' hfree' (ready_mono hr (Ne.symm hji)) h3.1 (h3.2.1 hS') (hc.set hj) ?_⟩) h2
      rw [Array.setIfInBounds_comm _ _ hji]
      exact h3.2.2

/-- Take number i first. -/
theorem wpAnyG_take {l : List Oper} {i : Nat} {oi : Oper} {v : Value} {fuel : Nat} {listed : Array Bool} {a : Act} {w : World} (p : List Nat) (hi : l[i]? = some oi)
    (hs : Region.noSelect l.toArray = true) (hpl : plainOps l.toArray = true) (hf : Region.free .any l.toArray listed i = true) (hr : (Region.ready .any l.toArray listed).contains i = true) (hc : closedB l.toArray listed = true) (hp : pathB l.toArray g p i = true)
    (hQ : ∀ c a w, Q (.panic c) (a.put oi.dst v) w → Q (.panic c) a w) (hw : ∀ y, Region.wanted oi y = true) (hy : ∀ w, S w → (execOp a.eval oi).run P w = .ok (.value v) w) (hab : ∀ w, oi.about P w a.eval = none) (hS : S w)
    (h : wpAnyG F n P l.toArray Q S g fuel (listed.setIfInBounds i true) (a.put oi.dst v) w) : wpAnyG F n P l.toArray Q S g (fuel + 1) listed a w :=
  have hi' : l.toArray[i]? = some oi := by simpa using hi
  wpAnyG_first hpl hi' (Region.noSelect_spec hs) hQ hp fuel listed a w (Region.free_spec hi' hf) (by simpa using hr) ⟨.inl ⟨hw _, hy⟩, hab⟩ hS (closed_spec hc) h

theorem wpAnyG_done {listed : Array Bool} {a : Act} {w : World} (hr : Region.ready .any ops listed = []) (h : Q .normal a w) : ∀ fuel, wpAnyG F n P ops Q S g fuel listed a w
  | 0 => ⟨hr, h⟩
  | _ + 1 => ⟨fun _ => h, by rw [hr]; simp⟩

theorem wpOpIn_of_list {i : Nat} {o : Oper} {K : Act → World → Prop} {a : Act} {w : World} (hi : ops[i]? = some o) (h : wpListIn F n P ops (Exit.then K Q) [o] a w) : wpOpIn F n P ops Q i K a w := by
  unfold wpOpIn
  simp only [hi]
  unfold wpListIn at h
  split
  · rename_i hw
    simp only [hw, if_true] at h
    unfold Oper.wpIn at *
    refine ⟨h.1, ?_⟩
    have h := h.2
    generalize (o.semAt F.round a.eval).run P w = r at *
    cases r with
    | ok x w' =>
      cases x <;> simp only [Oper.uponIn] at h ⊢ <;>
        first
          | exact h
          | exact ⟨h.1, CallsIn.mono h.2 (fun e w'' he => by cases e <;> exact he)⟩
          | exact ⟨h.1, RowsIn.mono h.2 (fun _ _ he => he)⟩
          | exact ⟨h.1, RoundIn.mono h.2 (fun e w'' he => by cases e <;> exact he)⟩
    | halt x w' => cases x <;> simp only [Oper.uponIn] at h ⊢ <;> exact h
  · rename_i hw
    simp only [hw] at h
    exact h

/-- Number i alone may come up. -/
theorem wpAnyG_one {l : List Oper} {i : Nat} {o : Oper} {fuel : Nat} {listed : Array Bool} {a : Act} {w : World} (hi : l[i]? = some o) (hr : Region.ready .any l.toArray listed = [i])
    (h : wpListIn F n P l.toArray (Exit.then (fun a' w' => ((listed.setIfInBounds i true).getD g true = false → S w') ∧ wpAnyG F n P l.toArray Q S g fuel (listed.setIfInBounds i true) a' w') Q) [o] a w) : wpAnyG F n P l.toArray Q S g (fuel + 1) listed a w :=
  ⟨fun h0 => (by rw [hr] at h0; cases h0), fun j hj => by
    rw [hr] at hj
    obtain rfl := List.mem_singleton.1 hj
    exact wpOpIn_of_list (by simpa using hi) h⟩

/-- Two of them may come up. -/
theorem wpAnyG_two {l : List Oper} {i k : Nat} {o u : Oper} {fuel : Nat} {listed : Array Bool} {a : Act} {w : World} (hi : l[i]? = some o) (hk : l[k]? = some u) (hr : Region.ready .any l.toArray listed = [i, k])
    (h : wpListIn F n P l.toArray (Exit.then (fun a' w' => ((listed.setIfInBounds i true).getD g true = false → S w') ∧ wpAnyG F n P l.toArray Q S g fuel (listed.setIfInBounds i true) a' w') Q) [o] a w)
    (h2 : wpListIn F n P l.toArray (Exit.then (fun a' w' => ((listed.setIfInBounds k true).getD g true = false → S w') ∧ wpAnyG F n P l.toArray Q S g fuel (listed.setIfInBounds k true) a' w') Q) [u] a w) : wpAnyG F n P l.toArray Q S g (fuel + 1) listed a w :=
  ⟨fun h0 => (by rw [hr] at h0; cases h0), fun j hj => by
    rw [hr] at hj
    rcases List.mem_cons.1 hj with rfl | hj
    · exact wpOpIn_of_list (by simpa using hi) h
    · obtain rfl := List.mem_singleton.1 hj
      exact wpOpIn_of_list (by simpa using hk) h2⟩

/-- Q, but no panic. -/
def NoP (Q : Exit → Act → World → Prop) : Exit → Act → World → Prop
  | .panic _, _, _ => False
  | e, a, w => Q e a w

theorem NoP.imp {Q : Exit → Act → World → Prop} : ∀ (e : Exit) (a : Act) (w : World), NoP Q e a w → Q e a w := fun e a w h => by
  cases e <;> first | exact h | exact (h : False).elim

theorem gate_done {b : Bool} {p : Prop} (h : b = true) : b = false → p := fun h2 => by rw [h] at h2; cases h2

/-- The beginning. -/
theorem wpIn_region_gate (S : World → Prop) (g : Nat) {id : Nat} {l : List Oper} {a : Act} {w : World} (hm : P.follows .mixedOrders = true)
    (h : wpAnyG F n P l.toArray (NoP Q) S g l.length (Array.replicate l.length false) a w.drew) : (Code.region id l.toArray true).wpIn F n P Q a w :=
  wpIn_mono (wpIn_region_any (Q := NoP Q) hm (by simpa using wpAnyIn_of_gate _ _ _ _ h)) NoP.imp
end
end Go.Lin
