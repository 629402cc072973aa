/- The plain side of layer 1: specifications as data. Walks: what the small functions of the reference of layer 1 compute. Walks: comparing, and the raw checks of a specification, of the reference of layer 1. Walks: a word's answers and where it leads, both texts. Walks: slices.IndexFunc, slices.ContainsFunc, slices.Equal, slices.Clone of Go's library, at ints and lists of ints. Walks: which specifications, states, calls and words are valid, the program's own text. Walks: Valid, state, calls, word, opened, of the program's own text. Walks: Run and Tells, of both texts. -/
import Derived.Test.YtmohnddglmolgaaGreatDoorBase
import Derived.Test.YtmohnddglmolgaaGreatDoorChecked
import Derived.Test.YtmohnddglmolgaaGreatDoorAppend
namespace Go.Lin.Sp

/-- The i-th list (empty behind the end). -/
def nthL (xss : List (List Int)) (i : Nat) : List Int := xss.getD i []

theorem nthL_lt {xs : List (List Int)} {i : Nat} (h : i < xs.length) : nthL xs i = xs[i] := by
  simp [nthL, List.getD, List.getElem?_eq_getElem h]

/-- A slice of slices of ints. -/
def IsRows (S : Nat → Obj → Prop) (w : World) (v : Value) (rows : List (List Int)) : Prop :=
  ∃ V : Nat → Value, Reads S w v rows.length V ∧ ∀ i, i < rows.length → IsInts S w (V i) (nthL rows i)

theorem IsRows.any {S : Nat → Obj → Prop} {w : World} {v : Value} {rows : List (List Int)} (h : IsRows S w v rows) : IsRows Any w v rows := by
  obtain ⟨V, h1, h2⟩ := h
  exact ⟨V, h1.any, fun i hi => (h2 i hi).any⟩

theorem IsRows.grew {S : Nat → Obj → Prop} {w w' : World} {v : Value} {rows : List (List Int)} (h : IsRows S w v rows) (hg : Grew w w') : IsRows S w' v rows := by
  obtain ⟨V, h1, h2⟩ := h
  exact ⟨V, h1.grew hg, fun i hi => (h2 i hi).grew hg⟩

/-- A specification as it comes in. -/
structure RSpec where
  st : Int
  ops : Int
  next : List (List Int)
  says : List (List Int)

def IsSpec (w : World) (v : Value) (s : RSpec) : Prop :=
  ∃ nv yv, v = .agg #[.int .i64 s.st, .int .i64 s.ops, nv, yv] ∧ IsRows Any w nv s.next ∧ IsRows Any w yv s.says

theorem IsSpec.grew {w w' : World} {v : Value} {s : RSpec} (h : IsSpec w v s) (hg : Grew w w') : IsSpec w' v s := by
  obtain ⟨nv, yv, hv, h1, h2⟩ := h
  exact ⟨nv, yv, hv, h1.grew hg, h2.grew hg⟩

/-- The k-th row has the right length, and each number of it is below the limit. -/
def rowOK (ops limit : Int) (row : List Int) : Bool := decide ((row.length : Int) = ops) && row.all fun n => decide (0 ≤ n ∧ n < limit)

def isTableM (st ops : Int) (l : List (List Int)) (limit : Int) : Bool := decide ((l.length : Int) = st) && l.all (rowOK ops limit)

def validM (s : RSpec) : Bool := decide (1 ≤ s.st ∧ s.st ≤ 8 ∧ 1 ≤ s.ops ∧ s.ops ≤ 4) && isTableM s.st s.ops s.next s.st && isTableM s.st s.ops s.says 6

theorem all_nth {xs : List Int} {p : Int → Bool} (h : ∀ i, i < xs.length → p (nth xs i) = true) : xs.all p = true := by
  rw [List.all_eq_true]
  intro x hx
  obtain ⟨i, hi, rfl⟩ := List.getElem_of_mem hx
  have := h i hi
  rwa [nth_lt hi] at this

theorem all_nth_false {xs : List Int} {p : Int → Bool} {i : Nat} (hi : i < xs.length) (h : p (nth xs i) = false) : xs.all p = false := by
  rw [List.all_eq_false]
  exact ⟨nth xs i, by rw [nth_lt hi]; exact List.getElem_mem hi, by simp [h]⟩

theorem all_nthL {xs : List (List Int)} {p : List Int → Bool} (h : ∀ i, i < xs.length → p (nthL xs i) = true) : xs.all p = true := by
  rw [List.all_eq_true]
  intro x hx
  obtain ⟨i, hi, rfl⟩ := List.getElem_of_mem hx
  have := h i hi
  rwa [nthL_lt hi] at this

theorem all_nthL_false {xs : List (List Int)} {p : List Int → Bool} {i : Nat} (hi : i < xs.length) (h : p (nthL xs i) = false) : xs.all p = false := by
  rw [List.all_eq_false]
  exact ⟨nthL xs i, by rw [nthL_lt hi]; exact List.getElem_mem hi, by simp [h]⟩

theorem rowOK_true {ops limit : Int} {row : List Int} (hl : (row.length : Int) = ops) (h : ∀ i, i < row.length → 0 ≤ nth row i ∧ nth row i < limit) : rowOK ops limit row = true := by
  unfold rowOK
  rw [Bool.and_eq_true]
  exact ⟨by simpa using hl, all_nth (fun i hi => by simpa using h i hi)⟩

theorem rowOK_len {ops limit : Int} {row : List Int} (hl : ¬ (row.length : Int) = ops) : rowOK ops limit row = false := by
  unfold rowOK; simp [hl]

theorem rowOK_num {ops limit : Int} {row : List Int} {i : Nat} (hi : i < row.length) (h : ¬ (0 ≤ nth row i ∧ nth row i < limit)) : rowOK ops limit row = false := by
  unfold rowOK
  rw [all_nth_false hi (by simpa using h), Bool.and_false]

theorem isTableM_true {st ops limit : Int} {l : List (List Int)} (hl : (l.length : Int) = st) (h : ∀ i, i < l.length → rowOK ops limit (nthL l i) = true) : isTableM st ops l limit = true := by
  unfold isTableM
  rw [Bool.and_eq_true]
  exact ⟨by simpa using hl, all_nthL h⟩

theorem isTableM_len {st ops limit : Int} {l : List (List Int)} (hl : ¬ (l.length : Int) = st) : isTableM st ops l limit = false := by
  unfold isTableM; simp [hl]

theorem isTableM_row {st ops limit : Int} {l : List (List Int)} {i : Nat} (hi : i < l.length) (h : rowOK ops limit (nthL l i) = false) : isTableM st ops l limit = false := by
  unfold isTableM
  rw [all_nthL_false hi h, Bool.and_false]

theorem ext_nthL {xs ys : List (List Int)} (hl : xs.length = ys.length) (h : ∀ i, i < xs.length → nthL xs i = nthL ys i) : xs = ys := by
  apply List.ext_getElem hl
  intro i h1 h2
  have := h i h1
  rwa [nthL_lt h1, nthL_lt h2] at this

def sameL (xs ys : List Int) : Bool := decide (xs = ys)
def sameLL (xs ys : List (List Int)) : Bool := decide (xs = ys)

theorem sameL_len {xs ys : List Int} (h : ¬ xs.length = ys.length) : sameL xs ys = false := by
  unfold sameL; simp; intro e; exact h (by rw [e])
theorem sameL_ne {xs ys : List Int} {i : Nat} (h : ¬ nth xs i = nth ys i) : sameL xs ys = false := by
  unfold sameL; simp; intro e; exact h (by rw [e])
theorem sameL_eq {xs ys : List Int} (hl : xs.length = ys.length) (h : ∀ i, i < xs.length → nth xs i = nth ys i) : sameL xs ys = true := by
  unfold sameL; simpa using ext_nth hl h
theorem sameLL_len {xs ys : List (List Int)} (h : ¬ xs.length = ys.length) : sameLL xs ys = false := by
  unfold sameLL; simp; intro e; exact h (by rw [e])
theorem sameLL_ne {xs ys : List (List Int)} {i : Nat} (h : sameL (nthL xs i) (nthL ys i) = false) : sameLL xs ys = false := by
  unfold sameL at h; unfold sameLL; simp at h; simp; intro e; exact h (by rw [e])
theorem sameLL_eq {xs ys : List (List Int)} (hl : xs.length = ys.length) (h : ∀ i, i < xs.length → sameL (nthL xs i) (nthL ys i) = true) : sameLL xs ys = true := by
  unfold sameLL; simp
  exact ext_nthL hl (fun i hi => by have := h i hi; unfold sameL at this; simpa using this)

def eqSpec (s t : RSpec) : Bool := decide (s.st = t.st) && decide (s.ops = t.ops) && sameLL s.next t.next && sameLL s.says t.says

def exchM (n other : Int) : Int := if n = 0 then other else if n = other then 0 else n

/-- n is one of 0 .. lim - 1. -/
def inM (lim n : Int) : Bool := decide (0 ≤ n ∧ n < lim)

def isWordM (ops : Int) (xs : List Int) : Bool := xs.all (inM ops) && decide (xs.length ≤ 20)

theorem isWordM_op {ops : Int} {xs : List Int} {i : Nat} (hi : i < xs.length) (h : inM ops (nth xs i) = false) : isWordM ops xs = false := by
  unfold isWordM
  rw [all_nth_false hi h, Bool.false_and]

theorem isWordM_true {ops : Int} {xs : List Int} (h : ∀ i, i < xs.length → inM ops (nth xs i) = true) : isWordM ops xs = decide ((xs.length : Int) ≤ 20) := by
  unfold isWordM
  rw [all_nth h, Bool.true_and]
  simp
  omega

/-! ### Valid specifications: machines -/

/-- The i-th number of a list of naturals. -/
def nthN (xs : List Nat) (i : Nat) : Nat := xs.getD i 0

theorem nthN_lt {xs : List Nat} {i : Nat} (h : i < xs.length) : nthN xs i = xs[i] := by
  simp [nthN, List.getD, List.getElem?_eq_getElem h]

theorem take_succ_nthN {xs : List Nat} {k : Nat} (h : k < xs.length) : xs.take (k + 1) = xs.take k ++ [nthN xs k] := by
  rw [List.take_succ_eq_append_getElem h, nthN_lt h]

structure Mach where
  n : Nat
  k : Nat
  nx : Nat → Nat → Nat
  sy : Nat → Nat → Int

structure Mach.WF (M : Mach) : Prop where
  n1 : 1 ≤ M.n
  n8 : M.n ≤ 8
  k1 : 1 ≤ M.k
  k4 : M.k ≤ 4
  nx : ∀ i, i < M.n → ∀ j, j < M.k → M.nx i j < M.n

/-- A table of n rows of k numbers each. -/
def TabAt (w : World) (b off n k : Nat) (f : Nat → Nat → Int) : Prop :=
  b < w.heap.size ∧ ∀ i, i < n → ∃ b2 off2 c2, w.cell? ⟨b, off + i, none⟩ = some (.slice (some ⟨b2, off2, none⟩) k c2) ∧ b2 < w.heap.size ∧ ∀ j, j < k → w.cell? ⟨b2, off2 + j, none⟩ = some (.int .i64 (f i j))

theorem TabAt.grew {w w' : World} {b off n k : Nat} {f : Nat → Nat → Int} (h : TabAt w b off n k f) (hg : Grew w w') : TabAt w' b off n k f := by
  obtain ⟨hb, h⟩ := h
  refine ⟨Nat.lt_of_lt_of_le hb hg.size, fun i hi => ?_⟩
  obtain ⟨b2, off2, c2, h1, h2, h3⟩ := h i hi
  exact ⟨b2, off2, c2, (hg.cell (p := ⟨b, off + i, none⟩) hb).trans h1, Nat.lt_of_lt_of_le h2 hg.size, fun j hj => (hg.cell (p := ⟨b2, off2 + j, none⟩) h2).trans (h3 j hj)⟩

def IsMach (w : World) (v : Value) (M : Mach) : Prop :=
  ∃ b off c b2 off2 c2, v = .agg #[.int .i64 M.n, .int .i64 M.k, .slice (some ⟨b, off, none⟩) M.n c, .slice (some ⟨b2, off2, none⟩) M.n c2] ∧
    TabAt w b off M.n M.k (fun i j => (M.nx i j : Int)) ∧ TabAt w b2 off2 M.n M.k M.sy

theorem IsMach.grew {w w' : World} {v : Value} {M : Mach} (h : IsMach w v M) (hg : Grew w w') : IsMach w' v M := by
  obtain ⟨b, off, c, b2, off2, c2, hv, h1, h2⟩ := h
  exact ⟨b, off, c, b2, off2, c2, hv, h1.grew hg, h2.grew hg⟩

/-- The machine of a valid specification. -/
def machOf (s : RSpec) : Mach := { n := s.st.toNat, k := s.ops.toNat, nx := fun i j => (nth (nthL s.next i) j).toNat, sy := fun i j => nth (nthL s.says i) j }

theorem valid_parts {s : RSpec} (h : validM s = true) : (1 ≤ s.st ∧ s.st ≤ 8 ∧ 1 ≤ s.ops ∧ s.ops ≤ 4) ∧
    ((s.next.length : Int) = s.st ∧ ∀ i, i < s.next.length → ((nthL s.next i).length : Int) = s.ops ∧ ∀ j, j < (nthL s.next i).length → 0 ≤ nth (nthL s.next i) j ∧ nth (nthL s.next i) j < s.st) ∧
    ((s.says.length : Int) = s.st ∧ ∀ i, i < s.says.length → ((nthL s.says i).length : Int) = s.ops ∧ ∀ j, j < (nthL s.says i).length → 0 ≤ nth (nthL s.says i) j ∧ nth (nthL s.says i) j < 6) := by
  have row : ∀ {ops lim : Int} {row : List Int}, rowOK ops lim row = true → (row.length : Int) = ops ∧ ∀ j, j < row.length → 0 ≤ nth row j ∧ nth row j < lim := by
    intro ops lim row h
    unfold rowOK at h
    simp only [Bool.and_eq_true, decide_eq_true_eq, List.all_eq_true] at h
    exact ⟨h.1, fun j hj => by rw [nth_lt hj]; exact h.2 _ (List.getElem_mem hj)⟩
  have tab : ∀ {st ops lim : Int} {l : List (List Int)}, isTableM st ops l lim = true → (l.length : Int) = st ∧ ∀ i, i < l.length → ((nthL l i).length : Int) = ops ∧ ∀ j, j < (nthL l i).length → 0 ≤ nth (nthL l i) j ∧ nth (nthL l i) j < lim := by
    intro st ops lim l h
    unfold isTableM at h
    simp only [Bool.and_eq_true, decide_eq_true_eq, List.all_eq_true] at h
    exact ⟨h.1, fun i hi => by rw [nthL_lt hi]; exact row (h.2 _ (List.getElem_mem hi))⟩
  unfold validM at h
  simp only [Bool.and_eq_true, decide_eq_true_eq] at h
  exact ⟨h.1.1, tab h.1.2, tab h.2⟩

theorem wf_machOf {s : RSpec} (h : validM s = true) : (machOf s).WF := by
  obtain ⟨⟨h1, h2, h3, h4⟩, ⟨h5, h6⟩, _⟩ := valid_parts h
  refine ⟨by simp only [machOf]; omega, by simp only [machOf]; omega, by simp only [machOf]; omega, by simp only [machOf]; omega, ?_⟩
  intro i hi j hj
  simp only [machOf] at hi hj ⊢
  obtain ⟨h7, h8⟩ := h6 i (by omega)
  have := h8 j (by omega)
  omega

theorem tabAt_of_rows {w : World} {v : Value} {rows : List (List Int)} {n k : Nat} (hr : IsRows Any w v rows) (hn : rows.length = n) (hn1 : 1 ≤ n) (hk1 : 1 ≤ k) (hk : ∀ i, i < n → (nthL rows i).length = k) :
    ∃ b off c, v = .slice (some ⟨b, off, none⟩) n c ∧ TabAt w b off n k (fun i j => nth (nthL rows i) j) := by
  obtain ⟨V, ⟨a, cap, rfl, _, hc⟩, hrow⟩ := hr
  obtain ⟨b, off, o, rfl, ho, _, _⟩ := hc 0 (by omega)
  refine ⟨b, off, cap, by rw [hn], lt_of_obj ho, fun i hi => ?_⟩
  obtain ⟨b', off', o', he, ho', _, hci⟩ := hc i (by omega)
  simp only [Option.some.injEq, Addr.mk.injEq] at he
  obtain ⟨rfl, rfl, _⟩ := he
  obtain ⟨a2, cap2, hv, _, hc2⟩ := hrow i (by omega)
  rw [hk i hi] at hv hc2
  obtain ⟨b2, off2, o2, rfl, ho2, _, _⟩ := hc2 0 (by omega)
  refine ⟨b2, off2, cap2, by rw [hci, hv], lt_of_obj ho2, fun j hj => ?_⟩
  obtain ⟨b3, off3, o3, he3, _, _, hcj⟩ := hc2 j hj
  simp only [Option.some.injEq, Addr.mk.injEq] at he3
  obtain ⟨rfl, rfl, _⟩ := he3
  exact hcj

theorem IsSpec.isMach {w : World} {v : Value} {s : RSpec} (h : IsSpec w v s) (hv : validM s = true) : IsMach w v (machOf s) := by
  obtain ⟨nv, yv, rfl, hn, hy⟩ := h
  obtain ⟨⟨h1, h2, h3, h4⟩, ⟨h5, h6⟩, ⟨h7, h8⟩⟩ := valid_parts hv
  obtain ⟨b, off, c, rfl, ht⟩ := tabAt_of_rows (n := s.st.toNat) (k := s.ops.toNat) hn (by omega) (by omega) (by omega) (fun i hi => by have := (h6 i (by omega)).1; omega)
  obtain ⟨b2, off2, c2, rfl, ht2⟩ := tabAt_of_rows (n := s.st.toNat) (k := s.ops.toNat) hy (by omega) (by omega) (by omega) (fun i hi => by have := (h8 i (by omega)).1; omega)
  refine ⟨b, off, c, b2, off2, c2, ?_, ⟨ht.1, fun i hi => ?_⟩, ht2⟩
  · simp only [machOf]
    rw [show ((s.st.toNat : Nat) : Int) = s.st by omega, show ((s.ops.toNat : Nat) : Int) = s.ops by omega]
  · obtain ⟨b3, off3, c3, h9, h10, h11⟩ := ht.2 i hi
    refine ⟨b3, off3, c3, h9, h10, fun j hj => ?_⟩
    simp only [machOf] at hi hj ⊢
    rw [h11 j hj]
    have := (h6 i (by omega)).2 j (by have := (h6 i (by omega)).1; omega)
    rw [show (((nth (nthL s.next i) j).toNat : Nat) : Int) = nth (nthL s.next i) j by omega]

/-- A slice of naturals. -/
abbrev IsNats (S : Nat → Obj → Prop) (w : World) (v : Value) (xs : List Nat) : Prop := Reads S w v xs.length (fun i => .int .i64 ((nthN xs i : Nat) : Int))

/-- Ints out of naturals. -/
def ofN (xs : List Nat) : List Int := xs.map fun (n : Nat) => (n : Int)
def toN (xs : List Int) : List Nat := xs.map Int.toNat

theorem length_ofN (xs : List Nat) : (ofN xs).length = xs.length := by simp [ofN]
theorem nth_ofN (xs : List Nat) (i : Nat) : nth (ofN xs) i = ((nthN xs i : Nat) : Int) := by
  simp [nth, ofN, nthN, List.getD]
  cases xs[i]? <;> simp

theorem IsNats.ints {S : Nat → Obj → Prop} {w : World} {v : Value} {xs : List Nat} (h : IsNats S w v xs) : IsInts S w v (ofN xs) := by
  unfold IsInts
  rw [length_ofN]
  exact Reads.congr h (fun i _ => by rw [nth_ofN])

/-- Where a word leads. -/
def stM (M : Mach) (s : Nat) (ws : List Nat) : Nat := ws.foldl (fun s op => M.nx s op) s
/-- What a word answers. -/
def anM (M : Mach) : Nat → List Nat → List Int
  | _, [] => []
  | s, op :: ws => M.sy s op :: anM M (M.nx s op) ws

theorem stM_snoc (M : Mach) (s : Nat) (ws : List Nat) (o : Nat) : stM M s (ws ++ [o]) = M.nx (stM M s ws) o := by
  simp [stM, List.foldl_append]

theorem stM_append (M : Mach) (s : Nat) (ws vs : List Nat) : stM M s (ws ++ vs) = stM M (stM M s ws) vs := by
  simp [stM, List.foldl_append]

theorem anM_append (M : Mach) (ws vs : List Nat) : ∀ s, anM M s (ws ++ vs) = anM M s ws ++ anM M (stM M s ws) vs := by
  induction ws with
  | nil => intro s; simp [anM, stM]
  | cons o ws ih => intro s; simp [anM, ih, stM]

theorem anM_snoc (M : Mach) (s : Nat) (ws : List Nat) (o : Nat) : anM M s (ws ++ [o]) = anM M s ws ++ [M.sy (stM M s ws) o] := by
  rw [anM_append]; rfl

theorem length_anM (M : Mach) (ws : List Nat) : ∀ s, (anM M s ws).length = ws.length := by
  induction ws with
  | nil => intro s; rfl
  | cons o ws ih => intro s; simp [anM, ih]

/-- All calls of a word are calls. -/
def OkW (k : Nat) (ws : List Nat) : Prop := ∀ x, x ∈ ws → x < k

theorem OkW.nth {k : Nat} {ws : List Nat} (h : OkW k ws) {i : Nat} (hi : i < ws.length) : nthN ws i < k := by
  rw [nthN_lt hi]; exact h _ (List.getElem_mem hi)

theorem stM_lt {M : Mach} (hM : M.WF) {ws : List Nat} : ∀ {s : Nat}, s < M.n → OkW M.k ws → stM M s ws < M.n := by
  induction ws with
  | nil => intro s hs _; exact hs
  | cons o ws ih =>
    intro s hs hw
    exact ih (hM.nx s hs o (hw o (by simp))) (fun x hx => hw x (by simp [hx]))

theorem OkW.take {k : Nat} {ws : List Nat} (h : OkW k ws) (j : Nat) : OkW k (ws.take j) := fun x hx => h x (List.mem_of_mem_take hx)

end Go.Lin.Sp
namespace Go.Proofs.YtmohnddglmolgaaGreatDoor.Ks
open Go.RowKit Go.Lin Go.Lin.Sp

set_option maxHeartbeats 400000 in
theorem isState_any (s : RSpec) (sv : Value) (n : Int) (w : World) (hs : IsSpec w sv s) :
    Calls Tryz.prog 123 #[sv, .int .i64 n] w fun e w' => e = .returned (.bool (inM s.st n)) ∧ Grew w w' := by
  obtain ⟨nv, yv, rfl, _, _⟩ := hs
  go_enter Tryz.func123, Tryz.ntmps123
  go_wp2
  all_goals (go_ret; refine ⟨ret_bool ?_, (by repeat' (first | exact grew_refl _ | assumption | refine grew_alloc ?_ _ | refine Below.setCell ?_ (by (try simp); omega) _ | refine grew_drewN ?_ _ | refine grew_drew ?_ | refine grew_trans ?_ (by assumption)))⟩; unfold inM; rw [Bool.eq_iff_iff]; simp; try omega)

set_option maxHeartbeats 400000 in
theorem isOp_any (s : RSpec) (sv : Value) (n : Int) (w : World) (hs : IsSpec w sv s) :
    Calls Tryz.prog 148 #[sv, .int .i64 n] w fun e w' => e = .returned (.bool (inM s.ops n)) ∧ Grew w w' := by
  obtain ⟨nv, yv, rfl, _, _⟩ := hs
  go_enter Tryz.func148, Tryz.ntmps148
  go_wp2
  all_goals (go_ret; refine ⟨ret_bool ?_, (by repeat' (first | exact grew_refl _ | assumption | refine grew_alloc ?_ _ | refine Below.setCell ?_ (by (try simp); omega) _ | refine grew_drewN ?_ _ | refine grew_drew ?_ | refine grew_trans ?_ (by assumption)))⟩; unfold inM; rw [Bool.eq_iff_iff]; simp; try omega)

set_option maxHeartbeats 400000 in
theorem isWord_any (s : RSpec) (sv v : Value) (xs : List Int) (w : World) (hs : IsSpec w sv s) (hx : IsInts Any w v xs) :
    Calls Tryz.prog 124 #[sv, v] w fun e w' => e = .returned (.bool (isWordM s.ops xs)) ∧ Grew w w' := by
  have HS := hs
  obtain ⟨nv, yv, rfl, _, _⟩ := hs
  obtain ⟨a, cap, rfl, hm, hc⟩ := hx
  have HC := hid hc; clear hc
  go_enter Tryz.func124, Tryz.ntmps124
  go_wp2
  obtain ⟨W0, hW0⟩ : ∃ W0, w.alloc (.cells #[.int .i64 s.st, .int .i64 s.ops, nv, yv] 166) = W0 := ⟨_, rfl⟩
  have g0 : Grew w W0 := by rw [← hW0]; exact (by repeat' (first | exact grew_refl _ | assumption | refine grew_alloc ?_ _ | refine Below.setCell ?_ (by (try simp); omega) _ | refine grew_drewN ?_ _ | refine grew_drew ?_ | refine grew_trans ?_ (by assumption)))
  have k0 : W0.cell? ⟨w.heap.size, 0, none⟩ = some (.int .i64 s.st) := by rw [← hW0]; simp
  have k1 : W0.cell? ⟨w.heap.size, 1, none⟩ = some (.int .i64 s.ops) := by rw [← hW0]; simp
  have k2 : W0.cell? ⟨w.heap.size, 2, none⟩ = some nv := by rw [← hW0]; simp
  have k3 : W0.cell? ⟨w.heap.size, 3, none⟩ = some yv := by rw [← hW0]; simp
  have hz : w.heap.size < W0.heap.size := by rw [← hW0]; simp
  rw [hW0]
  clear hW0
  go_loopg [9] (xs.length) (fun k i wr => ∃ j : Nat, j ≤ xs.length ∧ i = .int .i64 j ∧ k = xs.length - j ∧ Hid (∀ t, t < j → inM s.ops (nth xs t) = true) ∧ Grew W0 wr)
  case atStart => exact ⟨0, Nat.zero_le _, rfl, rfl, hid (fun t ht => by omega), grew_refl _⟩
  case round =>
    obtain ⟨j, hj, rfl, hk, HT, hg⟩ := hrel
    have HK := hid hk; clear hk
    obtain ⟨hcell, -⟩ := bcell hg
    have gw := grew_trans g0 hg
    by_cases hlt : j < xs.length
    · obtain ⟨b, off, o, rfl, hb, _, hcj⟩ := HC.out j hlt
      have hbl := lt_of_obj hb
      have hbl0 : b < W0.heap.size := by have := g0.size; omega
      have hcj0 := (g0.cell (p := ⟨b, off + j, none⟩) hbl).trans hcj
      clear hb
      have HS' := HS.grew gw
      by_cases hop : inM s.ops (nth xs j) = true
      · go_wp2_with (go_at_call 148; with_reducible refine (isOp_any s _ _ _ HS').mono ?_; rintro e w1 ⟨rfl, hx⟩; replace hg := grew_trans hg hx; have hc := (bcell hg).1)
        go_roundg (xs.length - (j + 1))
        case measure => have := HK.out; omega
        case rel => exact ⟨j + 1, by omega, by go_num, rfl, hid (lt_succ_all HT.out hop), (by repeat' (first | exact grew_refl _ | assumption | refine grew_alloc ?_ _ | refine Below.setCell ?_ (by (try simp); omega) _ | refine grew_drewN ?_ _ | refine grew_drew ?_ | refine grew_trans ?_ (by assumption)))⟩
      · have hop' : inM s.ops (nth xs j) = false := by simpa using hop
        go_wp2_with (go_at_call 148; with_reducible refine (isOp_any s _ _ _ HS').mono ?_; rintro e w1 ⟨rfl, hx⟩; replace hg := grew_trans hg hx; have hc := (bcell hg).1)
        go_ret
        exact ⟨ret_bool (isWordM_op hlt hop').symm, (by repeat' (first | exact grew_refl _ | assumption | refine grew_alloc ?_ _ | refine Below.setCell ?_ (by (try simp); omega) _ | refine grew_drewN ?_ _ | refine grew_drew ?_ | refine grew_trans ?_ (by assumption)))⟩
    · obtain rfl : j = xs.length := by omega
      go_wp2
      go_ret
      refine ⟨ret_bool ?_, gw⟩
      rw [isWordM_true HT.out]
end Go.Proofs.YtmohnddglmolgaaGreatDoor.Ks
namespace Go.Proofs.YtmohnddglmolgaaGreatDoor.Ks
open Go.RowKit Go.Lin Go.Lin.Sp

set_option maxHeartbeats 400000 in
theorem isTable_any (s : RSpec) (sv lv : Value) (l : List (List Int)) (limit : Int) (w : World) (hs : IsSpec w sv s) (hl : IsRows Any w lv l) :
    Calls Tryz.prog 147 #[sv, lv, .int .i64 limit] w fun e w' => e = .returned (.bool (isTableM s.st s.ops l limit)) ∧ Grew w w' := by
  obtain ⟨nv, yv, rfl, _, _⟩ := hs
  obtain ⟨V, ⟨a, cap, rfl, hm, hc⟩, hr⟩ := hl
  have HC := hid hc; clear hc
  have HR := hid hr; clear hr
  have HG := hid ((Below.refl w.heap.size w).alloc (Nat.le_refl _) (.cells #[.int .i64 s.st, .int .i64 s.ops, nv, yv] 166))
  by_cases hln : (l.length : Int) = s.st
  · have hne : ((l.length : Int) != s.st) = false := by simp [hln]
    have HLN := hid hln; clear hln
    go_enter Tryz.func147, Tryz.ntmps147
    go_wp2
    go_loop [18] (fun i => ∃ j : Nat, j ≤ l.length ∧ i = .int .i64 j ∧ Hid (∀ t, t < j → rowOK s.ops limit (nthL l t) = true)) (fun i => l.length - (intOf i).toNat)
    case atStart => exact ⟨0, Nat.zero_le _, rfl, hid (fun t ht => by omega)⟩
    case round =>
      obtain ⟨j, hj, rfl, HOK⟩ := hrel
      by_cases hlt : j < l.length
      · obtain ⟨b, off, o, rfl, hb, _, hcj⟩ := HC.out j hlt
        obtain ⟨a2, cap2, hv, hm2, hc2⟩ := HR.out j hlt
        rw [hv] at hcj
        have hbl := lt_of_obj hb
        have HC2 := hid hc2; clear hc2 hv hb
        by_cases hrl : ((nthL l j).length : Int) = s.ops
        · have hne2 : (((nthL l j).length : Int) != s.ops) = false := by simp [hrl]
          have HRL := hid hrl; clear hrl
          go_wp2
          go_loop [29] (fun i => ∃ t : Nat, t ≤ (nthL l j).length ∧ i = .int .i64 t ∧ Hid (∀ r, r < t → 0 ≤ nth (nthL l j) r ∧ nth (nthL l j) r < limit)) (fun i => (nthL l j).length - (intOf i).toNat)
          case atStart => exact ⟨0, Nat.zero_le _, rfl, hid (fun t ht => by omega)⟩
          case round =>
            obtain ⟨t, ht, rfl, HT⟩ := hrel
            by_cases hlt2 : t < (nthL l j).length
            · obtain ⟨b2, off2, o2, rfl, hb2, _, hct⟩ := HC2.out t hlt2
              have hbl2 := lt_of_obj hb2
              clear hb2
              by_cases hlo : nth (nthL l j) t < 0
              · have hd : decide (nth (nthL l j) t < 0) = true := by simpa using hlo
                go_wp2
                go_ret
                exact ⟨ret_bool (isTableM_row hlt (rowOK_num hlt2 (by omega))).symm, HG.out⟩
              · have hd : decide (nth (nthL l j) t < 0) = false := by simpa using hlo
                by_cases hhi : limit ≤ nth (nthL l j) t
                · have hd2 : decide (limit ≤ nth (nthL l j) t) = true := by simpa using hhi
                  go_wp2
                  go_ret
                  exact ⟨ret_bool (isTableM_row hlt (rowOK_num hlt2 (by omega))).symm, HG.out⟩
                · have hd2 : decide (limit ≤ nth (nthL l j) t) = false := by simpa using hhi
                  have hlo' : 0 ≤ nth (nthL l j) t := by omega
                  have hhi' : nth (nthL l j) t < limit := by omega
                  go_wp2
                  go_round
                  case rel => exact ⟨t + 1, by omega, by go_num, hid (lt_succ_all HT.out ⟨hlo', hhi'⟩)⟩
                  case measure => simp [intOf]; omega
            · obtain rfl : t = (nthL l j).length := by omega
              have HOK2 := hid (rowOK_true HRL.out HT.out)
              go_wp2
              go_round
              case rel => exact ⟨j + 1, by omega, by go_num, hid (lt_succ_all HOK.out HOK2.out)⟩
              case measure => simp [intOf]; omega
        · have hne2 : (((nthL l j).length : Int) != s.ops) = true := by simpa using hrl
          have HRL := hid hrl; clear hrl
          go_wp2
          go_ret
          exact ⟨ret_bool (isTableM_row hlt (rowOK_len HRL.out)).symm, HG.out⟩
      · go_wp2
        go_ret
        obtain rfl : j = l.length := by omega
        exact ⟨ret_bool (isTableM_true HLN.out HOK.out).symm, HG.out⟩
  · have hne : ((l.length : Int) != s.st) = true := by simpa using hln
    have HLN := hid hln; clear hln
    go_enter Tryz.func147, Tryz.ntmps147
    go_wp2
    go_ret
    exact ⟨ret_bool (isTableM_len HLN.out).symm, HG.out⟩
end Go.Proofs.YtmohnddglmolgaaGreatDoor.Ks
namespace Go.Proofs.YtmohnddglmolgaaGreatDoor.Ks
open Go.RowKit Go.Lin Go.Lin.Sp

set_option maxHeartbeats 1000000 in
theorem refValid_any (s : RSpec) (sv : Value) (w : World) (hs : IsSpec w sv s) :
    Calls Tryz.prog 122 #[sv] w fun e w' => e = .returned (.bool (validM s)) ∧ Grew w w' := by
  have HS := hs
  obtain ⟨nv, yv, rfl, hn, hy⟩ := hs
  obtain ⟨W0, hW0, g0, k0, k1, k2, k3, hz⟩ := box4 w (.int .i64 s.st) (.int .i64 s.ops) nv yv 166
  go_enter Tryz.func122, Tryz.ntmps122
  have hg := grew_refl W0
  go_wp2_with (first | (go_at_call 147; with_reducible refine (isTable_any s _ nv s.next s.st _ (HS.grew (by exact grew_trans g0 hg)) (hn.grew (by exact grew_trans g0 hg))).mono ?_; rintro e w1 ⟨rfl, hx⟩; replace hg := grew_trans hg hx; have hc := (bcell hg).1) | (go_at_call 147; with_reducible refine (isTable_any s _ yv s.says 6 _ (HS.grew (by exact grew_trans g0 hg)) (hy.grew (by exact grew_trans g0 hg))).mono ?_; rintro e w1 ⟨rfl, hx⟩; replace hg := grew_trans hg hx; have hc := (bcell hg).1))
  all_goals (go_ret; refine ⟨ret_bool ?_, (by repeat' (first | exact grew_refl _ | assumption | refine grew_alloc ?_ _ | refine Below.setCell ?_ (by (try simp); omega) _ | refine grew_drewN ?_ _ | refine grew_drew ?_ | refine grew_trans ?_ (by assumption)))⟩; unfold validM; rw [Bool.eq_iff_iff]; simp; try first | omega | grind)
end Go.Proofs.YtmohnddglmolgaaGreatDoor.Ks
namespace Go.Proofs.YtmohnddglmolgaaGreatDoor.Ks
open Go.RowKit Go.Lin Go.Lin.Sp

theorem Tryz.info3 : (Tryz.prog.info? 3).map (fun i => (i.zero, i.size, i.bytes)) = some (some (.int .i64 0), 1, 8) := by kernel_rfl
theorem Tryz.info39 : (Tryz.prog.info? 39).map (fun i => (i.zero, i.size, i.bytes)) = some (some (.slice none 0 0), 1, 24) := by kernel_rfl

set_option maxHeartbeats 1000000 in
theorem refRun_any (M : Mach) (hM : M.WF) (mv v : Value) (s : Nat) (ws : List Nat) (w : World) (hs : s < M.n) (hw : OkW M.k ws) (hl : ws.length ≤ 100) (hm : IsMach w mv M) (hv : IsNats Any w v ws) :
    Calls Tryz.prog 125 #[mv, .int .i64 s, v] w fun e w' => ∃ u, e = .returned (.tuple #[u, .int .i64 (stM M s ws)]) ∧ Seg w' w.heap.size 3 1 u ws.length ((anM M s ws).map (.int .i64)) ∧ Grew w w' := by
  obtain ⟨b, off, c, b2, off2, c2, rfl, t1, t2⟩ := hm
  obtain ⟨a, cap, rfl, hm, hc⟩ := hv
  obtain ⟨W0, hW0, g0, k0, k1, k2, k3, hz⟩ := box4 w (.int .i64 M.n) (.int .i64 M.k) (.slice (some ⟨b, off, none⟩) M.n c) (.slice (some ⟨b2, off2, none⟩) M.n c2) 166
  have T1 := hid (t1.grew g0)
  have T2 := hid (t2.grew g0)
  have HC := hid hc
  have n8 := hM.n8
  have k4 := hM.k4
  have hb := (T1.out).1
  have hb2 := (T2.out).1
  clear t1 t2 hc
  go_enter Tryz.func125, Tryz.ntmps125
  go_wp2
  clear hW0
  go_loopg [6, 7, 13] (ws.length) (fun g u q i wr => ∃ j p : Nat, j ≤ ws.length ∧ i = .int .i64 j ∧ q = .int .i64 p ∧ p < M.n ∧ g = ws.length - j ∧ Hid (p = stM M s (ws.take j)) ∧ Grew W0 wr ∧
    Seg wr W0.heap.size 3 1 u j ((anM M s (ws.take j)).map (.int .i64)))
  case atStart => exact ⟨0, s, Nat.zero_le _, rfl, rfl, hs, rfl, hid rfl, grew_refl _, Seg.nil _ _ _ _⟩
  case round =>
    obtain ⟨j, p, hj, rfl, rfl, hp, hk, HP, hg, hseg⟩ := hrel
    have HK := hid hk; clear hk
    have hcell := (bcell hg).1
    obtain ⟨ua, uc, rfl, hum⟩ := hseg.shape
    by_cases hlt : j < ws.length
    · obtain ⟨b5, off5, o5, rfl, ho5, _, hcj⟩ := HC.out j hlt
      have hbl := lt_of_obj ho5
      have hbl0 : b5 < W0.heap.size := by omega
      have hcj0 := (g0.cell (p := ⟨b5, off5 + j, none⟩) hbl).trans hcj
      clear ho5 hcj
      have hq := hw.nth hlt
      obtain ⟨b3, off3, c3, h3, h3b, h3c⟩ := T1.out.2 p hp
      have h3d := h3c _ hq
      obtain ⟨b4, off4, c4, h4, h4b, h4c⟩ := T2.out.2 p hp
      have h4d := h4c _ hq
      clear h3c h4c
      have hsz := hg.size
      have tk := take_succ_nthN hlt
      have hst : stM M s (ws.take (j + 1)) = M.nx p (nthN ws j) := by rw [tk, stM_snoc, ← HP.out]
      have han : anM M s (ws.take (j + 1)) = anM M s (ws.take j) ++ [M.sy p (nthN ws j)] := by rw [tk, anM_snoc, ← HP.out]
      have HST := hid hst; have HAN := hid han; clear hst han tk
      have hnx := hM.nx p hp _ hq
      go_wp2_with (at_builtin; refine wpList_append_one rfl _ _ 39 rfl W0.heap.size 3 Tryz.underlying39 Tryz.info3 rfl (by decide) _ (j) _ rfl (hseg.alloc _) _ _ _ rfl (one_new _ _ _) rfl (by omega) ?_ ?_; (simp only [World.size_alloc]; omega); intro v1 w1 hown1 hgrow1 hblk1; have hg1 := (hg.alloc hg.size _).grown hgrow1 (hg.alloc hg.size _).size (fun k e => (hseg.own k e).1); have hc1 := (bcell hg1).1; clear hgrow1)
      go_roundg (ws.length - (j + 1))
      case measure => have := HK.out; omega
      case rel =>
        refine ⟨j + 1, M.nx p (nthN ws j), by omega, by go_num, rfl, hnx, rfl, hid HST.out.symm, hg1, ?_⟩
        rw [HAN.out, List.map_append]; exact hown1
    · obtain rfl : j = ws.length := by omega
      go_wp2
      go_ret2
      have ht := List.take_of_length_le (Nat.le_refl ws.length)
      refine ⟨.slice ua ws.length uc, ?_, ?_, grew_trans g0 hg⟩
      · rw [ht] at HP; rw [← HP.out]; rfl
      · rw [ht] at hseg; exact hseg.mono g0.size

set_option maxHeartbeats 1000000 in
theorem run_any (M : Mach) (hM : M.WF) (mv v : Value) (s : Nat) (ws : List Nat) (w : World) (hs : s < M.n) (hw : OkW M.k ws) (hl : ws.length ≤ 100) (hm : IsMach w mv M) (hv : IsNats Any w v ws) :
    Calls Tryz.prog 135 #[mv, .int .i64 s, v] w fun e w' => ∃ u, e = .returned (.tuple #[u, .int .i64 (stM M s ws)]) ∧ Seg w' w.heap.size 3 1 u ws.length ((anM M s ws).map (.int .i64)) ∧ Grew w w' := by
  obtain ⟨b, off, c, b2, off2, c2, rfl, t1, t2⟩ := hm
  obtain ⟨a, cap, rfl, hm, hc⟩ := hv
  obtain ⟨W0, hW0, g0, k0, k1, k2, k3, hz⟩ := box4 w (.int .i64 M.n) (.int .i64 M.k) (.slice (some ⟨b, off, none⟩) M.n c) (.slice (some ⟨b2, off2, none⟩) M.n c2) 196
  have T1 := hid (t1.grew g0)
  have T2 := hid (t2.grew g0)
  have HC := hid hc
  have n8 := hM.n8
  have k4 := hM.k4
  have hb := (T1.out).1
  have hb2 := (T2.out).1
  clear t1 t2 hc
  go_enter Tryz.func135, Tryz.ntmps135
  go_wp2
  clear hW0
  go_loopg [1, 8, 13] (ws.length) (fun g q u i wr => ∃ j p : Nat, j ≤ ws.length ∧ i = .int .i64 j ∧ q = .int .i64 p ∧ p < M.n ∧ g = ws.length - j ∧ Hid (p = stM M s (ws.take j)) ∧ Grew W0 wr ∧
    Seg wr W0.heap.size 3 1 u j ((anM M s (ws.take j)).map (.int .i64)))
  case atStart => exact ⟨0, s, Nat.zero_le _, rfl, rfl, hs, rfl, hid rfl, grew_refl _, Seg.nil _ _ _ _⟩
  case round =>
    obtain ⟨j, p, hj, rfl, rfl, hp, hk, HP, hg, hseg⟩ := hrel
    have HK := hid hk; clear hk
    have hcell := (bcell hg).1
    obtain ⟨ua, uc, rfl, hum⟩ := hseg.shape
    by_cases hlt : j < ws.length
    · obtain ⟨b5, off5, o5, rfl, ho5, _, hcj⟩ := HC.out j hlt
      have hbl := lt_of_obj ho5
      have hbl0 : b5 < W0.heap.size := by omega
      have hcj0 := (g0.cell (p := ⟨b5, off5 + j, none⟩) hbl).trans hcj
      clear ho5 hcj
      have hq := hw.nth hlt
      obtain ⟨b3, off3, c3, h3, h3b, h3c⟩ := T1.out.2 p hp
      have h3d := h3c _ hq
      obtain ⟨b4, off4, c4, h4, h4b, h4c⟩ := T2.out.2 p hp
      have h4d := h4c _ hq
      clear h3c h4c
      have hsz := hg.size
      have tk := take_succ_nthN hlt
      have hst : stM M s (ws.take (j + 1)) = M.nx p (nthN ws j) := by rw [tk, stM_snoc, ← HP.out]
      have han : anM M s (ws.take (j + 1)) = anM M s (ws.take j) ++ [M.sy p (nthN ws j)] := by rw [tk, anM_snoc, ← HP.out]
      have HST := hid hst; have HAN := hid han; clear hst han tk
      have hnx := hM.nx p hp _ hq
      go_wp2_with (at_builtin; refine wpList_append_one rfl _ _ 39 rfl W0.heap.size 3 Tryz.underlying39 Tryz.info3 rfl (by decide) _ (j) _ rfl (hseg.alloc _) _ _ _ rfl (one_new _ _ _) rfl (by omega) ?_ ?_; (simp only [World.size_alloc]; omega); intro v1 w1 hown1 hgrow1 hblk1; have hg1 := (hg.alloc hg.size _).grown hgrow1 (hg.alloc hg.size _).size (fun k e => (hseg.own k e).1); have hc1 := (bcell hg1).1; clear hgrow1)
      go_roundg (ws.length - (j + 1))
      case measure => have := HK.out; omega
      case rel =>
        refine ⟨j + 1, M.nx p (nthN ws j), by omega, by go_num, rfl, hnx, rfl, hid HST.out.symm, hg1, ?_⟩
        rw [HAN.out, List.map_append]; exact hown1
    · obtain rfl : j = ws.length := by omega
      go_wp2
      go_ret2
      have ht := List.take_of_length_le (Nat.le_refl ws.length)
      refine ⟨.slice ua ws.length uc, ?_, ?_, grew_trans g0 hg⟩
      · rw [ht] at HP; rw [← HP.out]; rfl
      · rw [ht] at hseg; exact hseg.mono g0.size
end Go.Proofs.YtmohnddglmolgaaGreatDoor.Ks
namespace Go.Proofs.YtmohnddglmolgaaGreatDoor.Ks
open Go.RowKit Go.Lin Go.Lin.Sp

/-- The function g, with what it has captured, says p of x, in whatever later world. -/
def Says (g : Nat) (caps : Array Value) (x : Value) (p : Bool) (w : World) : Prop :=
  ∀ w', Grew w w' → Calls Tryz.prog g (#[x] ++ caps) w' fun e w'' => e = .returned (.bool p) ∧ Grew w' w''

def Entered (g : Nat) : Prop := ∀ args w, (callFunc g args).run Tryz.prog w = .ok (.enter g args) w

theorem Says.grew {g : Nat} {caps : Array Value} {x : Value} {p : Bool} {w w' : World} (h : Says g caps x p w) (hg : Grew w w') : Says g caps x p w' := fun w2 h2 => h w2 (grew_trans hg h2)

set_option maxHeartbeats 1000000 in
theorem indexFunc_any (g : Nat) (caps : Array Value) (p : Int → Bool) (v : Value) (xs : List Int) (w : World) (hcf : Entered g) (hx : IsInts Any w v xs) (hp : ∀ i, i < xs.length → Says g caps (.int .i64 (nth xs i)) (p (nth xs i)) w) :
    Calls Tryz.prog 121 #[v, .func (.func g) #[] caps] w fun e w' => ∃ r : Int, e = .returned (.int .i64 r) ∧ Hid (decide (0 ≤ r) = xs.any p) ∧ Grew w w' := by
  obtain ⟨a, cap, rfl, hm, hc⟩ := hx
  have HC := hid hc; clear hc
  have HP := hid hp; clear hp
  have hcf' : ∀ args w, (callFunc g args).run Tryz.prog w = .ok (.enter g args) w := hcf
  clear hcf
  go_enter Tryz.func121, Tryz.ntmps121
  go_wp2
  go_loopg [5, 8] (xs.length) (fun k _ i wr => ∃ j : Nat, j ≤ xs.length ∧ i = .int .i64 j ∧ k = xs.length - j ∧ Hid (∀ t, t < j → p (nth xs t) = false) ∧ Grew w wr)
  case atStart => exact ⟨0, Nat.zero_le _, rfl, rfl, hid (fun t ht => by omega), grew_refl _⟩
  case round =>
    obtain ⟨j, hj, rfl, hk, HT, hg⟩ := hrel
    have HK := hid hk; clear hk
    by_cases hlt : j < xs.length
    · obtain ⟨b, off, o, rfl, hb, _, hcj⟩ := HC.out j hlt
      have hbl := lt_of_obj hb
      have hcj0 := (hg.cell (p := ⟨b, off + j, none⟩) hbl).trans hcj
      clear hb hcj
      have HS := hid (HP.out j hlt)
      by_cases hop : p (nth xs j) = true
      · have HOP := hid hop
        go_wp2_with (refine (show Calls _ _ _ _ _ from HS.out _ hg).mono ?_; rintro e w1 ⟨rfl, hx⟩; replace hg := grew_trans hg hx; have hc := (bcell hg).1)
        go_ret
        refine ⟨(j : Int), rfl, hid ?_, hg⟩
        rw [show decide ((0 : Int) ≤ (j : Int)) = true by simp]
        refine (List.any_eq_true.2 ⟨nth xs j, ?_, HOP.out⟩).symm
        rw [nth_lt hlt]; exact List.getElem_mem hlt
      · have hop' : p (nth xs j) = false := by simpa using hop
        go_wp2_with (refine (show Calls _ _ _ _ _ from HS.out _ hg).mono ?_; rintro e w1 ⟨rfl, hx⟩; replace hg := grew_trans hg hx; have hc := (bcell hg).1)
        go_roundg (xs.length - (j + 1))
        case measure => have := HK.out; omega
        case rel => exact ⟨j + 1, by omega, by go_num, rfl, hid (lt_succ_all HT.out hop'), hg⟩
    · obtain rfl : j = xs.length := by omega
      go_wp2
      go_ret
      refine ⟨-1, rfl, hid ?_, hg⟩
      rw [show decide ((0 : Int) ≤ -1) = false by decide]
      refine (List.any_eq_false.2 ?_).symm
      intro x hx
      obtain ⟨i, hi, rfl⟩ := List.getElem_of_mem hx
      have := HT.out i hi
      rw [nth_lt hi] at this
      simp [this]

set_option maxHeartbeats 1000000 in
theorem containsFunc_any (g : Nat) (caps : Array Value) (p : Int → Bool) (v : Value) (xs : List Int) (w : World) (hcf : Entered g) (hx : IsInts Any w v xs) (hp : ∀ i, i < xs.length → Says g caps (.int .i64 (nth xs i)) (p (nth xs i)) w) :
    Calls Tryz.prog 99 #[v, .func (.func g) #[] caps] w fun e w' => e = .returned (.bool (xs.any p)) ∧ Grew w w' := by
  have h := indexFunc_any g caps p v xs w hcf hx hp
  have H := hid h; clear h hcf hx hp
  go_enter Tryz.func99, Tryz.ntmps99
  go_wp2_with (go_at_call 121; with_reducible refine H.out.mono ?_; rintro e w1 ⟨r, rfl, hr, hg⟩)
  go_ret
  exact ⟨ret_bool hr.out, hg⟩

set_option maxHeartbeats 1000000 in
theorem between_any (lo n hi : Int) (w : World) :
    Calls Tryz.prog 159 #[.int .i64 lo, .int .i64 n, .int .i64 hi] w fun e w' => e = .returned (.bool (decide (lo ≤ n ∧ n ≤ hi))) ∧ Grew w w' := by
  obtain ⟨r, hr⟩ : ∃ r, decide (lo ≤ n ∧ n ≤ hi) = r := ⟨_, rfl⟩
  rw [hr]
  have HR := hid hr; clear hr
  go_enter Tryz.func159, Tryz.ntmps159
  go_wp2
  all_goals (go_ret; refine ⟨ret_bool ?_, (by repeat' (first | exact grew_refl _ | assumption | refine grew_alloc ?_ _ | refine Below.setCell ?_ (by (try simp); omega) _ | refine grew_drewN ?_ _ | refine grew_drew ?_ | refine grew_trans ?_ (by assumption)))⟩; rw [← HR.out]; rw [Bool.eq_iff_iff]; simp; try omega)

theorem entered158 : Entered 158 := fun _ _ => by kernel_rfl
theorem entered182 : Entered 182 := fun _ _ => by kernel_rfl
theorem entered201 : Entered 201 := fun _ _ => by kernel_rfl
theorem entered200 : Entered 200 := fun _ _ => by kernel_rfl
end Go.Proofs.YtmohnddglmolgaaGreatDoor.Ks
namespace Go.Proofs.YtmohnddglmolgaaGreatDoor.Ks
open Go.RowKit Go.Lin Go.Lin.Sp

set_option maxHeartbeats 1000000 in
theorem table11_any (n limit : Int) (B : Nat) (w : World) (hB : w.cell? ⟨B, 0, none⟩ = some (.int .i64 limit)) :
    Calls Tryz.prog 201 #[.int .i64 n, .pointer (some ⟨B, 0, none⟩)] w fun e w' => e = .returned (.bool (!inM (limit + 1) n)) ∧ Grew w w' := by
  have g0 := grew_refl w
  have hg := grew_refl w
  go_enter Tryz.func201, Tryz.ntmps201
  go_wp2_with (go_at_call 159; with_reducible refine (between_any _ _ _ _).mono ?_; rintro e w1 ⟨rfl, hx⟩; replace hg := grew_trans hg hx; have hc := (bcell hg).1)
  go_ret
  refine ⟨ret_bool ?_, hg⟩
  unfold inM
  congr 1
  rw [Bool.eq_iff_iff]; simp; omega

set_option maxHeartbeats 1000000 in
theorem table1_any (s : RSpec) (limit : Int) (v : Value) (row : List Int) (B B2 : Nat) (w : World) (hB : w.cell? ⟨B, 1, none⟩ = some (.int .i64 s.ops)) (_hlt : B < w.heap.size) (hB2 : w.cell? ⟨B2, 0, none⟩ = some (.int .i64 limit)) (hlt2 : B2 < w.heap.size) (hx : IsInts Any w v row) :
    Calls Tryz.prog 200 #[v, .pointer (some ⟨B, 0, none⟩), .pointer (some ⟨B2, 0, none⟩)] w fun e w' => e = .returned (.bool (!rowOK s.ops (limit + 1) row)) ∧ Grew w w' := by
  have HX := hx
  obtain ⟨a, cap, rfl, hm, hc⟩ := hx
  clear hc
  have hg := grew_refl w
  by_cases hl : (row.length : Int) = s.ops
  · have hne : ((row.length : Int) != s.ops) = false := by simp [hl]
    have HL := hid hl; clear hl
    have hcon := containsFunc_any 201 #[.pointer (some ⟨B2, 0, none⟩)] (fun n => !inM (limit + 1) n) _ row w entered201 HX
      (fun i hi w' hw => table11_any _ limit B2 w' ((hw.cell (p := ⟨B2, 0, none⟩) hlt2).trans hB2))
    have HCON := hid hcon; clear hcon
    go_enter Tryz.func200, Tryz.ntmps200
    go_wp2_with (go_at_call 99; with_reducible refine HCON.out.mono ?_; rintro e w1 ⟨rfl, hx⟩)
    all_goals (go_ret; refine ⟨ret_bool ?_, by assumption⟩)
    all_goals (
      rw [show rowOK s.ops (limit + 1) row = row.all (inM (limit + 1)) by unfold rowOK inM; simp [HL.out]]
      simp [List.any_eq_not_all_not])
  · have hne : ((row.length : Int) != s.ops) = true := by simpa using hl
    have HL := hid hl; clear hl
    go_enter Tryz.func200, Tryz.ntmps200
    go_wp2
    go_ret
    exact ⟨ret_bool (by rw [rowOK_len HL.out]; rfl), grew_refl w⟩

set_option maxHeartbeats 1000000 in
theorem indexFuncRows_any (g : Nat) (caps : Array Value) (p : List Int → Bool) (v : Value) (xs : List (List Int)) (w : World) (hcf : Entered g) (hx : IsRows Any w v xs) (hp : ∀ i u, i < xs.length → IsInts Any w u (nthL xs i) → Says g caps u (p (nthL xs i)) w) :
    Calls Tryz.prog 210 #[v, .func (.func g) #[] caps] w fun e w' => ∃ r : Int, e = .returned (.int .i64 r) ∧ Hid (decide (0 ≤ r) = xs.any p) ∧ Grew w w' := by
  obtain ⟨V, ⟨a, cap, rfl, hm, hc⟩, hr⟩ := hx
  have HC := hid hc; clear hc
  have HR := hid hr; clear hr
  have HP := hid hp; clear hp
  have hcf' : ∀ args w, (callFunc g args).run Tryz.prog w = .ok (.enter g args) w := hcf
  clear hcf
  go_enter Tryz.func210, Tryz.ntmps210
  go_wp2
  go_loopg [5, 8] (xs.length) (fun k _ i wr => ∃ j : Nat, j ≤ xs.length ∧ i = .int .i64 j ∧ k = xs.length - j ∧ Hid (∀ t, t < j → p (nthL xs t) = false) ∧ Grew w wr)
  case atStart => exact ⟨0, Nat.zero_le _, rfl, rfl, hid (fun t ht => by omega), grew_refl _⟩
  case round =>
    obtain ⟨j, hj, rfl, hk, HT, hg⟩ := hrel
    have HK := hid hk; clear hk
    by_cases hlt : j < xs.length
    · obtain ⟨b, off, o, rfl, hb, _, hcj⟩ := HC.out j hlt
      have hbl := lt_of_obj hb
      have hcj0 := (hg.cell (p := ⟨b, off + j, none⟩) hbl).trans hcj
      clear hb hcj
      have HS := hid (HP.out j _ hlt (HR.out j hlt))
      by_cases hop : p (nthL xs j) = true
      · have HOP := hid hop
        go_wp2_with (refine (show Calls _ _ _ _ _ from HS.out _ hg).mono ?_; rintro e w1 ⟨rfl, hx⟩; replace hg := grew_trans hg hx; have hc := (bcell hg).1)
        go_ret
        refine ⟨(j : Int), rfl, hid ?_, hg⟩
        rw [show decide ((0 : Int) ≤ (j : Int)) = true by simp]
        refine (List.any_eq_true.2 ⟨nthL xs j, ?_, HOP.out⟩).symm
        rw [nthL_lt hlt]; exact List.getElem_mem hlt
      · have hop' : p (nthL xs j) = false := by simpa using hop
        go_wp2_with (refine (show Calls _ _ _ _ _ from HS.out _ hg).mono ?_; rintro e w1 ⟨rfl, hx⟩; replace hg := grew_trans hg hx; have hc := (bcell hg).1)
        go_roundg (xs.length - (j + 1))
        case measure => have := HK.out; omega
        case rel => exact ⟨j + 1, by omega, by go_num, rfl, hid (lt_succ_all HT.out hop'), hg⟩
    · obtain rfl : j = xs.length := by omega
      go_wp2
      go_ret
      refine ⟨-1, rfl, hid ?_, hg⟩
      rw [show decide ((0 : Int) ≤ -1) = false by decide]
      refine (List.any_eq_false.2 ?_).symm
      intro x hx
      obtain ⟨i, hi, rfl⟩ := List.getElem_of_mem hx
      have := HT.out i hi
      rw [nthL_lt hi] at this
      simp [this]

set_option maxHeartbeats 1000000 in
theorem containsFuncRows_any (g : Nat) (caps : Array Value) (p : List Int → Bool) (v : Value) (xs : List (List Int)) (w : World) (hcf : Entered g) (hx : IsRows Any w v xs) (hp : ∀ i u, i < xs.length → IsInts Any w u (nthL xs i) → Says g caps u (p (nthL xs i)) w) :
    Calls Tryz.prog 199 #[v, .func (.func g) #[] caps] w fun e w' => e = .returned (.bool (xs.any p)) ∧ Grew w w' := by
  have h := indexFuncRows_any g caps p v xs w hcf hx hp
  have H := hid h; clear h hcf hx hp
  go_enter Tryz.func199, Tryz.ntmps199
  go_wp2_with (go_at_call 210; with_reducible refine H.out.mono ?_; rintro e w1 ⟨r, rfl, hr, hg⟩)
  go_ret
  exact ⟨ret_bool hr.out, hg⟩

set_option maxHeartbeats 1000000 in
theorem table_any (s : RSpec) (sv lv : Value) (l : List (List Int)) (limit : Int) (w : World) (hs : IsSpec w sv s) (hl : IsRows Any w lv l) :
    Calls Tryz.prog 181 #[sv, lv, .int .i64 limit] w fun e w' => e = .returned (.bool (isTableM s.st s.ops l (limit + 1))) ∧ Grew w w' := by
  obtain ⟨nv, yv, rfl, _, _⟩ := hs
  have HL := hl
  obtain ⟨V, ⟨a, cap, rfl, hm, hc⟩, hr⟩ := hl
  clear hc hr
  obtain ⟨W0, hW0, g0, k0, k1, k2, k3, hz⟩ := box4 w (.int .i64 s.st) (.int .i64 s.ops) nv yv 166
  obtain ⟨W1, hW1⟩ : ∃ W1, W0.alloc (.cells #[.int .i64 limit] 3) = W1 := ⟨_, rfl⟩
  have g1 : Grew W0 W1 := by rw [← hW1]; exact (by repeat' (first | exact grew_refl _ | assumption | refine grew_alloc ?_ _ | refine Below.setCell ?_ (by (try simp); omega) _ | refine grew_drewN ?_ _ | refine grew_drew ?_ | refine grew_trans ?_ (by assumption)))
  have hz1 : W0.heap.size < W1.heap.size := by rw [← hW1]; simp
  have l0 : W1.cell? ⟨W0.heap.size, 0, none⟩ = some (.int .i64 limit) := by rw [← hW1]; simp
  have m0 := (g1.cell (p := ⟨w.heap.size, 0, none⟩) hz).trans k0
  have m1 := (g1.cell (p := ⟨w.heap.size, 1, none⟩) hz).trans k1
  have hg := grew_refl W1
  have g01 := grew_trans g0 g1
  have hza : w.heap.size < W1.heap.size := by omega
  by_cases hln : (l.length : Int) = s.st
  · have hne : ((l.length : Int) == s.st) = true := by simp [hln]
    have HLN := hid hln; clear hln
    have hcon := containsFuncRows_any 200 #[.pointer (some ⟨w.heap.size, 0, none⟩), .pointer (some ⟨W0.heap.size, 0, none⟩)] (fun row => !rowOK s.ops (limit + 1) row) _ l W1 entered200 (HL.grew g01)
      (fun i u hi hu w' hw => table1_any s limit u _ _ _ w' ((hw.cell (p := ⟨w.heap.size, 1, none⟩) hza).trans m1) (Nat.lt_of_lt_of_le hza hw.size) ((hw.cell (p := ⟨W0.heap.size, 0, none⟩) hz1).trans l0) (Nat.lt_of_lt_of_le hz1 hw.size) (hu.grew hw))
    have HCON := hid hcon; clear hcon
    go_enter Tryz.func181, Tryz.ntmps181
    go_wp2_with (go_at_call 199; with_reducible refine HCON.out.mono ?_; rintro e w1 ⟨rfl, hx⟩)
    go_ret
    refine ⟨ret_bool ?_, (by repeat' (first | exact grew_refl _ | assumption | refine grew_alloc ?_ _ | refine Below.setCell ?_ (by (try simp); omega) _ | refine grew_drewN ?_ _ | refine grew_drew ?_ | refine grew_trans ?_ (by assumption)))⟩
    rw [show isTableM s.st s.ops l (limit + 1) = l.all (rowOK s.ops (limit + 1)) by unfold isTableM; simp [HLN.out]]
    simp [List.any_eq_not_all_not]
  · have hne : ((l.length : Int) == s.st) = false := by simpa using hln
    have HLN := hid hln; clear hln
    go_enter Tryz.func181, Tryz.ntmps181
    go_wp2
    go_ret
    exact ⟨ret_bool (isTableM_len HLN.out).symm, (by repeat' (first | exact grew_refl _ | assumption | refine grew_alloc ?_ _ | refine Below.setCell ?_ (by (try simp); omega) _ | refine grew_drewN ?_ _ | refine grew_drew ?_ | refine grew_trans ?_ (by assumption)))⟩
end Go.Proofs.YtmohnddglmolgaaGreatDoor.Ks
namespace Go.Proofs.YtmohnddglmolgaaGreatDoor.Ks
open Go.RowKit Go.Lin Go.Lin.Sp

set_option maxHeartbeats 1000000 in
theorem valid_any (s : RSpec) (sv : Value) (w : World) (hs : IsSpec w sv s) :
    Calls Tryz.prog 157 #[sv] w fun e w' => e = .returned (.bool (validM s)) ∧ Grew w w' := by
  have HS := hs
  obtain ⟨nv, yv, rfl, hn, hy⟩ := hs
  obtain ⟨W0, hW0, g0, k0, k1, k2, k3, hz⟩ := box4 w (.int .i64 s.st) (.int .i64 s.ops) nv yv 166
  have hg := grew_refl W0
  by_cases h1 : 1 ≤ s.st ∧ s.st ≤ 8
  · have d1 : decide (1 ≤ s.st ∧ s.st ≤ 8) = true := by simpa using h1
    have b1 := h1.1
    have b2 := h1.2
    have H1 := hid h1; clear h1
    by_cases h2 : 1 ≤ s.ops ∧ s.ops ≤ 4
    · have d2 : decide (1 ≤ s.ops ∧ s.ops ≤ 4) = true := by simpa using h2
      have H2 := hid h2; clear h2
      cases hr1 : isTableM s.st s.ops s.next (s.st - 1 + 1) <;> cases hr2 : isTableM s.st s.ops s.says (5 + 1)
      all_goals
        go_enter Tryz.func157, Tryz.ntmps157
        go_wp2_with (first | (go_at_call 159; with_reducible refine (between_any 1 s.st 8 _).mono ?_; rw [d1]; rintro e w1 ⟨rfl, hx⟩; replace hg := grew_trans hg hx; have hc := (bcell hg).1) | (go_at_call 159; with_reducible refine (between_any 1 s.ops 4 _).mono ?_; rw [d2]; rintro e w1 ⟨rfl, hx⟩; replace hg := grew_trans hg hx; have hc := (bcell hg).1) | (go_at_call 181; with_reducible refine (table_any s _ nv s.next (s.st - 1) _ (HS.grew (by exact grew_trans g0 hg)) (hn.grew (by exact grew_trans g0 hg))).mono ?_; rw [hr1]; rintro e w1 ⟨rfl, hx⟩; replace hg := grew_trans hg hx; have hc := (bcell hg).1) | (go_at_call 181; with_reducible refine (table_any s _ yv s.says 5 _ (HS.grew (by exact grew_trans g0 hg)) (hy.grew (by exact grew_trans g0 hg))).mono ?_; rw [hr2]; rintro e w1 ⟨rfl, hx⟩; replace hg := grew_trans hg hx; have hc := (bcell hg).1))
        go_ret
        refine ⟨ret_bool ?_, (by repeat' (first | exact grew_refl _ | assumption | refine grew_alloc ?_ _ | refine Below.setCell ?_ (by (try simp); omega) _ | refine grew_drewN ?_ _ | refine grew_drew ?_ | refine grew_trans ?_ (by assumption)))⟩
        rw [show s.st - 1 + 1 = s.st by omega] at hr1
        rw [show (5 : Int) + 1 = 6 by decide] at hr2
        unfold validM
        rw [hr1, hr2]
        have := H1.out; have := H2.out
        simp
        try omega
    · have d2 : decide (1 ≤ s.ops ∧ s.ops ≤ 4) = false := by simpa using h2
      have H2 := hid h2; clear h2
      go_enter Tryz.func157, Tryz.ntmps157
      go_wp2_with (first | (go_at_call 159; with_reducible refine (between_any 1 s.st 8 _).mono ?_; rw [d1]; rintro e w1 ⟨rfl, hx⟩; replace hg := grew_trans hg hx; have hc := (bcell hg).1) | (go_at_call 159; with_reducible refine (between_any 1 s.ops 4 _).mono ?_; rw [d2]; rintro e w1 ⟨rfl, hx⟩; replace hg := grew_trans hg hx; have hc := (bcell hg).1))
      go_ret
      refine ⟨ret_bool ?_, (by repeat' (first | exact grew_refl _ | assumption | refine grew_alloc ?_ _ | refine Below.setCell ?_ (by (try simp); omega) _ | refine grew_drewN ?_ _ | refine grew_drew ?_ | refine grew_trans ?_ (by assumption)))⟩
      have h2 := H2.out
      unfold validM
      rw [show decide (1 ≤ s.st ∧ s.st ≤ 8 ∧ 1 ≤ s.ops ∧ s.ops ≤ 4) = false by simp; omega]
      rfl
  · have d1 : decide (1 ≤ s.st ∧ s.st ≤ 8) = false := by simpa using h1
    have H1 := hid h1; clear h1
    go_enter Tryz.func157, Tryz.ntmps157
    go_wp2_with (go_at_call 159; with_reducible refine (between_any 1 s.st 8 _).mono ?_; rw [d1]; rintro e w1 ⟨rfl, hx⟩; replace hg := grew_trans hg hx; have hc := (bcell hg).1)
    go_ret
    refine ⟨ret_bool ?_, (by repeat' (first | exact grew_refl _ | assumption | refine grew_alloc ?_ _ | refine Below.setCell ?_ (by (try simp); omega) _ | refine grew_drewN ?_ _ | refine grew_drew ?_ | refine grew_trans ?_ (by assumption)))⟩
    have h1 := H1.out
    unfold validM
    rw [show decide (1 ≤ s.st ∧ s.st ≤ 8 ∧ 1 ≤ s.ops ∧ s.ops ≤ 4) = false by simp; omega]
    rfl

set_option maxHeartbeats 1000000 in
theorem state1_any (n lim : Int) (B : Nat) (w : World) (h1 : 1 ≤ lim) (h2 : lim ≤ 8) (hB : w.cell? ⟨B, 0, none⟩ = some (.int .i64 lim)) :
    Calls Tryz.prog 158 #[.int .i64 n, .pointer (some ⟨B, 0, none⟩)] w fun e w' => e = .returned (.bool (!inM lim n)) ∧ Grew w w' := by
  have hg := grew_refl w
  go_enter Tryz.func158, Tryz.ntmps158
  go_wp2_with (go_at_call 159; with_reducible refine (between_any _ _ _ _).mono ?_; rintro e w1 ⟨rfl, hx⟩; replace hg := grew_trans hg hx; have hc := (bcell hg).1)
  go_ret
  refine ⟨ret_bool ?_, hg⟩
  unfold inM
  congr 1
  rw [Bool.eq_iff_iff]; simp; omega

set_option maxHeartbeats 1000000 in
theorem calls1_any (n lim : Int) (B : Nat) (w : World) (h1 : 1 ≤ lim) (h2 : lim ≤ 8) (hB : w.cell? ⟨B, 1, none⟩ = some (.int .i64 lim)) :
    Calls Tryz.prog 182 #[.int .i64 n, .pointer (some ⟨B, 0, none⟩)] w fun e w' => e = .returned (.bool (!inM lim n)) ∧ Grew w w' := by
  have hg := grew_refl w
  go_enter Tryz.func182, Tryz.ntmps182
  go_wp2_with (go_at_call 159; with_reducible refine (between_any _ _ _ _).mono ?_; rintro e w1 ⟨rfl, hx⟩; replace hg := grew_trans hg hx; have hc := (bcell hg).1)
  go_ret
  refine ⟨ret_bool ?_, hg⟩
  unfold inM
  congr 1
  rw [Bool.eq_iff_iff]; simp; omega

set_option maxHeartbeats 1000000 in
theorem state_any (s : RSpec) (sv v : Value) (xs : List Int) (w : World) (h1 : 1 ≤ s.st) (h2 : s.st ≤ 8) (hs : IsSpec w sv s) (hx : IsInts Any w v xs) :
    Calls Tryz.prog 133 #[sv, v] w fun e w' => e = .returned (.bool (xs.all (inM s.st))) ∧ Grew w w' := by
  obtain ⟨nv, yv, rfl, _, _⟩ := hs
  have HX := hx
  obtain ⟨a, cap, rfl, hm, hc⟩ := hx
  clear hc
  obtain ⟨W0, hW0, g0, k0, k1, k2, k3, hz⟩ := box4 w (.int .i64 s.st) (.int .i64 s.ops) nv yv 196
  have hcon := containsFunc_any 158 #[.pointer (some ⟨w.heap.size, 0, none⟩)] (fun n => !inM s.st n) _ xs W0 entered158 (HX.grew g0)
    (fun i hi w' hw => state1_any _ s.st _ w' h1 h2 ((hw.cell (p := ⟨w.heap.size, 0, none⟩) hz).trans k0))
  have HCON := hid hcon; clear hcon
  go_enter Tryz.func133, Tryz.ntmps133
  go_wp2_with (go_at_call 99; with_reducible refine HCON.out.mono ?_; rintro e w1 ⟨rfl, hx⟩)
  go_ret
  refine ⟨ret_bool ?_, (by repeat' (first | exact grew_refl _ | assumption | refine grew_alloc ?_ _ | refine Below.setCell ?_ (by (try simp); omega) _ | refine grew_drewN ?_ _ | refine grew_drew ?_ | refine grew_trans ?_ (by assumption)))⟩
  simp [List.any_eq_not_all_not]

set_option maxHeartbeats 1000000 in
theorem calls_any (s : RSpec) (sv v : Value) (xs : List Int) (w : World) (h1 : 1 ≤ s.ops) (h2 : s.ops ≤ 8) (hs : IsSpec w sv s) (hx : IsInts Any w v xs) :
    Calls Tryz.prog 160 #[sv, v] w fun e w' => e = .returned (.bool (xs.all (inM s.ops))) ∧ Grew w w' := by
  obtain ⟨nv, yv, rfl, _, _⟩ := hs
  have HX := hx
  obtain ⟨a, cap, rfl, hm, hc⟩ := hx
  clear hc
  obtain ⟨W0, hW0, g0, k0, k1, k2, k3, hz⟩ := box4 w (.int .i64 s.st) (.int .i64 s.ops) nv yv 196
  have hcon := containsFunc_any 182 #[.pointer (some ⟨w.heap.size, 0, none⟩)] (fun n => !inM s.ops n) _ xs W0 entered182 (HX.grew g0)
    (fun i hi w' hw => calls1_any _ s.ops _ w' h1 h2 ((hw.cell (p := ⟨w.heap.size, 1, none⟩) hz).trans k1))
  have HCON := hid hcon; clear hcon
  go_enter Tryz.func160, Tryz.ntmps160
  go_wp2_with (go_at_call 99; with_reducible refine HCON.out.mono ?_; rintro e w1 ⟨rfl, hx⟩)
  go_ret
  refine ⟨ret_bool ?_, (by repeat' (first | exact grew_refl _ | assumption | refine grew_alloc ?_ _ | refine Below.setCell ?_ (by (try simp); omega) _ | refine grew_drewN ?_ _ | refine grew_drew ?_ | refine grew_trans ?_ (by assumption)))⟩
  simp [List.any_eq_not_all_not]

set_option maxHeartbeats 1000000 in
theorem word_any (s : RSpec) (sv v : Value) (xs : List Int) (w : World) (h1 : 1 ≤ s.ops) (h2 : s.ops ≤ 8) (hs : IsSpec w sv s) (hx : IsInts Any w v xs) :
    Calls Tryz.prog 134 #[sv, v] w fun e w' => e = .returned (.bool (isWordM s.ops xs)) ∧ Grew w w' := by
  have HS := hs
  obtain ⟨nv, yv, rfl, _, _⟩ := hs
  have HX := hx
  obtain ⟨a, cap, rfl, hm, hc⟩ := hx
  clear hc
  obtain ⟨W0, hW0, g0, k0, k1, k2, k3, hz⟩ := box4 w (.int .i64 s.st) (.int .i64 s.ops) nv yv 196
  have hg := grew_refl W0
  by_cases hl : (xs.length : Int) ≤ 20
  · have HL := hid hl
    go_enter Tryz.func134, Tryz.ntmps134
    go_wp2_with (go_at_call 160; with_reducible refine (calls_any s _ _ xs _ h1 h2 (HS.grew (by exact grew_trans g0 hg)) (HX.grew (by exact grew_trans g0 hg))).mono ?_; rintro e w1 ⟨rfl, hx⟩; replace hg := grew_trans hg hx; have hc := (bcell hg).1)
    all_goals (go_ret; refine ⟨ret_bool ?_, (by repeat' (first | exact grew_refl _ | assumption | refine grew_alloc ?_ _ | refine Below.setCell ?_ (by (try simp); omega) _ | refine grew_drewN ?_ _ | refine grew_drew ?_ | refine grew_trans ?_ (by assumption)))⟩)
    all_goals (unfold isWordM; rw [show decide (xs.length ≤ 20) = true by have := HL.out; simp; omega]; simp)
  · have HL := hid hl
    go_enter Tryz.func134, Tryz.ntmps134
    go_wp2
    go_ret
    refine ⟨ret_bool ?_, (by repeat' (first | exact grew_refl _ | assumption | refine grew_alloc ?_ _ | refine Below.setCell ?_ (by (try simp); omega) _ | refine grew_drewN ?_ _ | refine grew_drew ?_ | refine grew_trans ?_ (by assumption)))⟩
    unfold isWordM
    rw [show decide (xs.length ≤ 20) = false by have := HL.out; simp; omega]; simp

abbrev zeroSpec : Value := .agg #[.int .i64 0, .int .i64 0, .slice none 0 0, .slice none 0 0]

set_option maxHeartbeats 1000000 in
theorem opened_bad (s : RSpec) (sv fv : Value) (w : World) (hs : IsSpec w sv s) (hv : validM s = false) :
    Calls Tryz.prog 131 #[sv, fv] w fun e w' => e = .returned (.tuple #[zeroSpec, .int .i64 10]) ∧ Grew w w' := by
  have HS := hs
  obtain ⟨nv, yv, rfl, hn, hy⟩ := hs
  obtain ⟨W0, hW0, g0, k0, k1, k2, k3, hz⟩ := box4 w (.int .i64 s.st) (.int .i64 s.ops) nv yv 166
  obtain ⟨W1, hW1, g1, l0, l1, l2, l3, hz1, lf⟩ := boxf4 W0 (.int .i64 0) (.int .i64 0) (.slice none 0 0) (.slice none 0 0) 196
  have hza : w.heap.size < W1.heap.size := Nat.lt_of_lt_of_le hz g1.size
  have m0 := (g1.cell (p := ⟨w.heap.size, 0, none⟩) hz).trans k0
  have m1 := (g1.cell (p := ⟨w.heap.size, 1, none⟩) hz).trans k1
  have m2 := (g1.cell (p := ⟨w.heap.size, 2, none⟩) hz).trans k2
  have m3 := (g1.cell (p := ⟨w.heap.size, 3, none⟩) hz).trans k3
  clear k0 k1 k2 k3
  have g01 := grew_trans g0 g1
  have hg := grew_refl W1
  go_enter Tryz.func131, Tryz.ntmps131
  go_wp2_with (go_at_call 157; with_reducible refine (valid_any s _ _ (HS.grew (by exact g01))).mono ?_; rw [hv]; rintro e w1 ⟨rfl, hx⟩; replace hg := grew_trans hg hx; obtain ⟨hc, hcf⟩ := bcell hg)
  (try simp only [Exit.inBlock, Exit.then])
  refine bodyPost_ret (v := .tuple #[zeroSpec, .int .i64 10]) ?_ rfl ?_
  · simp [results, Tryz.results131, go_sem, hc, l0, l1, l2, l3, hz1]
  · exact ⟨rfl, (by repeat' (first | exact grew_refl _ | assumption | refine grew_alloc ?_ _ | refine Below.setCell ?_ (by (try simp); omega) _ | refine grew_drewN ?_ _ | refine grew_drew ?_ | refine grew_trans ?_ (by assumption)))⟩

set_option maxHeartbeats 1000000 in
theorem opened_arg (s : RSpec) (sv : Value) (g : Nat) (caps : Array Value) (w : World) (hs : IsSpec w sv s) (hv : validM s = true) (hcf : Entered g) (hp : Says g caps sv false w) :
    Calls Tryz.prog 131 #[sv, .func (.func g) #[] caps] w fun e w' => e = .returned (.tuple #[zeroSpec, .int .i64 2]) ∧ Grew w w' := by
  have HS := hs
  obtain ⟨nv, yv, rfl, hn, hy⟩ := hs
  obtain ⟨W0, hW0, g0, k0, k1, k2, k3, hz⟩ := box4 w (.int .i64 s.st) (.int .i64 s.ops) nv yv 166
  obtain ⟨W1, hW1, g1, l0, l1, l2, l3, hz1, lf⟩ := boxf4 W0 (.int .i64 0) (.int .i64 0) (.slice none 0 0) (.slice none 0 0) 196
  have hza : w.heap.size < W1.heap.size := Nat.lt_of_lt_of_le hz g1.size
  have m0 := (g1.cell (p := ⟨w.heap.size, 0, none⟩) hz).trans k0
  have m1 := (g1.cell (p := ⟨w.heap.size, 1, none⟩) hz).trans k1
  have m2 := (g1.cell (p := ⟨w.heap.size, 2, none⟩) hz).trans k2
  have m3 := (g1.cell (p := ⟨w.heap.size, 3, none⟩) hz).trans k3
  clear k0 k1 k2 k3
  have g01 := grew_trans g0 g1
  have hg := grew_refl W1
  have HP := hid hp; clear hp
  have hcf' : ∀ args w, (callFunc g args).run Tryz.prog w = .ok (.enter g args) w := hcf
  clear hcf
  go_enter Tryz.func131, Tryz.ntmps131
  go_wp2_with (first | (go_at_call 157; with_reducible refine (valid_any s _ _ (HS.grew (by exact g01))).mono ?_; rw [hv]; rintro e w1 ⟨rfl, hx⟩; replace hg := grew_trans hg hx; obtain ⟨hc, hcf⟩ := bcell hg) | (refine (show Calls _ _ _ _ _ from HP.out _ (grew_trans g01 hg)).mono ?_; rintro e w2 ⟨rfl, hx⟩; replace hg := grew_trans hg hx; obtain ⟨hc, hcf⟩ := bcell hg))
  (try simp only [Exit.inBlock, Exit.then])
  refine bodyPost_ret (v := .tuple #[zeroSpec, .int .i64 2]) ?_ rfl ?_
  · simp [results, Tryz.results131, go_sem, hc, l0, l1, l2, l3, hz1]
  · exact ⟨rfl, (by repeat' (first | exact grew_refl _ | assumption | refine grew_alloc ?_ _ | refine Below.setCell ?_ (by (try simp); omega) _ | refine grew_drewN ?_ _ | refine grew_drew ?_ | refine grew_trans ?_ (by assumption)))⟩

set_option maxHeartbeats 1000000 in
theorem opened_ok (s : RSpec) (sv : Value) (g : Nat) (caps : Array Value) (w : World) (hs : IsSpec w sv s) (hv : validM s = true) (hcf : Entered g) (hp : Says g caps sv true w) :
    Calls Tryz.prog 131 #[sv, .func (.func g) #[] caps] w fun e w' => e = .returned (.tuple #[sv, .int .i64 0]) ∧ Grew w w' := by
  have HS := hs
  obtain ⟨nv, yv, rfl, ⟨V, ⟨na, nc, rfl, _, _⟩, _⟩, ⟨V2, ⟨ya, yc, rfl, _, _⟩, _⟩⟩ := hs
  obtain ⟨W0, hW0, g0, k0, k1, k2, k3, hz⟩ := box4 w (.int .i64 s.st) (.int .i64 s.ops) (.slice na s.next.length nc) (.slice ya s.says.length yc) 166
  obtain ⟨W1, hW1, g1, l0, l1, l2, l3, hz1, lf⟩ := boxf4 W0 (.int .i64 0) (.int .i64 0) (.slice none 0 0) (.slice none 0 0) 196
  have hza : w.heap.size < W1.heap.size := Nat.lt_of_lt_of_le hz g1.size
  have m0 := (g1.cell (p := ⟨w.heap.size, 0, none⟩) hz).trans k0
  have m1 := (g1.cell (p := ⟨w.heap.size, 1, none⟩) hz).trans k1
  have m2 := (g1.cell (p := ⟨w.heap.size, 2, none⟩) hz).trans k2
  have m3 := (g1.cell (p := ⟨w.heap.size, 3, none⟩) hz).trans k3
  clear k0 k1 k2 k3
  have g01 := grew_trans g0 g1
  have hg := grew_refl W1
  have HP := hid hp; clear hp
  have hcf' : ∀ args w, (callFunc g args).run Tryz.prog w = .ok (.enter g args) w := hcf
  clear hcf
  go_enter Tryz.func131, Tryz.ntmps131
  go_wp2_with (first | (go_at_call 157; with_reducible refine (valid_any s _ _ (HS.grew (by exact g01))).mono ?_; rw [hv]; rintro e w1 ⟨rfl, hx⟩; replace hg := grew_trans hg hx; obtain ⟨hc, hcf⟩ := bcell hg) | (refine (show Calls _ _ _ _ _ from HP.out _ (grew_trans g01 hg)).mono ?_; rintro e w2 ⟨rfl, hx⟩; replace hg := grew_trans hg hx; obtain ⟨hc, hcf⟩ := bcell hg))
  (try simp only [Exit.inBlock, Exit.then])
  refine bodyPost_ret (v := .tuple #[.agg #[.int .i64 s.st, .int .i64 s.ops, .slice na s.next.length nc, .slice ya s.says.length yc], .int .i64 0]) ?_ rfl ?_
  · simp [results, Tryz.results131, go_sem, hc, l0, l1, l2, l3, hz1]
  · exact ⟨rfl, (by repeat' (first | exact grew_refl _ | assumption | refine grew_alloc ?_ _ | refine Below.setCell ?_ (by (try simp); omega) _ | refine grew_drewN ?_ _ | refine grew_drew ?_ | refine grew_trans ?_ (by assumption)))⟩
end Go.Proofs.YtmohnddglmolgaaGreatDoor.Ks
namespace Go.Lin.Sp

theorem ofN_toN {xs : List Int} (h : ∀ x ∈ xs, 0 ≤ x) : ofN (toN xs) = xs := by
  unfold ofN toN
  rw [List.map_map]
  conv => rhs; rw [← List.map_id xs]
  apply List.map_congr_left
  intro x hx
  have := h x hx
  simp only [Function.comp, id]; omega

theorem isNats_of_ints {S : Nat → Obj → Prop} {w : World} {v : Value} {xs : List Int} (h : IsInts S w v xs) (h0 : ∀ x ∈ xs, 0 ≤ x) : IsNats S w v (toN xs) := by
  have hl : (toN xs).length = xs.length := by simp [toN]
  unfold IsNats
  rw [hl]
  refine Reads.congr h (fun i hi => ?_)
  have : nth xs i = ((nthN (toN xs) i : Nat) : Int) := by rw [← nth_ofN, ofN_toN h0]
  rw [this]

theorem word_facts {ops : Int} {xs : List Int} (h : isWordM ops xs = true) : (∀ x ∈ xs, 0 ≤ x ∧ x < ops) ∧ xs.length ≤ 20 := by
  unfold isWordM inM at h
  simpa using h

theorem okW_toN {s : RSpec} {xs : List Int} (h : isWordM s.ops xs = true) : OkW (machOf s).k (toN xs) := by
  intro x hx
  obtain ⟨y, hy, rfl⟩ := List.mem_map.1 hx
  have := (word_facts h).1 y hy
  simp only [machOf]; omega

/-- What Run answers. -/
def runE (s : RSpec) (a : Int) (ws : List Int) : Int := if validM s then if inM s.st a && isWordM s.ops ws then 0 else 2 else 10
def runTo (s : RSpec) (a : Int) (ws : List Int) : Int := if runE s a ws = 0 then (stM (machOf s) a.toNat (toN ws) : Int) else 0
def runL (s : RSpec) (a : Int) (ws : List Int) : List Int := if runE s a ws = 0 then anM (machOf s) a.toNat (toN ws) else []
/-- What Tells answers. -/
def tellsE (s : RSpec) (a b : Int) (ws : List Int) : Int := if validM s then if (inM s.st a && inM s.st b) && isWordM s.ops ws then 0 else 2 else 10
def tellsB (s : RSpec) (a b : Int) (ws : List Int) : Bool := if tellsE s a b ws = 0 then !sameL (anM (machOf s) a.toNat (toN ws)) (anM (machOf s) b.toNat (toN ws)) else false

theorem runE_zero {s : RSpec} {a : Int} {ws : List Int} (h : runE s a ws = 0) : validM s = true ∧ inM s.st a = true ∧ isWordM s.ops ws = true := by
  unfold runE at h
  cases hv : validM s <;> cases hi : inM s.st a <;> cases hw : isWordM s.ops ws <;> rw [hv, hi, hw] at h <;> first | exact ⟨rfl, rfl, rfl⟩ | cases h

theorem tellsE_zero {s : RSpec} {a b : Int} {ws : List Int} (h : tellsE s a b ws = 0) : validM s = true ∧ inM s.st a = true ∧ inM s.st b = true ∧ isWordM s.ops ws = true := by
  unfold tellsE at h
  cases hv : validM s <;> cases hi : inM s.st a <;> cases hj : inM s.st b <;> cases hw : isWordM s.ops ws <;> rw [hv, hi, hj, hw] at h <;> first | exact ⟨rfl, rfl, rfl, rfl⟩ | cases h

/-- What a walk of a word is handed. -/
theorem run_ready {s : RSpec} {a : Int} {ws : List Int} (hv : validM s = true) (hi : inM s.st a = true) (hw : isWordM s.ops ws = true) :
    (machOf s).WF ∧ a.toNat < (machOf s).n ∧ OkW (machOf s).k (toN ws) ∧ (toN ws).length ≤ 100 ∧ (∀ x ∈ ws, 0 ≤ x) ∧ (a.toNat : Int) = a := by
  have hin : 0 ≤ a ∧ a < s.st := by unfold inM at hi; simpa using hi
  have hf := word_facts hw
  refine ⟨wf_machOf hv, by simp only [machOf]; omega, okW_toN hw, by have := hf.2; simp [toN]; omega, fun x hx => (hf.1 x hx).1, by omega⟩

theorem isSpec_open' {w : World} {u : Value} {R : RSpec} (h : IsSpec w u R) : ∃ na nc ya yc, u = .agg #[.int .i64 R.st, .int .i64 R.ops, .slice na R.next.length nc, .slice ya R.says.length yc] := by
  obtain ⟨_, _, rfl, ⟨_, ⟨na, nc, rfl, _, _⟩, _⟩, ⟨_, ⟨ya, yc, rfl, _, _⟩, _⟩⟩ := h
  exact ⟨_, _, _, _, rfl⟩

end Go.Lin.Sp
namespace Go.Proofs.YtmohnddglmolgaaGreatDoor.Ks
open Go.RowKit Go.Lin Go.Lin.Sp

theorem entered132 : Entered 132 := fun _ _ => by kernel_rfl
set_option maxHeartbeats 1000000 in
theorem run1_any (s : RSpec) (sv v : Value) (B C : Nat) (a : Int) (ws : List Int) (w : World) (h1 : 1 ≤ s.st) (h2 : s.st ≤ 8) (o1 : 1 ≤ s.ops) (o2 : s.ops ≤ 8) (hs : IsSpec w sv s) (hB : w.cell? ⟨B, 0, none⟩ = some (.int .i64 a)) (hC : w.cell? ⟨C, 0, none⟩ = some v) (hx : IsInts Any w v ws) :
    Says 132 #[.pointer (some ⟨B, 0, none⟩), .pointer (some ⟨C, 0, none⟩)] sv (inM s.st a && isWordM s.ops ws) w := by
  intro w' hw
  have hB' := (hw.cell (p := ⟨B, 0, none⟩) (World.block_lt_of_cell? w _ hB)).trans hB
  have hC' := (hw.cell (p := ⟨C, 0, none⟩) (World.block_lt_of_cell? w _ hC)).trans hC
  have HS := hs.grew hw
  have HX := hx.grew hw
  obtain ⟨nv, yv, rfl, _, _⟩ := hs
  obtain ⟨va, vc, rfl, _, _⟩ := hx
  clear hB hC hw
  obtain ⟨W0, hW0, g0, k0, k1, k2, k3, hz⟩ := box4 w' (.int .i64 s.st) (.int .i64 s.ops) nv yv 196
  have hltB := World.block_lt_of_cell? w' _ hB'
  have hltC := World.block_lt_of_cell? w' _ hC'
  have hB0 := (g0.cell (p := ⟨B, 0, none⟩) hltB).trans hB'
  have hC0 := (g0.cell (p := ⟨C, 0, none⟩) hltC).trans hC'
  obtain ⟨W1, hW1, g1, l0, hz1⟩ := box1 W0 (.int .i64 a) 3
  have m0 := (g1.cell (p := ⟨w'.heap.size, 0, none⟩) hz).trans k0
  have m1 := (g1.cell (p := ⟨w'.heap.size, 1, none⟩) hz).trans k1
  have m2 := (g1.cell (p := ⟨w'.heap.size, 2, none⟩) hz).trans k2
  have m3 := (g1.cell (p := ⟨w'.heap.size, 3, none⟩) hz).trans k3
  have hC1 := (g1.cell (p := ⟨C, 0, none⟩) (Nat.lt_of_lt_of_le hltC g0.size)).trans hC0
  have hltC1 : C < W1.heap.size := Nat.lt_of_lt_of_le hltC (Nat.le_trans g0.size g1.size)
  have hzm : w'.heap.size < W1.heap.size := Nat.lt_of_lt_of_le hz g1.size
  have hone : IsInts Any W1 (.slice (some ⟨W0.heap.size, 0, none⟩) 1 1) [a] := ⟨_, _, rfl, by simp, fun i hi => by
    have hi' : i = 0 := by simpa using hi
    subst hi'
    exact ⟨_, _, _, rfl, Array.getElem?_eq_getElem hz1, trivial, by simpa [nth] using l0⟩⟩
  have hst := state_any s _ _ _ W1 h1 h2 ((HS.grew g0).grew g1) hone
  simp only [List.all_cons, List.all_nil, Bool.and_true] at hst
  have HW := hid (fun (y : World) (hy : Grew W1 y) => word_any s _ _ ws y o1 o2 (((HS.grew g0).grew g1).grew hy) (((HX.grew g0).grew g1).grew hy))
  cases hi : inM s.st a <;> rw [hi] at hst
  · have HST := hid hst; clear hone hst hi
    go_enter Tryz.func132, Tryz.ntmps132
    go_wp2_with (go_at_call 133; with_reducible refine HST.out.mono ?_; rintro e w1 ⟨rfl, hx⟩; have hc := (bcell hx).1)
    go_ret
    exact ⟨ret_bool rfl, grew_trans (grew_trans g0 g1) hx⟩
  · have HST := hid hst; clear hone hst hi
    rw [Bool.true_and]
    go_enter Tryz.func132, Tryz.ntmps132
    go_wp2_with (first | (go_at_call 133; with_reducible refine HST.out.mono ?_; rintro e w1 ⟨rfl, hx⟩; have hc := (bcell hx).1) | (go_at_call 134; with_reducible refine (HW.out _ hx).mono ?_; rintro e w2 ⟨rfl, hx2⟩))
    go_ret
    exact ⟨rfl, grew_trans (grew_trans g0 g1) (grew_trans hx hx2)⟩

/-- What 'opened' answers of a state and a word. -/
theorem opened_run (s : RSpec) (sv v : Value) (B C : Nat) (a : Int) (ws : List Int) (w : World) (hs : IsSpec w sv s) (hB : w.cell? ⟨B, 0, none⟩ = some (.int .i64 a)) (hC : w.cell? ⟨C, 0, none⟩ = some v) (hx : IsInts Any w v ws) :
    Calls Tryz.prog 131 #[sv, .func (.func 132) #[] #[.pointer (some ⟨B, 0, none⟩), .pointer (some ⟨C, 0, none⟩)]] w fun e w' => e = .returned (.tuple #[if runE s a ws = 0 then sv else zeroSpec, .int .i64 (runE s a ws)]) ∧ Grew w w' := by
  cases hv : validM s with
  | false =>
    have he : runE s a ws = 10 := by unfold runE; rw [hv]; rfl
    rw [he]; exact opened_bad s _ _ _ hs hv
  | true =>
    obtain ⟨⟨b1, b2, b3, b4⟩, _⟩ := valid_parts hv
    have h := run1_any s _ _ _ _ a ws w b1 b2 b3 (by omega) hs hB hC hx
    cases hi : inM s.st a && isWordM s.ops ws with
    | false =>
      have he : runE s a ws = 2 := by unfold runE; rw [hv, hi]; rfl
      rw [he]; rw [hi] at h
      exact opened_arg s _ _ _ _ hs hv entered132 h
    | true =>
      have he : runE s a ws = 0 := by unfold runE; rw [hv, hi]; rfl
      rw [he]; rw [hi] at h
      exact opened_ok s _ _ _ _ hs hv entered132 h

theorem ints_of_seg {w : World} {base : Nat} {u : Value} {xs : List Int} {n : Nat} (h : Seg w base 3 1 u n (xs.map (.int .i64))) : IsInts Any w u xs := h.isInts.any

set_option maxHeartbeats 2000000 in
theorem runOf_any (s : RSpec) (a : Int) (ws : List Int) (sv v : Value) (w : World) (hs : IsSpec w sv s) (hx : IsInts Any w v ws) :
    Calls Tryz.prog 114 #[sv, .int .i64 a, v] w fun e w' => ∃ u, e = .returned (.tuple #[u, .int .i64 (runTo s a ws), .int .i64 (runE s a ws)]) ∧ IsInts Any w' u (runL s a ws) ∧ Grew w w' := by
  have HS := hs
  have HX := hx
  have HM := hid (fun hv => hs.isMach hv)
  obtain ⟨na, nc, ya, yc, rfl⟩ := isSpec_open' hs
  clear hs
  obtain ⟨va, vc, rfl, _, _⟩ := hx
  obtain ⟨W0, hW0, g0, k0, k1, k2, k3, hz⟩ := box4 w (.int .i64 s.st) (.int .i64 s.ops) (.slice na s.next.length nc) (.slice ya s.says.length yc) 166
  obtain ⟨W1, hW1, g1, l0, hz1⟩ := box1 W0 (.int .i64 a) 3
  obtain ⟨W2, hW2, g2, m0, hz2⟩ := box1 W1 (.slice va ws.length vc) 39
  have g02 := grew_trans g0 (grew_trans g1 g2)
  have e0 := (g2.cell (p := ⟨W0.heap.size, 0, none⟩) hz1).trans l0
  have r0 := ((grew_trans g1 g2).cell (p := ⟨w.heap.size, 0, none⟩) hz).trans k0
  have r1 := ((grew_trans g1 g2).cell (p := ⟨w.heap.size, 1, none⟩) hz).trans k1
  have r2 := ((grew_trans g1 g2).cell (p := ⟨w.heap.size, 2, none⟩) hz).trans k2
  have r3 := ((grew_trans g1 g2).cell (p := ⟨w.heap.size, 3, none⟩) hz).trans k3
  clear k0 k1 k2 k3
  have hop := opened_run s _ _ _ _ a ws W2 (HS.grew g02) e0 m0 (HX.grew g02)
  have hz0 : w.heap.size < W2.heap.size := by have := g1.size; have := g2.size; omega
  have hz3 : W0.heap.size < W2.heap.size := by have := g2.size; omega
  by_cases hok : runE s a ws = 0
  · obtain ⟨hv, hi, hw⟩ := runE_zero hok
    obtain ⟨hwf, hlt, hokw, hl100, hpos, hcast⟩ := run_ready hv hi hw
    have hto : runTo s a ws = (stM (machOf s) a.toNat (toN ws) : Int) := by unfold runTo; rw [if_pos hok]
    have hli : runL s a ws = anM (machOf s) a.toNat (toN ws) := by unfold runL; rw [if_pos hok]
    rw [if_pos hok, hok] at hop
    rw [hok, hto, hli]
    have hlen : (toN ws).length = ws.length := by simp [toN]
    have HOP := hid hop; clear hop
    have hm := HM.out hv
    obtain ⟨M, hM⟩ : ∃ M, machOf s = M := ⟨_, rfl⟩
    rw [hM] at hwf hlt hokw hm ⊢
    have hrun := fun (y : World) (hy : Grew w y) => run_any M hwf _ _ a.toNat (toN ws) y hlt hokw hl100 (hm.grew hy) ((isNats_of_ints HX hpos).grew hy)
    rw [hcast] at hrun
    have HRUN := hid hrun
    clear hrun hm hwf hlt hokw hl100 hok hto hli hM hv hi hw hpos hcast HM
    have HLEN := hid hlen; clear hlen
    go_enter Tryz.func114, Tryz.ntmps114
    go_wp2_with (first
      | (go_at_call 131; with_reducible refine HOP.out.mono ?_; rintro e w1 ⟨rfl, hx⟩; have hc := (bcell hx).1; have hlt0 : W0.heap.size < w1.heap.size := Nat.lt_of_lt_of_le hz3 hx.size; have hlt1 : W1.heap.size < w1.heap.size := Nat.lt_of_lt_of_le hz2 hx.size)
      | (go_at_call 135; with_reducible refine (HRUN.out _ (grew_alloc (grew_trans g02 hx) _)).mono ?_; rintro e w2 ⟨u, rfl, hseg, hg2⟩; have HSEG := hid hseg; clear hseg))
    go_ret3
    refine ⟨u, rfl, ints_of_seg HSEG.out, ?_⟩
    exact grew_trans (grew_alloc (grew_trans g02 hx) _) hg2
  · have hto : runTo s a ws = 0 := by unfold runTo; rw [if_neg hok]
    have hli : runL s a ws = [] := by unfold runL; rw [if_neg hok]
    rw [if_neg hok] at hop
    rw [hto, hli]
    obtain ⟨ev, hev⟩ : ∃ ev, runE s a ws = ev := ⟨_, rfl⟩
    rw [hev] at hop hok ⊢
    have hb : (ev != 0) = true := by simpa using hok
    have HOP := hid hop; clear hop hev hok hto hli HM
    go_enter Tryz.func114, Tryz.ntmps114
    go_wp2_with (go_at_call 131; with_reducible refine HOP.out.mono ?_; rintro e w1 ⟨rfl, hx⟩)
    go_ret3
    exact ⟨_, rfl, Reads.nil _ _ _ _ _, grew_alloc (grew_trans g02 hx) _⟩

set_option maxHeartbeats 2000000 in
theorem refRunOf_any (s : RSpec) (a : Int) (ws : List Int) (sv v : Value) (w : World) (hs : IsSpec w sv s) (hx : IsInts Any w v ws) :
    Calls Tryz.prog 108 #[sv, .int .i64 a, v] w fun e w' => ∃ u, e = .returned (.tuple #[u, .int .i64 (runTo s a ws), .int .i64 (runE s a ws)]) ∧ IsInts Any w' u (runL s a ws) ∧ Grew w w' := by
  have HS := hs
  have HX := hx
  have HM := hid (fun hv => hs.isMach hv)
  obtain ⟨na, nc, ya, yc, rfl⟩ := isSpec_open' hs
  clear hs
  obtain ⟨va, vc, rfl, _, _⟩ := hx
  obtain ⟨W0, hW0, g0, k0, k1, k2, k3, hz⟩ := box4 w (.int .i64 s.st) (.int .i64 s.ops) (.slice na s.next.length nc) (.slice ya s.says.length yc) 166
  have HV := hid (fun (y : World) (hy : Grew w y) => refValid_any s _ y (HS.grew hy))
  have HI := hid (fun (y : World) (hy : Grew w y) => isState_any s _ a y (HS.grew hy))
  have HW := hid (fun (y : World) (hy : Grew w y) => isWord_any s _ _ ws y (HS.grew hy) (HX.grew hy))
  have hg := grew_refl W0
  by_cases hok : runE s a ws = 0
  · obtain ⟨hv, hi, hw⟩ := runE_zero hok
    obtain ⟨hwf, hlt, hokw, hl100, hpos, hcast⟩ := run_ready hv hi hw
    have hto : runTo s a ws = (stM (machOf s) a.toNat (toN ws) : Int) := by unfold runTo; rw [if_pos hok]
    have hli : runL s a ws = anM (machOf s) a.toNat (toN ws) := by unfold runL; rw [if_pos hok]
    rw [hok, hto, hli]
    rw [hv] at HV; rw [hi] at HI; rw [hw] at HW
    have hm := HM.out hv
    obtain ⟨M, hM⟩ : ∃ M, machOf s = M := ⟨_, rfl⟩
    rw [hM] at hwf hlt hokw hm ⊢
    have hrun := fun (y : World) (hy : Grew w y) => refRun_any M hwf _ _ a.toNat (toN ws) y hlt hokw hl100 (hm.grew hy) ((isNats_of_ints HX hpos).grew hy)
    rw [hcast] at hrun
    have HRUN := hid hrun
    clear hrun hm hwf hlt hokw hl100 hok hto hli hM hv hi hw hpos hcast HM
    go_enter Tryz.func108, Tryz.ntmps108
    go_wp2_with (first
      | (go_at_call 122; with_reducible refine (HV.out _ (grew_trans g0 hg)).mono ?_; rintro e w1 ⟨rfl, hx⟩; replace hg := grew_trans hg hx; have hc := (bcell hg).1; clear hx)
      | (go_at_call 123; with_reducible refine (HI.out _ (grew_trans g0 hg)).mono ?_; rintro e w1 ⟨rfl, hx⟩; replace hg := grew_trans hg hx; have hc := (bcell hg).1; clear hx)
      | (go_at_call 124; with_reducible refine (HW.out _ (grew_trans g0 hg)).mono ?_; rintro e w1 ⟨rfl, hx⟩; replace hg := grew_trans hg hx; have hc := (bcell hg).1; clear hx)
      | (go_at_call 125; with_reducible refine (HRUN.out _ (grew_trans g0 hg)).mono ?_; rintro e w2 ⟨u, rfl, hseg, hg2⟩; have HSEG := hid hseg; clear hseg))
    go_ret3
    exact ⟨u, rfl, ints_of_seg HSEG.out, grew_trans (grew_trans g0 hg) hg2⟩
  · have hto : runTo s a ws = 0 := by unfold runTo; rw [if_neg hok]
    have hli : runL s a ws = [] := by unfold runL; rw [if_neg hok]
    rw [hto, hli]
    clear hto hli HM
    cases hv : validM s <;> cases hi : inM s.st a <;> cases hw : isWordM s.ops ws
    all_goals (first | (exact absurd (by unfold runE; rw [hv, hi, hw]; rfl) hok) | skip)
    all_goals
      have he : runE s a ws = if validM s then 2 else 10 := by unfold runE; rw [hv, hi, hw]; rfl
      rw [hv] at HV he; rw [hi] at HI; rw [hw] at HW
      rw [he]
      clear he hv hi hw hok
      go_enter Tryz.func108, Tryz.ntmps108
      go_wp2_with (first
        | (go_at_call 122; with_reducible refine (HV.out _ (grew_trans g0 hg)).mono ?_; rintro e w1 ⟨rfl, hx⟩; replace hg := grew_trans hg hx; have hc := (bcell hg).1; clear hx)
        | (go_at_call 123; with_reducible refine (HI.out _ (grew_trans g0 hg)).mono ?_; rintro e w1 ⟨rfl, hx⟩; replace hg := grew_trans hg hx; have hc := (bcell hg).1; clear hx)
        | (go_at_call 124; with_reducible refine (HW.out _ (grew_trans g0 hg)).mono ?_; rintro e w1 ⟨rfl, hx⟩; replace hg := grew_trans hg hx; have hc := (bcell hg).1; clear hx))
      go_ret3
      exact ⟨_, rfl, Reads.nil _ _ _ _ _, grew_trans g0 hg⟩
end Go.Proofs.YtmohnddglmolgaaGreatDoor.Ks
