/- The plain side of layer 1: specifications as data. -/
import Derived.Test.YtnebpcpihldllaaBase
namespace Go.Lin

/-- The i-th list (empty behind the end). -/
def nthL (xss : List (List Int)) (i : Nat) : List Int := xss.getD i []

theorem nthL_lt {xs : List (List Int)} {i : Nat} (h : i < xs.length) : nthL xs i = xs[i] := by
  simp [nthL, List.getD, List.getElem?_eq_getElem h]

/-- A slice of slices of ints. -/
def IsRows (S : Nat → Obj → Prop) (w : World) (v : Value) (rows : List (List Int)) : Prop :=
  ∃ V : Nat → Value, Reads S w v rows.length V ∧ ∀ i, i < rows.length → IsInts S w (V i) (nthL rows i)

theorem IsRows.any {S : Nat → Obj → Prop} {w : World} {v : Value} {rows : List (List Int)} (h : IsRows S w v rows) : IsRows Any w v rows := by
  obtain ⟨V, h1, h2⟩ := h
  exact ⟨V, h1.any, fun i hi => (h2 i hi).any⟩

theorem IsRows.grew {S : Nat → Obj → Prop} {w w' : World} {v : Value} {rows : List (List Int)} (h : IsRows S w v rows) (hg : Grew w w') : IsRows S w' v rows := by
  obtain ⟨V, h1, h2⟩ := h
  exact ⟨V, h1.grew hg, fun i hi => (h2 i hi).grew hg⟩

/-- A specification as it comes in. -/
structure RSpec where
  st : Int
  ops : Int
  next : List (List Int)
  says : List (List Int)

def IsSpec (w : World) (v : Value) (s : RSpec) : Prop :=
  ∃ nv yv, v = .agg #[.int .i64 s.st, .int .i64 s.ops, nv, yv] ∧ IsRows Any w nv s.next ∧ IsRows Any w yv s.says

theorem IsSpec.grew {w w' : World} {v : Value} {s : RSpec} (h : IsSpec w v s) (hg : Grew w w') : IsSpec w' v s := by
  obtain ⟨nv, yv, hv, h1, h2⟩ := h
  exact ⟨nv, yv, hv, h1.grew hg, h2.grew hg⟩

/-- The k-th row has the right length, and each number of it is below the limit. -/
def rowOK (ops limit : Int) (row : List Int) : Bool := decide ((row.length : Int) = ops) && row.all fun n => decide (0 ≤ n ∧ n < limit)

def isTableM (st ops : Int) (l : List (List Int)) (limit : Int) : Bool := decide ((l.length : Int) = st) && l.all (rowOK ops limit)

def validM (s : RSpec) : Bool := decide (1 ≤ s.st ∧ s.st ≤ 8 ∧ 1 ≤ s.ops ∧ s.ops ≤ 4) && isTableM s.st s.ops s.next s.st && isTableM s.st s.ops s.says 6

theorem all_nth {xs : List Int} {p : Int → Bool} (h : ∀ i, i < xs.length → p (nth xs i) = true) : xs.all p = true := by
  rw [List.all_eq_true]
  intro x hx
  obtain ⟨i, hi, rfl⟩ := List.getElem_of_mem hx
  have := h i hi
  rwa [nth_lt hi] at this

theorem all_nth_false {xs : List Int} {p : Int → Bool} {i : Nat} (hi : i < xs.length) (h : p (nth xs i) = false) : xs.all p = false := by
  rw [List.all_eq_false]
  exact ⟨nth xs i, by rw [nth_lt hi]; exact List.getElem_mem hi, by simp [h]⟩

theorem all_nthL {xs : List (List Int)} {p : List Int → Bool} (h : ∀ i, i < xs.length → p (nthL xs i) = true) : xs.all p = true := by
  rw [List.all_eq_true]
  intro x hx
  obtain ⟨i, hi, rfl⟩ := List.getElem_of_mem hx
  have := h i hi
  rwa [nthL_lt hi] at this

theorem all_nthL_false {xs : List (List Int)} {p : List Int → Bool} {i : Nat} (hi : i < xs.length) (h : p (nthL xs i) = false) : xs.all p = false := by
  rw [List.all_eq_false]
  exact ⟨nthL xs i, by rw [nthL_lt hi]; exact List.getElem_mem hi, by simp [h]⟩

theorem rowOK_true {ops limit : Int} {row : List Int} (hl : (row.length : Int) = ops) (h : ∀ i, i < row.length → 0 ≤ nth row i ∧ nth row i < limit) : rowOK ops limit row = true := by
  unfold rowOK
  rw [Bool.and_eq_true]
  exact ⟨by simpa using hl, all_nth (fun i hi => by simpa using h i hi)⟩

theorem rowOK_len {ops limit : Int} {row : List Int} (hl : ¬ (row.length : Int) = ops) : rowOK ops limit row = false := by
  unfold rowOK; simp [hl]

theorem rowOK_num {ops limit : Int} {row : List Int} {i : Nat} (hi : i < row.length) (h : ¬ (0 ≤ nth row i ∧ nth row i < limit)) : rowOK ops limit row = false := by
  unfold rowOK
  rw [all_nth_false hi (by simpa using h), Bool.and_false]

theorem isTableM_true {st ops limit : Int} {l : List (List Int)} (hl : (l.length : Int) = st) (h : ∀ i, i < l.length → rowOK ops limit (nthL l i) = true) : isTableM st ops l limit = true := by
  unfold isTableM
  rw [Bool.and_eq_true]
  exact ⟨by simpa using hl, all_nthL h⟩

theorem isTableM_len {st ops limit : Int} {l : List (List Int)} (hl : ¬ (l.length : Int) = st) : isTableM st ops l limit = false := by
  unfold isTableM; simp [hl]

theorem isTableM_row {st ops limit : Int} {l : List (List Int)} {i : Nat} (hi : i < l.length) (h : rowOK ops limit (nthL l i) = false) : isTableM st ops l limit = false := by
  unfold isTableM
  rw [all_nthL_false hi h, Bool.and_false]

theorem ext_nthL {xs ys : List (List Int)} (hl : xs.length = ys.length) (h : ∀ i, i < xs.length → nthL xs i = nthL ys i) : xs = ys := by
  apply List.ext_getElem hl
  intro i h1 h2
  have := h i h1
  rwa [nthL_lt h1, nthL_lt h2] at this

def sameL (xs ys : List Int) : Bool := decide (xs = ys)
def sameLL (xs ys : List (List Int)) : Bool := decide (xs = ys)

theorem sameL_len {xs ys : List Int} (h : ¬ xs.length = ys.length) : sameL xs ys = false := by
  unfold sameL; simp; intro e; exact h (by rw [e])
theorem sameL_ne {xs ys : List Int} {i : Nat} (h : ¬ nth xs i = nth ys i) : sameL xs ys = false := by
  unfold sameL; simp; intro e; exact h (by rw [e])
theorem sameL_eq {xs ys : List Int} (hl : xs.length = ys.length) (h : ∀ i, i < xs.length → nth xs i = nth ys i) : sameL xs ys = true := by
  unfold sameL; simpa using ext_nth hl h
theorem sameLL_len {xs ys : List (List Int)} (h : ¬ xs.length = ys.length) : sameLL xs ys = false := by
  unfold sameLL; simp; intro e; exact h (by rw [e])
theorem sameLL_ne {xs ys : List (List Int)} {i : Nat} (h : sameL (nthL xs i) (nthL ys i) = false) : sameLL xs ys = false := by
  unfold sameL at h; unfold sameLL; simp at h; simp; intro e; exact h (by rw [e])
theorem sameLL_eq {xs ys : List (List Int)} (hl : xs.length = ys.length) (h : ∀ i, i < xs.length → sameL (nthL xs i) (nthL ys i) = true) : sameLL xs ys = true := by
  unfold sameLL; simp
  exact ext_nthL hl (fun i hi => by have := h i hi; unfold sameL at this; simpa using this)

def eqSpec (s t : RSpec) : Bool := decide (s.st = t.st) && decide (s.ops = t.ops) && sameLL s.next t.next && sameLL s.says t.says

def exchM (n other : Int) : Int := if n = 0 then other else if n = other then 0 else n

/-- n is one of 0 .. lim - 1. -/
def inM (lim n : Int) : Bool := decide (0 ≤ n ∧ n < lim)

def isWordM (ops : Int) (xs : List Int) : Bool := xs.all (inM ops) && decide (xs.length ≤ 20)

theorem isWordM_op {ops : Int} {xs : List Int} {i : Nat} (hi : i < xs.length) (h : inM ops (nth xs i) = false) : isWordM ops xs = false := by
  unfold isWordM
  rw [all_nth_false hi h, Bool.false_and]

theorem isWordM_true {ops : Int} {xs : List Int} (h : ∀ i, i < xs.length → inM ops (nth xs i) = true) : isWordM ops xs = decide ((xs.length : Int) ≤ 20) := by
  unfold isWordM
  rw [all_nth h, Bool.true_and]
  simp
  omega

/-! ### Valid specifications: machines -/

/-- The i-th number of a list of naturals. -/
def nthN (xs : List Nat) (i : Nat) : Nat := xs.getD i 0

theorem nthN_lt {xs : List Nat} {i : Nat} (h : i < xs.length) : nthN xs i = xs[i] := by
  simp [nthN, List.getD, List.getElem?_eq_getElem h]

theorem take_succ_nthN {xs : List Nat} {k : Nat} (h : k < xs.length) : xs.take (k + 1) = xs.take k ++ [nthN xs k] := by
  rw [List.take_succ_eq_append_getElem h, nthN_lt h]

structure Mach where
  n : Nat
  k : Nat
  nx : Nat → Nat → Nat
  sy : Nat → Nat → Int

structure Mach.WF (M : Mach) : Prop where
  n1 : 1 ≤ M.n
  n8 : M.n ≤ 8
  k1 : 1 ≤ M.k
  k4 : M.k ≤ 4
  nx : ∀ i, i < M.n → ∀ j, j < M.k → M.nx i j < M.n

/-- A table of n rows of k numbers each. -/
def TabAt (w : World) (b off n k : Nat) (f : Nat → Nat → Int) : Prop :=
  b < w.heap.size ∧ ∀ i, i < n → ∃ b2 off2 c2, w.cell? ⟨b, off + i, none⟩ = some (.slice (some ⟨b2, off2, none⟩) k c2) ∧ b2 < w.heap.size ∧ ∀ j, j < k → w.cell? ⟨b2, off2 + j, none⟩ = some (.int .i64 (f i j))

theorem TabAt.grew {w w' : World} {b off n k : Nat} {f : Nat → Nat → Int} (h : TabAt w b off n k f) (hg : Grew w w') : TabAt w' b off n k f := by
  obtain ⟨hb, h⟩ := h
  refine ⟨Nat.lt_of_lt_of_le hb hg.size, fun i hi => ?_⟩
  obtain ⟨b2, off2, c2, h1, h2, h3⟩ := h i hi
  exact ⟨b2, off2, c2, (hg.cell (p := ⟨b, off + i, none⟩) hb).trans h1, Nat.lt_of_lt_of_le h2 hg.size, fun j hj => (hg.cell (p := ⟨b2, off2 + j, none⟩) h2).trans (h3 j hj)⟩

def IsMach (w : World) (v : Value) (M : Mach) : Prop :=
  ∃ b off c b2 off2 c2, v = .agg #[.int .i64 M.n, .int .i64 M.k, .slice (some ⟨b, off, none⟩) M.n c, .slice (some ⟨b2, off2, none⟩) M.n c2] ∧
    TabAt w b off M.n M.k (fun i j => (M.nx i j : Int)) ∧ TabAt w b2 off2 M.n M.k M.sy

theorem IsMach.grew {w w' : World} {v : Value} {M : Mach} (h : IsMach w v M) (hg : Grew w w') : IsMach w' v M := by
  obtain ⟨b, off, c, b2, off2, c2, hv, h1, h2⟩ := h
  exact ⟨b, off, c, b2, off2, c2, hv, h1.grew hg, h2.grew hg⟩

/-- The machine of a valid specification. -/
def machOf (s : RSpec) : Mach := { n := s.st.toNat, k := s.ops.toNat, nx := fun i j => (nth (nthL s.next i) j).toNat, sy := fun i j => nth (nthL s.says i) j }

theorem valid_parts {s : RSpec} (h : validM s = true) : (1 ≤ s.st ∧ s.st ≤ 8 ∧ 1 ≤ s.ops ∧ s.ops ≤ 4) ∧
    ((s.next.length : Int) = s.st ∧ ∀ i, i < s.next.length → ((nthL s.next i).length : Int) = s.ops ∧ ∀ j, j < (nthL s.next i).length → 0 ≤ nth (nthL s.next i) j ∧ nth (nthL s.next i) j < s.st) ∧
    ((s.says.length : Int) = s.st ∧ ∀ i, i < s.says.length → ((nthL s.says i).length : Int) = s.ops ∧ ∀ j, j < (nthL s.says i).length → 0 ≤ nth (nthL s.says i) j ∧ nth (nthL s.says i) j < 6) := by
  have row : ∀ {ops lim : Int} {row : List Int}, rowOK ops lim row = true → (row.length : Int) = ops ∧ ∀ j, j < row.length → 0 ≤ nth row j ∧ nth row j < lim := by
    intro ops lim row h
    unfold rowOK at h
    simp only [Bool.and_eq_true, decide_eq_true_eq, List.all_eq_true] at h
    exact ⟨h.1, fun j hj => by rw [nth_lt hj]; exact h.2 _ (List.getElem_mem hj)⟩
  have tab : ∀ {st ops lim : Int} {l : List (List Int)}, isTableM st ops l lim = true → (l.length : Int) = st ∧ ∀ i, i < l.length → ((nthL l i).length : Int) = ops ∧ ∀ j, j < (nthL l i).length → 0 ≤ nth (nthL l i) j ∧ nth (nthL l i) j < lim := by
    intro st ops lim l h
    unfold isTableM at h
    simp only [Bool.and_eq_true, decide_eq_true_eq, List.all_eq_true] at h
    exact ⟨h.1, fun i hi => by rw [nthL_lt hi]; exact row (h.2 _ (List.getElem_mem hi))⟩
  unfold validM at h
  simp only [Bool.and_eq_true, decide_eq_true_eq] at h
  exact ⟨h.1.1, tab h.1.2, tab h.2⟩

theorem wf_machOf {s : RSpec} (h : validM s = true) : (machOf s).WF := by
  obtain ⟨⟨h1, h2, h3, h4⟩, ⟨h5, h6⟩, _⟩ := valid_parts h
  refine ⟨by simp only [machOf]; omega, by simp only [machOf]; omega, by simp only [machOf]; omega, by simp only [machOf]; omega, ?_⟩
  intro i hi j hj
  simp only [machOf] at hi hj ⊢
  obtain ⟨h7, h8⟩ := h6 i (by omega)
  have := h8 j (by omega)
  omega

theorem tabAt_of_rows {w : World} {v : Value} {rows : List (List Int)} {n k : Nat} (hr : IsRows Any w v rows) (hn : rows.length = n) (hn1 : 1 ≤ n) (hk1 : 1 ≤ k) (hk : ∀ i, i < n → (nthL rows i).length = k) :
    ∃ b off c, v = .slice (some ⟨b, off, none⟩) n c ∧ TabAt w b off n k (fun i j => nth (nthL rows i) j) := by
  obtain ⟨V, ⟨a, cap, rfl, _, hc⟩, hrow⟩ := hr
  obtain ⟨b, off, o, rfl, ho, _, _⟩ := hc 0 (by omega)
  refine ⟨b, off, cap, by rw [hn], lt_of_obj ho, fun i hi => ?_⟩
  obtain ⟨b', off', o', he, ho', _, hci⟩ := hc i (by omega)
  simp only [Option.some.injEq, Addr.mk.injEq] at he
  obtain ⟨rfl, rfl, _⟩ := he
  obtain ⟨a2, cap2, hv, _, hc2⟩ := hrow i (by omega)
  rw [hk i hi] at hv hc2
  obtain ⟨b2, off2, o2, rfl, ho2, _, _⟩ := hc2 0 (by omega)
  refine ⟨b2, off2, cap2, by rw [hci, hv], lt_of_obj ho2, fun j hj => ?_⟩
  obtain ⟨b3, off3, o3, he3, _, _, hcj⟩ := hc2 j hj
  simp only [Option.some.injEq, Addr.mk.injEq] at he3
  obtain ⟨rfl, rfl, _⟩ := he3
  exact hcj

theorem IsSpec.isMach {w : World} {v : Value} {s : RSpec} (h : IsSpec w v s) (hv : validM s = true) : IsMach w v (machOf s) := by
  obtain ⟨nv, yv, rfl, hn, hy⟩ := h
  obtain ⟨⟨h1, h2, h3, h4⟩, ⟨h5, h6⟩, ⟨h7, h8⟩⟩ := valid_parts hv
  obtain ⟨b, off, c, rfl, ht⟩ := tabAt_of_rows (n := s.st.toNat) (k := s.ops.toNat) hn (by omega) (by omega) (by omega) (fun i hi => by have := (h6 i (by omega)).1; omega)
  obtain ⟨b2, off2, c2, rfl, ht2⟩ := tabAt_of_rows (n := s.st.toNat) (k := s.ops.toNat) hy (by omega) (by omega) (by omega) (fun i hi => by have := (h8 i (by omega)).1; omega)
  refine ⟨b, off, c, b2, off2, c2, ?_, ⟨ht.1, fun i hi => ?_⟩, ht2⟩
  · simp only [machOf]
    rw [show ((s.st.toNat : Nat) : Int) = s.st by omega, show ((s.ops.toNat : Nat) : Int) = s.ops by omega]
  · obtain ⟨b3, off3, c3, h9, h10, h11⟩ := ht.2 i hi
    refine ⟨b3, off3, c3, h9, h10, fun j hj => ?_⟩
    simp only [machOf] at hi hj ⊢
    rw [h11 j hj]
    have := (h6 i (by omega)).2 j (by have := (h6 i (by omega)).1; omega)
    rw [show (((nth (nthL s.next i) j).toNat : Nat) : Int) = nth (nthL s.next i) j by omega]

/-- A slice of naturals. -/
abbrev IsNats (S : Nat → Obj → Prop) (w : World) (v : Value) (xs : List Nat) : Prop := Reads S w v xs.length (fun i => .int .i64 ((nthN xs i : Nat) : Int))

/-- Ints out of naturals. -/
def ofN (xs : List Nat) : List Int := xs.map fun (n : Nat) => (n : Int)
def toN (xs : List Int) : List Nat := xs.map Int.toNat

theorem length_ofN (xs : List Nat) : (ofN xs).length = xs.length := by simp [ofN]
theorem nth_ofN (xs : List Nat) (i : Nat) : nth (ofN xs) i = ((nthN xs i : Nat) : Int) := by
  simp [nth, ofN, nthN, List.getD]
  cases xs[i]? <;> simp

theorem IsNats.ints {S : Nat → Obj → Prop} {w : World} {v : Value} {xs : List Nat} (h : IsNats S w v xs) : IsInts S w v (ofN xs) := by
  unfold IsInts
  rw [length_ofN]
  exact Reads.congr h (fun i _ => by rw [nth_ofN])

/-- Where a word leads. -/
def stM (M : Mach) (s : Nat) (ws : List Nat) : Nat := ws.foldl (fun s op => M.nx s op) s
/-- What a word answers. -/
def anM (M : Mach) : Nat → List Nat → List Int
  | _, [] => []
  | s, op :: ws => M.sy s op :: anM M (M.nx s op) ws

theorem stM_snoc (M : Mach) (s : Nat) (ws : List Nat) (o : Nat) : stM M s (ws ++ [o]) = M.nx (stM M s ws) o := by
  simp [stM, List.foldl_append]

theorem stM_append (M : Mach) (s : Nat) (ws vs : List Nat) : stM M s (ws ++ vs) = stM M (stM M s ws) vs := by
  simp [stM, List.foldl_append]

theorem anM_append (M : Mach) (ws vs : List Nat) : ∀ s, anM M s (ws ++ vs) = anM M s ws ++ anM M (stM M s ws) vs := by
  induction ws with
  | nil => intro s; simp [anM, stM]
  | cons o ws ih => intro s; simp [anM, ih, stM]

theorem anM_snoc (M : Mach) (s : Nat) (ws : List Nat) (o : Nat) : anM M s (ws ++ [o]) = anM M s ws ++ [M.sy (stM M s ws) o] := by
  rw [anM_append]; rfl

theorem length_anM (M : Mach) (ws : List Nat) : ∀ s, (anM M s ws).length = ws.length := by
  induction ws with
  | nil => intro s; rfl
  | cons o ws ih => intro s; simp [anM, ih]

/-- All calls of a word are calls. -/
def OkW (k : Nat) (ws : List Nat) : Prop := ∀ x, x ∈ ws → x < k

theorem OkW.nth {k : Nat} {ws : List Nat} (h : OkW k ws) {i : Nat} (hi : i < ws.length) : nthN ws i < k := by
  rw [nthN_lt hi]; exact h _ (List.getElem_mem hi)

theorem stM_lt {M : Mach} (hM : M.WF) {ws : List Nat} : ∀ {s : Nat}, s < M.n → OkW M.k ws → stM M s ws < M.n := by
  induction ws with
  | nil => intro s hs _; exact hs
  | cons o ws ih =>
    intro s hs hw
    exact ih (hM.nx s hs o (hw o (by simp))) (fun x hx => hw x (by simp [hx]))

theorem OkW.take {k : Nat} {ws : List Nat} (h : OkW k ws) (j : Nat) : OkW k (ws.take j) := fun x hx => h x (List.mem_of_mem_take hx)

end Go.Lin
