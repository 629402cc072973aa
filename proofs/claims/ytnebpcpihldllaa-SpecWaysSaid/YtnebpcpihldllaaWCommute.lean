/- Walks: whether two calls commute, and whether one overwrites the other, of the program's own text. -/
import Derived.Test.YtnebpcpihldllaaWClass
import Derived.Test.YtnebpcpihldllaaWRun
import Derived.Test.YtnebpcpihldllaaWRuns
namespace Go.Lin

/-- The error of a specification, a state and two calls. -/
def callsM (s : RSpec) (st a b : Int) : Int := if validM s = true then (if (inM s.st st && (inM s.ops a && inM s.ops b)) = true then 0 else 2) else 10

theorem calls_parts {s : RSpec} {st a b : Int} (h : callsM s st a b = 0) : validM s = true ∧ ∃ z x y : Nat, st = (z : Int) ∧ a = (x : Int) ∧ b = (y : Int) ∧ z < (machOf s).n ∧ x < (machOf s).k ∧ y < (machOf s).k := by
  unfold callsM at h
  split at h
  · rename_i hv
    split at h
    · rename_i hi
      unfold inM at hi
      simp at hi
      refine ⟨hv, st.toNat, a.toNat, b.toNat, by omega, by omega, by omega, ?_, ?_, ?_⟩ <;> simp only [machOf] <;> omega
    · omega
  · omega

/-- Whether the calls a and b commute in the state z. -/
def commuteB (M : Mach) (sB : Nat → Nat → Bool) (z a b : Nat) : Bool :=
  (decide (M.sy z a = M.sy (M.nx z b) a) && decide (M.sy (M.nx z a) b = M.sy z b)) && sB (M.nx (M.nx z a) b) (M.nx (M.nx z b) a)

/-- Whether b overwrites a in the state z. -/
def overB (M : Mach) (sB : Nat → Nat → Bool) (z a b : Nat) : Bool := decide (M.sy (M.nx z a) b = M.sy z b) && sB (M.nx (M.nx z a) b) (M.nx z b)

theorem seg_two {w : World} {base : Nat} {u : Value} {x y : Int} (h : Seg w base 3 1 u 2 ([x, y].map (.int .i64))) :
    ∃ b off c, u = .slice (some ⟨b, off, none⟩) 2 c ∧ w.cell? ⟨b, off, none⟩ = some (.int .i64 x) ∧ w.cell? ⟨b, off + 1, none⟩ = some (.int .i64 y) ∧ b < w.heap.size := by
  obtain ⟨g, off, cap, cur, rfl, _, hg, h0⟩ := h.cell 0 (by omega)
  obtain ⟨g', off', cap', cur', he, _, _, h1⟩ := h.cell 1 (by omega)
  simp only [Value.slice.injEq, Option.some.injEq, Addr.mk.injEq] at he
  obtain ⟨⟨rfl, rfl, _⟩, _, rfl⟩ := he
  exact ⟨g, off, cap, rfl, by simpa using h0, by simpa using h1, lt_of_obj hg⟩

theorem seg_one {w : World} {base : Nat} {u : Value} {x : Int} (h : Seg w base 3 1 u 1 ([x].map (.int .i64))) :
    ∃ b off c, u = .slice (some ⟨b, off, none⟩) 1 c ∧ w.cell? ⟨b, off, none⟩ = some (.int .i64 x) ∧ b < w.heap.size := by
  obtain ⟨g, off, cap, cur, rfl, _, hg, h0⟩ := h.cell 0 (by omega)
  exact ⟨g, off, cap, rfl, by simpa using h0, lt_of_obj hg⟩

/-- A word of two calls in a new block. -/
theorem nats_two (y : World) (a b : Nat) : IsNats Any (y.alloc (.cells #[.int .i64 (a : Int), .int .i64 (b : Int)] 3)) (.slice (some ⟨y.heap.size, 0, none⟩) 2 2) [a, b] :=
  ⟨_, _, rfl, by simp, fun i hi => by
    have hi' : i = 0 ∨ i = 1 := by simp at hi; omega
    have hz : y.heap.size < (y.alloc (.cells #[.int .i64 (a : Int), .int .i64 (b : Int)] 3)).heap.size := by simp
    rcases hi' with rfl | rfl
    · exact ⟨_, _, _, rfl, Array.getElem?_eq_getElem hz, trivial, by simp [nthN]⟩
    · exact ⟨_, _, _, rfl, Array.getElem?_eq_getElem hz, trivial, by simp [nthN]⟩⟩

theorem nats_one (y : World) (a : Nat) : IsNats Any (y.alloc (.cells #[.int .i64 (a : Int)] 3)) (.slice (some ⟨y.heap.size, 0, none⟩) 1 1) [a] :=
  ⟨_, _, rfl, by simp, fun i hi => by
    have hi' : i = 0 := by simp at hi; omega
    have hz : y.heap.size < (y.alloc (.cells #[.int .i64 (a : Int)] 3)).heap.size := by simp
    subst hi'
    exact ⟨_, _, _, rfl, Array.getElem?_eq_getElem hz, trivial, by simp [nthN]⟩⟩

theorem ints_two (y : World) (a b : Int) : IsInts Any (y.alloc (.cells #[.int .i64 a, .int .i64 b] 3)) (.slice (some ⟨y.heap.size, 0, none⟩) 2 2) [a, b] :=
  ⟨_, _, rfl, by simp, fun i hi => by
    have hi' : i = 0 ∨ i = 1 := by simp at hi; omega
    have hz : y.heap.size < (y.alloc (.cells #[.int .i64 a, .int .i64 b] 3)).heap.size := by simp
    rcases hi' with rfl | rfl
    · exact ⟨_, _, _, rfl, Array.getElem?_eq_getElem hz, trivial, by simp [nth]⟩
    · exact ⟨_, _, _, rfl, Array.getElem?_eq_getElem hz, trivial, by simp [nth]⟩⟩

theorem ints_one (y : World) (a : Int) : IsInts Any (y.alloc (.cells #[.int .i64 a] 3)) (.slice (some ⟨y.heap.size, 0, none⟩) 1 1) [a] :=
  ⟨_, _, rfl, by simp, fun i hi => by
    have hi' : i = 0 := by simp at hi; omega
    have hz : y.heap.size < (y.alloc (.cells #[.int .i64 a] 3)).heap.size := by simp
    subst hi'
    exact ⟨_, _, _, rfl, Array.getElem?_eq_getElem hz, trivial, by simp [nth]⟩⟩
end Go.Lin
namespace Go.Proofs.Ytnebpcpihldllaa
open Go.RowKit Go.Lin

theorem entered87 : Entered 87 := fun _ _ => by kernel_rfl
theorem entered93 : Entered 93 := fun _ _ => by kernel_rfl
theorem entered107 : Entered 107 := fun _ _ => by kernel_rfl

set_option maxHeartbeats 2000000 in
theorem commute87_any (M : Mach) (hM : M.WF) (sB : Nat → Nat → Bool) (hsB : ∀ a b, sB a b = true ↔ NoTells M M a b) (mv : Value) (z a b : Nat) (w : World) (hz0 : z < M.n) (ha : a < M.k) (hb : b < M.k) (hm : IsMach w mv M) :
    Calls Try.prog 87 #[mv, .int .i64 (z : Int), .int .i64 (a : Int), .int .i64 (b : Int)] w fun e w' => e = .returned (.bool (commuteB M sB z a b)) ∧ Grew w w' := by
  have okab : OkW M.k [a, b] := fun x hx => by simp at hx; omega
  have okba : OkW M.k [b, a] := fun x hx => by simp at hx; omega
  have hna := hM.nx z hz0 a ha
  have hnb := hM.nx z hz0 b hb
  have hnab := hM.nx _ hna b hb
  have hnba := hM.nx _ hnb a ha
  have HR1 := hid (fun (y : World) (hy : Grew w y) => run_any M hM mv _ z [a, b] _ hz0 okab (by simp) (hm.grew (grew_alloc hy _)) (nats_two y a b))
  have HR2 := hid (fun (y : World) (hy : Grew w y) => run_any M hM mv _ z [b, a] _ hz0 okba (by simp) (hm.grew (grew_alloc hy _)) (nats_two y b a))
  have HSM := hid (fun (y : World) (hy : Grew w y) => same65_any M hM sB hsB mv _ _ y hnab hnba (hm.grew hy))
  simp only [Lin.stM, anM, List.foldl_cons, List.foldl_nil, List.length_cons, List.length_nil] at HR1 HR2
  obtain ⟨p1, hp1⟩ : ∃ p, M.sy z a = p := ⟨_, rfl⟩
  obtain ⟨p2, hp2⟩ : ∃ p, M.sy (M.nx z a) b = p := ⟨_, rfl⟩
  obtain ⟨q1, hq1⟩ : ∃ p, M.sy z b = p := ⟨_, rfl⟩
  obtain ⟨q2, hq2⟩ : ∃ p, M.sy (M.nx z b) a = p := ⟨_, rfl⟩
  obtain ⟨sv, hsv⟩ : ∃ p, sB (M.nx (M.nx z a) b) (M.nx (M.nx z b) a) = p := ⟨_, rfl⟩
  have hcb : commuteB M sB z a b = ((decide (p1 = q2) && decide (p2 = q1)) && sv) := by unfold commuteB; rw [hp1, hp2, hq1, hq2, hsv]
  rw [hp1, hp2] at HR1
  rw [hq1, hq2] at HR2
  rw [hsv] at HSM
  rw [hcb]
  obtain ⟨b1, off1, c1, b2, off2, c2, rfl, _, _⟩ := hm
  obtain ⟨W0, hW0, g0, k0, k1, k2, k3, hz⟩ := box4 w (.int .i64 (M.n : Int)) (.int .i64 (M.k : Int)) (.slice (some ⟨b1, off1, none⟩) M.n c1) (.slice (some ⟨b2, off2, none⟩) M.n c2) 60
  have hg := grew_refl W0
  clear hp1 hp2 hq1 hq2 hsv hcb hsB okab okba
  have e1 : (p1 == q2) = true ∨ (p1 == q2) = false := by cases p1 == q2 <;> simp
  have e2 : (p2 == q1) = true ∨ (p2 == q1) = false := by cases p2 == q1 <;> simp
  have hd1 : decide (p1 = q2) = (p1 == q2) := by rw [Bool.eq_iff_iff]; simp
  have hd2 : decide (p2 = q1) = (p2 == q1) := by rw [Bool.eq_iff_iff]; simp
  rw [hd1, hd2]
  clear hd1 hd2
  rcases e1 with e1 | e1 <;> rcases e2 with e2 | e2
  all_goals
    go_enter Try.func87, Try.ntmps87
    go_wp2_with (first
      | (go_at_call 75; with_reducible refine (HR1.out _ (grew_trans g0 hg)).mono ?_; rintro e w1 ⟨u1, rfl, hs1, hx1⟩; obtain ⟨x1, x2, x3, rfl, x4, x5, x6⟩ := seg_two hs1; clear hs1; replace hg := grew_trans hg (grew_trans (grew_alloc (grew_refl _) _) hx1); have hc := (bcell hg).1; have hza := Nat.lt_of_lt_of_le hz hg.size; have hgg := grew_refl w1)
      | (go_at_call 75; with_reducible refine (HR2.out _ (grew_trans g0 hg)).mono ?_; rintro e w2 ⟨u2, rfl, hs2, hx2⟩; obtain ⟨y1, y2, y3, rfl, y4, y5, y6⟩ := seg_two hs2; clear hs2; replace hgg := grew_trans (grew_alloc (grew_refl w1) _) hx2; replace hg := grew_trans hg hgg; have hc := (bcell hg).1; have hza := Nat.lt_of_lt_of_le hz hg.size; have hx4 := (hgg.cell (p := ⟨x1, x2, none⟩) x6).trans x4; have hx5 := (hgg.cell (p := ⟨x1, x2 + 1, none⟩) x6).trans x5; have hx6' := Nat.lt_of_lt_of_le x6 hgg.size; clear x4 x5))
    refine wp_region_later (by kernel_rfl) (by kernel_rfl) (fun hL => ?_)
    repeat (go_big_quiet_step ((go_at_call 65; exact calls_later (HSM.out _ (grew_trans (grew_trans g0 hg) (Subtype.property _))))))
    refine wpQuiet_nil ?_
    rintro wy ⟨y, hy⟩
    have hgy : Grew w wy := by rw [hy]; exact grew_trans (grew_trans g0 hg) y.2
    clear hL hy y
    go_wp2
    go_ret
    exact ⟨ret_bool (by simp [e1, e2]), hgy⟩
set_option maxHeartbeats 2000000 in
theorem over93_any (M : Mach) (hM : M.WF) (sB : Nat → Nat → Bool) (hsB : ∀ a b, sB a b = true ↔ NoTells M M a b) (mv : Value) (z a b : Nat) (w : World) (hz0 : z < M.n) (ha : a < M.k) (hb : b < M.k) (hm : IsMach w mv M) :
    Calls Try.prog 93 #[mv, .int .i64 (z : Int), .int .i64 (a : Int), .int .i64 (b : Int)] w fun e w' => e = .returned (.bool (overB M sB z a b)) ∧ Grew w w' := by
  have okab : OkW M.k [a, b] := fun x hx => by simp at hx; omega
  have okb : OkW M.k [b] := fun x hx => by simp at hx; omega
  have hna := hM.nx z hz0 a ha
  have hnb := hM.nx z hz0 b hb
  have hnab := hM.nx _ hna b hb
  have HR1 := hid (fun (y : World) (hy : Grew w y) => run_any M hM mv _ z [a, b] _ hz0 okab (by simp) (hm.grew (grew_alloc hy _)) (nats_two y a b))
  have HR2 := hid (fun (y : World) (hy : Grew w y) => run_any M hM mv _ z [b] _ hz0 okb (by simp) (hm.grew (grew_alloc hy _)) (nats_one y b))
  have HSM := hid (fun (y : World) (hy : Grew w y) => same65_any M hM sB hsB mv _ _ y hnab hnb (hm.grew hy))
  simp only [Lin.stM, anM, List.foldl_cons, List.foldl_nil, List.length_cons, List.length_nil] at HR1 HR2
  obtain ⟨p2, hp2⟩ : ∃ p, M.sy (M.nx z a) b = p := ⟨_, rfl⟩
  obtain ⟨q1, hq1⟩ : ∃ p, M.sy z b = p := ⟨_, rfl⟩
  obtain ⟨sv, hsv⟩ : ∃ p, sB (M.nx (M.nx z a) b) (M.nx z b) = p := ⟨_, rfl⟩
  have hcb : overB M sB z a b = (decide (p2 = q1) && sv) := by unfold overB; rw [hp2, hq1, hsv]
  rw [hp2] at HR1
  rw [hq1] at HR2
  rw [hsv] at HSM
  rw [hcb]
  obtain ⟨b1, off1, c1, b2, off2, c2, rfl, _, _⟩ := hm
  obtain ⟨W0, hW0, g0, k0, k1, k2, k3, hz⟩ := box4 w (.int .i64 (M.n : Int)) (.int .i64 (M.k : Int)) (.slice (some ⟨b1, off1, none⟩) M.n c1) (.slice (some ⟨b2, off2, none⟩) M.n c2) 60
  have hg := grew_refl W0
  clear hp2 hq1 hsv hcb hsB okab okb
  have e2 : (p2 == q1) = true ∨ (p2 == q1) = false := by cases p2 == q1 <;> simp
  have hd2 : decide (p2 = q1) = (p2 == q1) := by rw [Bool.eq_iff_iff]; simp
  rw [hd2]
  clear hd2
  rcases e2 with e2 | e2
  all_goals
    go_enter Try.func93, Try.ntmps93
    go_wp2_with (first
      | (go_at_call 75; with_reducible refine (HR1.out _ (grew_trans g0 hg)).mono ?_; rintro e w1 ⟨u1, rfl, hs1, hx1⟩; obtain ⟨x1, x2, x3, rfl, x4, x5, x6⟩ := seg_two hs1; clear hs1; replace hg := grew_trans hg (grew_trans (grew_alloc (grew_refl _) _) hx1); have hc := (bcell hg).1; have hza := Nat.lt_of_lt_of_le hz hg.size; have hgg := grew_refl w1)
      | (go_at_call 75; with_reducible refine (HR2.out _ (grew_trans g0 hg)).mono ?_; rintro e w2 ⟨u2, rfl, hs2, hx2⟩; obtain ⟨y1, y2, y3, rfl, y4, y6⟩ := seg_one hs2; clear hs2; replace hgg := grew_trans (grew_alloc (grew_refl w1) _) hx2; replace hg := grew_trans hg hgg; have hc := (bcell hg).1; have hza := Nat.lt_of_lt_of_le hz hg.size; have hx4 := (hgg.cell (p := ⟨x1, x2, none⟩) x6).trans x4; have hx5 := (hgg.cell (p := ⟨x1, x2 + 1, none⟩) x6).trans x5; have hx6' := Nat.lt_of_lt_of_le x6 hgg.size; clear x4 x5))
    refine wp_region_later (by kernel_rfl) (by kernel_rfl) (fun hL => ?_)
    repeat (go_big_quiet_step ((go_at_call 65; exact calls_later (HSM.out _ (grew_trans (grew_trans g0 hg) (Subtype.property _))))))
    refine wpQuiet_nil ?_
    rintro wy ⟨y, hy⟩
    have hgy : Grew w wy := by rw [hy]; exact grew_trans (grew_trans g0 hg) y.2
    clear hL hy y
    go_wp2
    go_ret
    exact ⟨ret_bool (by simp [e2]), hgy⟩

set_option maxHeartbeats 2000000 in
theorem told1_any (s : RSpec) (sv : Value) (A B C : Nat) (z a b : Int) (w : World) (h1 : 1 ≤ s.st) (h2 : s.st ≤ 8) (o1 : 1 ≤ s.ops) (o2 : s.ops ≤ 8) (hs : IsSpec w sv s) (hA : w.cell? ⟨A, 0, none⟩ = some (.int .i64 z)) (hB : w.cell? ⟨B, 0, none⟩ = some (.int .i64 a)) (hC : w.cell? ⟨C, 0, none⟩ = some (.int .i64 b)) :
    Says 107 #[.pointer (some ⟨A, 0, none⟩), .pointer (some ⟨B, 0, none⟩), .pointer (some ⟨C, 0, none⟩)] sv (inM s.st z && (inM s.ops a && inM s.ops b)) w := by
  intro w' hw
  have hA' := (hw.cell (p := ⟨A, 0, none⟩) (World.block_lt_of_cell? w _ hA)).trans hA
  have hB' := (hw.cell (p := ⟨B, 0, none⟩) (World.block_lt_of_cell? w _ hB)).trans hB
  have hC' := (hw.cell (p := ⟨C, 0, none⟩) (World.block_lt_of_cell? w _ hC)).trans hC
  have HS := hs.grew hw
  obtain ⟨nv, yv, rfl, _, _⟩ := hs
  clear hA hB hC hw
  obtain ⟨W0, hW0, g0, k0, k1, k2, k3, hz⟩ := box4 w' (.int .i64 s.st) (.int .i64 s.ops) nv yv 60
  have hltA := World.block_lt_of_cell? w' _ hA'
  have hltB := World.block_lt_of_cell? w' _ hB'
  have hltC := World.block_lt_of_cell? w' _ hC'
  have hA0 := (g0.cell (p := ⟨A, 0, none⟩) hltA).trans hA'
  have hB0 := (g0.cell (p := ⟨B, 0, none⟩) hltB).trans hB'
  have hC0 := (g0.cell (p := ⟨C, 0, none⟩) hltC).trans hC'
  have zA := Nat.lt_of_lt_of_le hltA g0.size
  have zB := Nat.lt_of_lt_of_le hltB g0.size
  have zC := Nat.lt_of_lt_of_le hltC g0.size
  have hst := fun (y : World) (hy : Grew w' y) => state_any s _ _ _ _ h1 h2 (HS.grew (grew_alloc hy _)) (ints_one y z)
  simp only [List.all_cons, List.all_nil, Bool.and_true] at hst
  have hcl := fun (y : World) (hy : Grew w' y) => calls_any s _ _ _ _ o1 o2 (HS.grew (grew_alloc hy _)) (ints_two y a b)
  simp only [List.all_cons, List.all_nil, Bool.and_true] at hcl
  have HST := hid hst; have HCL := hid hcl
  have hg := grew_refl W0
  clear hst hcl hltA hltB hltC hA' hB' hC'
  cases hi : inM s.st z <;> rw [hi] at HST
  · clear hi
    rw [Bool.false_and]
    go_enter Try.func107, Try.ntmps107
    go_wp2_with (go_at_call 58; with_reducible refine (HST.out _ g0).mono ?_; rintro e w1 ⟨rfl, hx⟩)
    go_ret
    exact ⟨ret_bool rfl, grew_trans (grew_alloc g0 _) hx⟩
  · clear hi
    rw [Bool.true_and]
    go_enter Try.func107, Try.ntmps107
    go_wp2_with (first
      | (go_at_call 58; with_reducible refine (HST.out _ g0).mono ?_; rintro e w1 ⟨rfl, hx⟩; replace hg := grew_trans (grew_alloc (grew_refl W0) _) hx; have hc := (bcell hg).1; have hza := Nat.lt_of_lt_of_le hz hg.size; have zA2 := Nat.lt_of_lt_of_le zA hg.size; have zB2 := Nat.lt_of_lt_of_le zB hg.size; have zC2 := Nat.lt_of_lt_of_le zC hg.size)
      | (go_at_call 96; with_reducible refine (HCL.out _ (grew_trans g0 hg)).mono ?_; rintro e w2 ⟨rfl, hx2⟩))
    go_ret
    exact ⟨rfl, grew_trans (grew_trans g0 hg) (grew_trans (grew_alloc (grew_refl _) _) hx2)⟩

/-- What 'opened' answers of a state and two calls. -/
theorem opened_told (s : RSpec) (sv : Value) (A B C : Nat) (z a b : Int) (w : World) (hs : IsSpec w sv s) (hA : w.cell? ⟨A, 0, none⟩ = some (.int .i64 z)) (hB : w.cell? ⟨B, 0, none⟩ = some (.int .i64 a)) (hC : w.cell? ⟨C, 0, none⟩ = some (.int .i64 b)) :
    Calls Try.prog 56 #[sv, .func (.func 107) #[] #[.pointer (some ⟨A, 0, none⟩), .pointer (some ⟨B, 0, none⟩), .pointer (some ⟨C, 0, none⟩)]] w fun e w' => e = .returned (.tuple #[if callsM s z a b = 0 then sv else zeroSpec, .int .i64 (callsM s z a b)]) ∧ Grew w w' := by
  cases hv : validM s with
  | false =>
    have he : callsM s z a b = 10 := by unfold callsM; rw [hv]; rfl
    rw [he]; exact opened_bad s _ _ _ hs hv
  | true =>
    obtain ⟨⟨b1, b2, b3, b4⟩, _⟩ := valid_parts hv
    have h := told1_any s _ _ _ _ z a b w b1 b2 b3 (by omega) hs hA hB hC
    cases hi : inM s.st z && (inM s.ops a && inM s.ops b) with
    | false =>
      have he : callsM s z a b = 2 := by unfold callsM; rw [hv, hi]; rfl
      rw [he]; rw [hi] at h
      exact opened_arg s _ _ _ _ hs hv entered107 h
    | true =>
      have he : callsM s z a b = 0 := by unfold callsM; rw [hv, hi]; rfl
      rw [he]; rw [hi] at h
      exact opened_ok s _ _ _ _ hs hv entered107 h

set_option maxHeartbeats 4000000 in
theorem told86_any (s : RSpec) (g : Nat) (hcf0 : Entered g) (B : Bool) (z a b : Int) (sv : Value) (w : World) (hs : IsSpec w sv s)
    (hB : callsM s z a b = 0 → ∀ (y : World), Grew w y → Calls Try.prog g #[sv, .int .i64 z, .int .i64 a, .int .i64 b] y fun e w' => e = .returned (.bool B) ∧ Grew y w') :
    Calls Try.prog 86 #[sv, .int .i64 z, .int .i64 a, .int .i64 b, .func (.func g) #[] #[]] w fun e w' => e = .returned (.tuple #[.bool (if callsM s z a b = 0 then B else false), .int .i64 (callsM s z a b)]) ∧ Grew w w' := by
  have HS := hs
  obtain ⟨na, nc, ya, yc, rfl⟩ := isSpec_open' hs
  obtain ⟨W0, hW0, g0, k0, k1, k2, k3, hz⟩ := box4 w (.int .i64 s.st) (.int .i64 s.ops) (.slice na s.next.length nc) (.slice ya s.says.length yc) 24
  obtain ⟨W1, hW1, g1, l0, hz1⟩ := box1 W0 (.int .i64 z) 3
  obtain ⟨W2, hW2, g2, m0, hz2⟩ := box1 W1 (.int .i64 a) 3
  obtain ⟨W3, hW3, g3, n0, hz3⟩ := box1 W2 (.int .i64 b) 3
  have g13 := grew_trans g1 (grew_trans g2 g3)
  have g03 := grew_trans g0 g13
  have e0 := ((grew_trans g2 g3).cell (p := ⟨W0.heap.size, 0, none⟩) hz1).trans l0
  have e1 := (g3.cell (p := ⟨W1.heap.size, 0, none⟩) hz2).trans m0
  have r0 := (g13.cell (p := ⟨w.heap.size, 0, none⟩) hz).trans k0
  have r1 := (g13.cell (p := ⟨w.heap.size, 1, none⟩) hz).trans k1
  have r2 := (g13.cell (p := ⟨w.heap.size, 2, none⟩) hz).trans k2
  have r3 := (g13.cell (p := ⟨w.heap.size, 3, none⟩) hz).trans k3
  have z1 : W0.heap.size < W3.heap.size := Nat.lt_of_lt_of_le hz1 (grew_trans g2 g3).size
  have z2 : W1.heap.size < W3.heap.size := Nat.lt_of_lt_of_le hz2 g3.size
  have z0 : w.heap.size < W3.heap.size := Nat.lt_of_lt_of_le hz g13.size
  clear k0 k1 k2 k3 l0 m0
  have hop := opened_told s _ _ _ _ z a b W3 (HS.grew g03) e0 e1 n0
  have hcf' : ∀ args w, (callFunc g args).run Try.prog w = .ok (.enter g args) w := hcf0
  clear hs hcf0
  by_cases h : callsM s z a b = 0
  · have HB := hid (hB h)
    rw [if_pos h, h] at hop
    rw [if_pos h, h]
    have HOP := hid hop
    clear hop h hB HS
    go_enter Try.func86, Try.ntmps86
    go_wp2_with (first
      | (go_at_call 56; with_reducible refine HOP.out.mono ?_; rintro e w1 ⟨rfl, hx⟩; obtain ⟨W5, hW5, g5, q0, q1, q2, q3, hz5⟩ := box4 w1 (.int .i64 s.st) (.int .i64 s.ops) (.slice na s.next.length nc) (.slice ya s.says.length yc) 60; have hg := grew_trans hx g5; have hc := (bcell hg).1; have y0 := Nat.lt_of_lt_of_le z0 hg.size; have y1 := Nat.lt_of_lt_of_le z1 hg.size; have y2 := Nat.lt_of_lt_of_le z2 hg.size; have y3 := Nat.lt_of_lt_of_le hz3 hg.size)
      | (refine (show Calls _ _ _ _ _ from HB.out _ (grew_trans g03 hg)).mono ?_; rintro e w2 ⟨rfl, hx2⟩))
    go_ret2
    exact ⟨rfl, grew_trans (grew_trans g03 hg) hx2⟩
  · rw [if_neg h] at hop
    rw [if_neg h]
    obtain ⟨ev, hev⟩ : ∃ ev, callsM s z a b = ev := ⟨_, rfl⟩
    rw [hev] at hop h ⊢
    have hb : (ev == 0) = false := beq_false_of_ne h
    have HOP := hid hop
    clear hop h hB HS hev
    go_enter Try.func86, Try.ntmps86
    go_wp2_with (go_at_call 56; with_reducible refine HOP.out.mono ?_; rintro e w1 ⟨rfl, hx⟩)
    go_ret2
    exact ⟨rfl, (by repeat' (first | exact grew_refl _ | assumption | refine grew_alloc ?_ _ | refine Below.setCell ?_ (by (try simp); omega) _ | refine grew_drewN ?_ _ | refine grew_drew ?_ | refine grew_trans ?_ (by assumption)))⟩

def commuteOf (s : RSpec) (sB : Nat → Nat → Bool) (z a b : Int) : Bool := if callsM s z a b = 0 then commuteB (machOf s) sB z.toNat a.toNat b.toNat else false
def overOf (s : RSpec) (sB : Nat → Nat → Bool) (z a b : Int) : Bool := if callsM s z a b = 0 then overB (machOf s) sB z.toNat a.toNat b.toNat else false

set_option maxHeartbeats 1000000 in
theorem commute_any (s : RSpec) (sB : Nat → Nat → Bool) (hsB : ∀ a b, sB a b = true ↔ NoTells (machOf s) (machOf s) a b) (z a b : Int) (sv : Value) (w : World) (hs : IsSpec w sv s) :
    Calls Try.prog 41 #[sv, .int .i64 z, .int .i64 a, .int .i64 b] w fun e w' => e = .returned (.tuple #[.bool (commuteOf s sB z a b), .int .i64 (callsM s z a b)]) ∧ Grew w w' := by
  have HT := hid (fun (y : World) (hy : Grew w y) => told86_any s 87 entered87 (commuteB (machOf s) sB z.toNat a.toNat b.toNat) z a b sv y (hs.grew hy) (fun h0 x hx => by
    obtain ⟨hv, z', a', b', rfl, rfl, rfl, h1, h2, h3⟩ := calls_parts h0
    exact commute87_any (machOf s) (wf_machOf hv) sB hsB sv z' a' b' x h1 h2 h3 (((hs.grew hy).grew hx).isMach hv)))
  unfold commuteOf
  obtain ⟨r, hr⟩ : ∃ r, (if callsM s z a b = 0 then commuteB (machOf s) sB z.toNat a.toNat b.toNat else false) = r := ⟨_, rfl⟩
  rw [hr] at HT ⊢
  obtain ⟨na, nc, ya, yc, rfl⟩ := isSpec_open' hs
  obtain ⟨W0, hW0, g0, k0, k1, k2, k3, hz⟩ := box4 w (.int .i64 s.st) (.int .i64 s.ops) (.slice na s.next.length nc) (.slice ya s.says.length yc) 24
  clear hs hr hsB
  go_enter Try.func41, Try.ntmps41
  go_wp2_with (go_at_call 86; with_reducible refine (HT.out _ g0).mono ?_; rintro e w1 ⟨rfl, hx⟩)
  go_ret2
  exact ⟨rfl, grew_trans g0 hx⟩

set_option maxHeartbeats 1000000 in
theorem over_any (s : RSpec) (sB : Nat → Nat → Bool) (hsB : ∀ a b, sB a b = true ↔ NoTells (machOf s) (machOf s) a b) (z a b : Int) (sv : Value) (w : World) (hs : IsSpec w sv s) :
    Calls Try.prog 46 #[sv, .int .i64 z, .int .i64 a, .int .i64 b] w fun e w' => e = .returned (.tuple #[.bool (overOf s sB z a b), .int .i64 (callsM s z a b)]) ∧ Grew w w' := by
  have HT := hid (fun (y : World) (hy : Grew w y) => told86_any s 93 entered93 (overB (machOf s) sB z.toNat a.toNat b.toNat) z a b sv y (hs.grew hy) (fun h0 x hx => by
    obtain ⟨hv, z', a', b', rfl, rfl, rfl, h1, h2, h3⟩ := calls_parts h0
    exact over93_any (machOf s) (wf_machOf hv) sB hsB sv z' a' b' x h1 h2 h3 (((hs.grew hy).grew hx).isMach hv)))
  unfold overOf
  obtain ⟨r, hr⟩ : ∃ r, (if callsM s z a b = 0 then overB (machOf s) sB z.toNat a.toNat b.toNat else false) = r := ⟨_, rfl⟩
  rw [hr] at HT ⊢
  obtain ⟨na, nc, ya, yc, rfl⟩ := isSpec_open' hs
  obtain ⟨W0, hW0, g0, k0, k1, k2, k3, hz⟩ := box4 w (.int .i64 s.st) (.int .i64 s.ops) (.slice na s.next.length nc) (.slice ya s.says.length yc) 24
  clear hs hr hsB
  go_enter Try.func46, Try.ntmps46
  go_wp2_with (go_at_call 86; with_reducible refine (HT.out _ g0).mono ?_; rintro e w1 ⟨rfl, hx⟩)
  go_ret2
  exact ⟨rfl, grew_trans g0 hx⟩
end Go.Proofs.Ytnebpcpihldllaa
