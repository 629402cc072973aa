/- Walks: whether a call only reads, of the program's own text. -/
import Derived.Test.YtnebpcpihldllaaWCommute
import Derived.Test.YtnebpcpihldllaaWReached
namespace Go.Lin

/-- A machine in a box. -/
def MBox (w : World) (B : Nat) (M : Mach) : Prop :=
  ∃ b off c b2 off2 c2, w.cell? ⟨B, 0, none⟩ = some (.int .i64 M.n) ∧ w.cell? ⟨B, 1, none⟩ = some (.int .i64 M.k) ∧ w.cell? ⟨B, 2, none⟩ = some (.slice (some ⟨b, off, none⟩) M.n c) ∧ w.cell? ⟨B, 3, none⟩ = some (.slice (some ⟨b2, off2, none⟩) M.n c2) ∧
    TabAt w b off M.n M.k (fun i j => (M.nx i j : Int)) ∧ TabAt w b2 off2 M.n M.k M.sy

theorem MBox.grew {w w' : World} {B : Nat} {M : Mach} (h : MBox w B M) (hg : Grew w w') : MBox w' B M := by
  obtain ⟨b, off, c, b2, off2, c2, h0, h1, h2, h3, h4, h5⟩ := h
  have hB := World.block_lt_of_cell? w _ h0
  exact ⟨b, off, c, b2, off2, c2, (hg.cell (p := ⟨B, 0, none⟩) hB).trans h0, (hg.cell (p := ⟨B, 1, none⟩) hB).trans h1, (hg.cell (p := ⟨B, 2, none⟩) hB).trans h2, (hg.cell (p := ⟨B, 3, none⟩) hB).trans h3, h4.grew hg, h5.grew hg⟩

/-- Whether a call leaves each state that is reached the same. -/
noncomputable def readsB (M : Mach) (sB : Nat → Nat → Bool) (o : Nat) : Bool := (reachL M).all fun x => sB x (M.nx x o)
noncomputable def readsOf (s : RSpec) (sB : Nat → Nat → Bool) (a : Int) : Bool := if callsM s 0 a a = 0 then readsB (machOf s) sB a.toNat else false

theorem calls_zero {s : RSpec} (hv : validM s = true) (a : Int) : callsM s 0 a a = if inM s.ops a then 0 else 2 := by
  obtain ⟨⟨s1, s8, o1, o4⟩, _⟩ := valid_parts hv
  unfold callsM
  rw [hv, show inM s.st 0 = true by unfold inM; simp; omega, Bool.and_self, Bool.true_and]
  rfl
end Go.Lin
namespace Go.Proofs.Ytnebpcpihldllaa
open Go.RowKit Go.Lin

theorem entered95 : Entered 95 := fun _ _ => by kernel_rfl
theorem entered98 : Entered 98 := fun _ _ => by kernel_rfl

set_option maxHeartbeats 1000000 in
theorem reads1_any (s : RSpec) (sv : Value) (A : Nat) (a : Int) (w : World) (o1 : 1 ≤ s.ops) (o2 : s.ops ≤ 8) (hs : IsSpec w sv s) (hA : w.cell? ⟨A, 0, none⟩ = some (.int .i64 a)) :
    Says 95 #[.pointer (some ⟨A, 0, none⟩)] sv (inM s.ops a) w := by
  intro w' hw
  have hA' := (hw.cell (p := ⟨A, 0, none⟩) (World.block_lt_of_cell? w _ hA)).trans hA
  have HS := hs.grew hw
  obtain ⟨nv, yv, rfl, _, _⟩ := hs
  clear hA hw
  obtain ⟨W0, hW0, g0, k0, k1, k2, k3, hz⟩ := box4 w' (.int .i64 s.st) (.int .i64 s.ops) nv yv 60
  have hltA := World.block_lt_of_cell? w' _ hA'
  have hA0 := (g0.cell (p := ⟨A, 0, none⟩) hltA).trans hA'
  have zA := Nat.lt_of_lt_of_le hltA g0.size
  have hcl := fun (y : World) (hy : Grew w' y) => calls_any s _ _ _ _ o1 o2 (HS.grew (grew_alloc hy _)) (ints_one y a)
  simp only [List.all_cons, List.all_nil, Bool.and_true] at hcl
  have HCL := hid hcl
  clear hcl hltA hA'
  go_enter Try.func95, Try.ntmps95
  go_wp2_with (go_at_call 96; with_reducible refine (HCL.out _ g0).mono ?_; rintro e w1 ⟨rfl, hx⟩)
  go_ret
  exact ⟨ret_bool rfl, grew_trans (grew_alloc g0 _) hx⟩

/-- What 'opened' answers of a call. -/
theorem opened_reads (s : RSpec) (sv : Value) (A : Nat) (a : Int) (w : World) (hs : IsSpec w sv s) (hA : w.cell? ⟨A, 0, none⟩ = some (.int .i64 a)) :
    Calls Try.prog 56 #[sv, .func (.func 95) #[] #[.pointer (some ⟨A, 0, none⟩)]] w fun e w' => e = .returned (.tuple #[if callsM s 0 a a = 0 then sv else zeroSpec, .int .i64 (callsM s 0 a a)]) ∧ Grew w w' := by
  cases hv : validM s with
  | false =>
    have he : callsM s 0 a a = 10 := by unfold callsM; rw [hv]; rfl
    rw [he]; exact opened_bad s _ _ _ hs hv
  | true =>
    obtain ⟨⟨b1, b2, b3, b4⟩, _⟩ := valid_parts hv
    have h := reads1_any s _ _ a w b3 (by omega) hs hA
    rw [calls_zero hv]
    cases hi : inM s.ops a with
    | false =>
      rw [hi] at h
      exact opened_arg s _ _ _ _ hs hv entered95 h
    | true =>
      rw [hi] at h
      exact opened_ok s _ _ _ _ hs hv entered95 h

set_option maxHeartbeats 2000000 in
theorem reads98_any (M : Mach) (hM : M.WF) (sB : Nat → Nat → Bool) (hsB : ∀ a b, sB a b = true ↔ NoTells M M a b) (B A x o : Nat) (w : World) (hx : x < M.n) (ho : o < M.k) (hm : MBox w B M) (hA : w.cell? ⟨A, 0, none⟩ = some (.int .i64 (o : Int))) :
    Says 98 #[.pointer (some ⟨B, 0, none⟩), .pointer (some ⟨A, 0, none⟩)] (.int .i64 (x : Int)) (!sB x (M.nx x o)) w := by
  intro w' hw
  have hA' := (hw.cell (p := ⟨A, 0, none⟩) (World.block_lt_of_cell? w _ hA)).trans hA
  replace hm := hm.grew hw
  clear hA hw
  obtain ⟨b1, off1, c1, b2, off2, c2, k0, k1, k2, k3, t1, t2⟩ := hm
  have hnx := hM.nx x hx o ho
  have HSM := hid (fun (y : World) (hy : Grew w' y) => same65_any M hM sB hsB _ x (M.nx x o) y hx hnx (IsMach.grew ⟨b1, off1, c1, b2, off2, c2, rfl, t1, t2⟩ hy))
  obtain ⟨hb1, hrow⟩ := t1
  obtain ⟨b5, off5, c5, r2, r2b, r2c⟩ := hrow x hx
  replace r2c := r2c o ho
  obtain ⟨v, hv⟩ : ∃ v, sB x (M.nx x o) = v := ⟨_, rfl⟩
  rw [hv] at HSM ⊢
  have zA := World.block_lt_of_cell? w' _ hA'
  have zB := World.block_lt_of_cell? w' _ k0
  clear hrow t2 hsB hv
  go_enter Try.func98, Try.ntmps98
  go_wp2
  refine wp_region_later (by kernel_rfl) (by kernel_rfl) (fun hL => ?_)
  repeat (go_big_quiet_step ((go_at_call 65; exact calls_later (HSM.out _ (Subtype.property _)))))
  refine wpQuiet_nil ?_
  rintro wy ⟨y, hy⟩
  have hgy : Grew w' wy := by rw [hy]; exact y.2
  clear hL hy y
  go_wp2
  go_ret
  exact ⟨ret_bool rfl, hgy⟩

theorem ops_k2 {s : RSpec} (hv : validM s = true) : s.ops = ((machOf s).k : Int) := by
  obtain ⟨⟨s1, s8, o1, o4⟩, _⟩ := valid_parts hv
  simp only [machOf]; omega

theorem reach_ints {w : World} {base : Nat} {u : Value} {xs : List Nat} (h : Seg w base 3 1 u xs.length (xs.map fun (x : Nat) => .int .i64 (x : Int))) : IsInts Any w u (ofN xs) := by
  refine IsNats.ints ?_
  refine (h.reads _ (fun i hi => ?_)).any
  simp [nthN, List.getD, hi]

set_option maxHeartbeats 4000000 in
theorem reads_ok (s : RSpec) (sB : Nat → Nat → Bool) (hsB : ∀ a b, sB a b = true ↔ NoTells (machOf s) (machOf s) a b) (x : Nat) (sv : Value) (w : World) (hs : IsSpec w sv s) (hv : validM s = true) (hxk : x < (machOf s).k) :
    Calls Try.prog 48 #[sv, .int .i64 (x : Int)] w fun e w' => e = .returned (.tuple #[.bool (readsB (machOf s) sB x), .int .i64 0]) ∧ Grew w w' := by
  have h : callsM s 0 (x : Int) (x : Int) = 0 := by
    rw [calls_zero hv, if_pos]
    have := ops_k2 hv
    unfold inM; simp; omega
  have hop0 := fun (A : Nat) (y : World) (hy : Grew w y) (hA : y.cell? ⟨A, 0, none⟩ = some (.int .i64 (x : Int))) => opened_reads s _ A x y (hs.grew hy) hA
  rw [if_pos h, h] at hop0
  have hM := wf_machOf hv
  have hmach := hs.isMach hv
  clear hs h
  obtain ⟨M, hMe⟩ : ∃ M, machOf s = M := ⟨_, rfl⟩
  rw [hMe] at hsB hM hxk hmach ⊢
  have HM := hmach
  obtain ⟨b1, off1, c1, b2, off2, c2, rfl, t1, t2⟩ := hmach
  obtain ⟨W0, hW0, g0, k0, k1, k2, k3, hz⟩ := box4 w (.int .i64 (M.n : Int)) (.int .i64 (M.k : Int)) (.slice (some ⟨b1, off1, none⟩) M.n c1) (.slice (some ⟨b2, off2, none⟩) M.n c2) 24
  obtain ⟨W1, hW1, g1, l0, hz1⟩ := box1 W0 (.int .i64 (x : Int)) 3
  have g01 := grew_trans g0 g1
  have r0 := (g1.cell (p := ⟨w.heap.size, 0, none⟩) hz).trans k0
  have r1 := (g1.cell (p := ⟨w.heap.size, 1, none⟩) hz).trans k1
  have r2 := (g1.cell (p := ⟨w.heap.size, 2, none⟩) hz).trans k2
  have r3 := (g1.cell (p := ⟨w.heap.size, 3, none⟩) hz).trans k3
  clear k0 k1 k2 k3
  have HOP := hid (hop0 W0.heap.size W1 g01 l0)
  have HRE := hid (fun (y : World) (hy : Grew w y) => reached_any M hM _ y (HM.grew hy))
  have HCO := hid (fun (B : Nat) (v : Value) (y : World) (hg : Grew W1 y) (hm : MBox y B M) (hv : IsInts Any y v (ofN (reachL M))) =>
    containsFunc_any 98 #[.pointer (some ⟨B, 0, none⟩), .pointer (some ⟨W0.heap.size, 0, none⟩)] (fun n => !sB n.toNat (M.nx n.toNat x)) v (ofN (reachL M)) y entered98 hv (fun i hi => by
      rw [length_ofN] at hi
      rw [nth_ofN]
      have hmem : nthN (reachL M) i ∈ reachL M := by rw [nthN_lt hi]; exact List.getElem_mem hi
      have hlt : nthN (reachL M) i < M.n := by
        obtain ⟨v, hv, he⟩ := (mem_reachL hM).1 hmem
        rw [← he]; exact stM_lt hM hM.n1 hv
      exact reads98_any M hM sB hsB B W0.heap.size _ x y hlt hxk hm ((hg.cell (p := ⟨W0.heap.size, 0, none⟩) hz1).trans l0)))
  have hfin : (!((ofN (reachL M)).any fun n => !sB n.toNat (M.nx n.toNat x))) = readsB M sB x := by
    unfold readsB ofN
    rw [List.any_map, List.all_eq_not_any_not]
    rfl
  have hlen : (ofN (reachL M)).length = (reachL M).length := length_ofN _
  obtain ⟨r, hr⟩ : ∃ r, (ofN (reachL M)).any (fun n => !sB n.toNat (M.nx n.toNat x)) = r := ⟨_, rfl⟩
  rw [hr] at HCO hfin
  rw [← hfin]
  have HT1 := hid t1; have HT2 := hid t2
  clear hop0 hMe hsB hr hfin t1 t2 HM
  go_enter Try.func48, Try.ntmps48
  go_wp2_with (first
    | (go_at_call 56; with_reducible refine HOP.out.mono ?_; rintro e w1 ⟨rfl, hx⟩; obtain ⟨W5, hW5, g5, q0, q1, q2, q3, hz5⟩ := box4 w1 (.int .i64 (M.n : Int)) (.int .i64 (M.k : Int)) (.slice (some ⟨b1, off1, none⟩) M.n c1) (.slice (some ⟨b2, off2, none⟩) M.n c2) 60; have hg := grew_trans hx g5; have hc := (bcell hg).1; have hg5 := grew_refl W5)
    | (go_at_call 90; with_reducible refine (HRE.out _ (grew_trans g01 hg)).mono ?_; rintro e w2 ⟨u, rfl, hg2, hseg⟩; have HSEG := hid hseg; clear hseg; obtain ⟨ua, uc, rfl, _⟩ := HSEG.out.shape)
    | (go_at_call 97; refine (HCO.out w1.heap.size _ _ (grew_trans hg hg2) (MBox.grew ⟨b1, off1, c1, b2, off2, c2, q0, q1, q2, q3, HT1.out.grew (grew_trans g01 hg), HT2.out.grew (grew_trans g01 hg)⟩ hg2) (reach_ints HSEG.out)).mono ?_; rintro e w3 ⟨rfl, hx3⟩))
  go_ret2
  exact ⟨rfl, grew_trans (grew_trans g01 hg) (grew_trans hg2 hx3)⟩

set_option maxHeartbeats 4000000 in
theorem reads_any (s : RSpec) (sB : Nat → Nat → Bool) (hsB : ∀ a b, sB a b = true ↔ NoTells (machOf s) (machOf s) a b) (a : Int) (sv : Value) (w : World) (hs : IsSpec w sv s) :
    Calls Try.prog 48 #[sv, .int .i64 a] w fun e w' => e = .returned (.tuple #[.bool (readsOf s sB a), .int .i64 (callsM s 0 a a)]) ∧ Grew w w' := by
  unfold readsOf
  by_cases h : callsM s 0 a a = 0
  · rw [if_pos h, h]
    obtain ⟨hv, _, x, _, _, rfl, _, _, hxk, _⟩ := calls_parts h
    exact reads_ok s sB hsB x sv w hs hv hxk
  · rw [if_neg h]
    have HS := hs
    obtain ⟨na, nc, ya, yc, rfl⟩ := isSpec_open' hs
    obtain ⟨W0, hW0, g0, k0, k1, k2, k3, hz⟩ := box4 w (.int .i64 s.st) (.int .i64 s.ops) (.slice na s.next.length nc) (.slice ya s.says.length yc) 24
    obtain ⟨W1, hW1, g1, l0, hz1⟩ := box1 W0 (.int .i64 a) 3
    have g01 := grew_trans g0 g1
    have r0 := (g1.cell (p := ⟨w.heap.size, 0, none⟩) hz).trans k0
    have r1 := (g1.cell (p := ⟨w.heap.size, 1, none⟩) hz).trans k1
    have r2 := (g1.cell (p := ⟨w.heap.size, 2, none⟩) hz).trans k2
    have r3 := (g1.cell (p := ⟨w.heap.size, 3, none⟩) hz).trans k3
    clear k0 k1 k2 k3
    have hop := opened_reads s _ _ a W1 (HS.grew g01) l0
    rw [if_neg h] at hop
    obtain ⟨ev, hev⟩ : ∃ ev, callsM s 0 a a = ev := ⟨_, rfl⟩
    rw [hev] at hop h ⊢
    have hb : (ev == 0) = false := beq_false_of_ne h
    have HOP := hid hop
    clear hop h HS hev hs
    go_enter Try.func48, Try.ntmps48
    go_wp2_with (go_at_call 56; with_reducible refine HOP.out.mono ?_; rintro e w1 ⟨rfl, hx⟩)
    go_ret2
    exact ⟨rfl, (by repeat' (first | exact grew_refl _ | assumption | refine grew_alloc ?_ _ | refine Below.setCell ?_ (by (try simp); omega) _ | refine grew_drewN ?_ _ | refine grew_drew ?_ | refine grew_trans ?_ (by assumption)))⟩
end Go.Proofs.Ytnebpcpihldllaa
