/- Walks: maps.Equal (69), slices.Equal (70), SameMemory (35) of two memories that are the same. -/
import Derived.Test.YtmohnddglmolgaaGreatDoorKpAonA
import Derived.Shelf.SlMaps.Equal
import Derived.Test.YtmohnddglmolgaaGreatDoorKwB
import Derived.Deep.QuietTactic
namespace Go.Proofs.YtmohnddglmolgaaGreatDoor
open Go Go.RowKit Go.Lin Go.Lin.Kp Go.Maps

/-- Two elements are the same number. -/
def eqI : DataW Unit → DataW Unit → Bool
  | .lit (.int _ a), .lit (.int _ b) => a == b
  | _, _ => false

theorem nmap_equal {w : World} {b1 b2 n1 n2 : Nat} {S : Nat → Option Int} (h1 : NMap w Tryz.prog 3 3 b1 n1 S) (h2 : NMap w Tryz.prog 3 3 b2 n2 S) : ∃ D1 D2 : DataW Unit, w.ownsMap Tryz.prog 3 (plainElem Tryz.prog 3) b1 n1 D1 ∧ w.ownsMap Tryz.prog 3 (plainElem Tryz.prog 3) b2 n2 D2 ∧ Lib.equalFuncD eqI D1 D2 = true := by
  obtain ⟨D1, o1, k1, s1⟩ := h1
  obtain ⟨D2, o2, k2, s2⟩ := h2
  refine ⟨D1, D2, o1, o2, ?_⟩
  obtain ⟨es1, rfl, hap1, hkeys1⟩ := o1.entries (int_keyed Tryz.underlying3)
  obtain ⟨es2, rfl, hap2, hkeys2⟩ := o2.entries (int_keyed Tryz.underlying3)
  have hmem : ∀ {es : List (Lit × DataW Unit)} (hk : ∀ p ∈ es, WideAt.IsKeyLit p.1) (k : Lit), has (DataW.map es) k = true ↔ k ∈ es.map (·.1) := by
    intro es hk k
    constructor
    · intro h
      obtain ⟨p, hp, hs⟩ := List.any_eq_true.1 (show es.any (fun p => p.1.sameKey k) = true from h)
      exact List.mem_map.2 ⟨p, hp, WideAt.sameKey_eq hs⟩
    · intro h
      obtain ⟨p, hp, rfl⟩ := List.mem_map.1 h
      exact List.any_eq_true.2 ⟨p, hp, WideAt.sameKey_self (hk p hp)⟩
  have hhas : ∀ k, has (DataW.map es1) k = has (DataW.map es2) k := by
    intro k
    rw [Bool.eq_iff_iff]
    constructor
    · intro h
      obtain ⟨i, _, rfl⟩ := k1 k h
      rw [(s2 i).1, ← (s1 i).1]; exact h
    · intro h
      obtain ⟨i, _, rfl⟩ := k2 k h
      rw [(s1 i).1, ← (s2 i).1]; exact h
  have hlen : es1.length = es2.length := by
    have n1 : (es1.map (·.1)).Nodup := List.pairwise_map.2 hap1
    have n2 : (es2.map (·.1)).Nodup := List.pairwise_map.2 hap2
    have hp := (List.perm_ext_iff_of_nodup n1 n2).2 (fun k => by rw [← hmem hkeys1 k, ← hmem hkeys2 k, hhas k])
    have := hp.length_eq
    simpa using this
  unfold Lib.equalFuncD
  rw [Bool.and_eq_true, decide_eq_true_eq]
  refine ⟨hlen, ?_⟩
  rw [List.all_eq_true]
  intro p hp
  have hp' : p ∈ es1 := hp
  have hh1 : has (DataW.map es1) p.1 = true := (hmem hkeys1 p.1).2 (List.mem_map.2 ⟨p, hp', rfl⟩)
  have hh2 : has (DataW.map es2) p.1 = true := by rw [← hhas]; exact hh1
  obtain ⟨i, hi, hpi⟩ := k1 p.1 hh1
  have hs := (s1 i).1
  rw [← hpi, hh1] at hs
  obtain ⟨v, hv⟩ := Option.isSome_iff_exists.1 hs.symm
  have e1 := (s1 i).2 v hv .nil
  have e2 := (s2 i).2 v hv .nil
  rw [← hpi] at e1 e2
  have e3 : (DataW.map es1).atKey p.1 .nil = p.2 := WideAt.atKey_mem .nil (hkeys1 p hp') hap1 hp'
  unfold Lib.goodD
  rw [hh2, Bool.true_and, e2, ← e3, e1]
  show (v == v) = true
  exact beq_self_eq_true v

theorem equal69_same (b1 b2 n1 n2 : Nat) (S : Nat → Option Int) (w : World) (h1 : NMap w Tryz.prog 3 3 b1 n1 S) (h2 : NMap w Tryz.prog 3 3 b2 n2 S) :
    Calls Tryz.prog 69 #[.map (some b1), .map (some b2)] w fun e w' => e = .returned (.bool true) ∧ Grew w w' := by
  obtain ⟨D1, D2, o1, o2, heq⟩ := nmap_equal h1 h2
  refine (AnyEq.maps_Equal Tryz.eqM (int_keyed Tryz.underlying3) (plainElem Tryz.prog 3) (plainElem Tryz.prog 3) eqI b1 b2 n1 n2 D1 D2 w o1 o2 (.int .i64 0) (fun w => by kernel_rfl) (.lit (.int .i64 0)) [] (plainElem_int Tryz.underlying3 (by decide)) ?_).mono ?_
  · intro W x y xd yd xp yp hx hy
    obtain ⟨a, rfl, ea, _⟩ := plainElem_int_inv Tryz.underlying3 hx
    obtain ⟨b, rfl, eb, _⟩ := plainElem_int_inv Tryz.underlying3 hy
    simp only [Prod.mk.injEq] at ea eb
    obtain ⟨rfl, rfl⟩ := ea
    obtain ⟨rfl, rfl⟩ := eb
    refine ⟨?_, fun x y => ?_⟩
    · rw [binOp_neq, Sem.run_pure]; rfl
    · simp [go_sem]
  · rintro e w' ⟨rfl, hg⟩
    rw [heq]
    exact ⟨rfl, (grew_refl w).grown hg (by simp) (fun k e => by cases e)⟩

set_option maxHeartbeats 1000000 in
theorem equal70_same (v u : Value) (xs : List Int) (w : World) (hx : IsInts Any w v xs) (hy : IsInts Any w u xs) :
    Calls Tryz.prog 70 #[v, u] w fun e w' => e = .returned (.bool true) ∧ Grew w w' := by
  obtain ⟨a, cap, rfl, hm, hc⟩ := hx
  obtain ⟨a2, cap2, rfl, hm2, hc2⟩ := hy
  have HC := hid hc; clear hc
  have HC2 := hid hc2; clear hc2
  obtain ⟨n, hn⟩ : ∃ n, xs.length = n := ⟨_, rfl⟩
  rw [hn] at HC HC2 hm hm2 ⊢
  clear hn
  go_enter Tryz.func70, Tryz.ntmps70
  go_wp2
  go_loopg [5, 13] n (fun g _ i wr => ∃ k : Nat, k ≤ n ∧ i = .int .i64 k ∧ g = n - k ∧ ∃ q, wr = w.drewN q)
  case atStart => exact ⟨0, Nat.zero_le _, rfl, rfl, 0, rfl⟩
  case round =>
    obtain ⟨k, hk, rfl, hg, q, rfl⟩ := hrel
    have HG := hid hg; clear hg
    by_cases hlt : k < n
    · obtain ⟨b, off, o, rfl, hb, _, hcx⟩ := HC.out k hlt
      obtain ⟨b2, off2, o2, rfl, hb2, _, hcy⟩ := HC2.out k hlt
      obtain ⟨y, hy⟩ : ∃ y, nth xs k = y := ⟨_, rfl⟩
      rw [hy] at hcx hcy
      clear hb hb2 hy
      go_wp2
      go_quiet (fail)
      go_wp2
      go_roundg (n - (k + 1))
      case measure => have := HG.out; omega
      case rel => exact ⟨k + 1, by omega, by go_num, rfl, _, rfl⟩
    · obtain rfl : k = n := by omega
      go_wp2
      go_ret
      exact ⟨rfl, grew_drewN (grew_refl _) _⟩

theorem quiet_load {P : Program} {C : World → Prop} {a : Act} {o : Oper} {K : Act → Prop} (ty : TypeId) (x : Operand) (h : o.op = .load ty x) (v : Value) (hv : ∀ w, C w → (Instr.loadAt ty (a.eval x)).run P w = .ok v w) (hk : K (a.put o.dst v)) : o.quiet P a C K :=
  ⟨v, fun w hw => by
    have e : (execOp a.eval o).run P w = .ok (.value v) w := by
      simp only [execOp, h, Sem.run_bind, hv w hw, Result.andThen_ok, Sem.run_pure]
    unfold Oper.quietAt
    rw [e]; exact ⟨rfl, rfl⟩, hk⟩

set_option maxHeartbeats 4000000 in
set_option maxRecDepth 20000 in
theorem same35_same (bm bm' : Nat) (M : Mem) (F F' : Nat → Prop) (w : World) (h : IsMem w bm M F) (h' : IsMem w bm' M F') :
    Calls Tryz.prog 35 #[ptr bm, ptr bm'] w fun e w' => e = .returned (.bool true) ∧ Grew w w' := by
  have HN := hid (none57_mem bm M F w h)
  have HN' := hid (none57_mem bm' M F' w h')
  obtain ⟨bn, sv, h⟩ := h
  obtain ⟨bn', sv', h'⟩ := h'
  obtain ⟨sa, sc, rfl⟩ : ∃ sa sc, sv = .slice sa M.early.length sc := by obtain ⟨a, c, e, _⟩ := h.early; exact ⟨a, c, e⟩
  obtain ⟨sa', sc', rfl⟩ : ∃ sa sc, sv' = .slice sa M.early.length sc := by obtain ⟨a, c, e, _⟩ := h'.early; exact ⟨a, c, e⟩
  have HME := hid (fun (W : World) (hg : Grew w W) => equal69_same bn bn' M.steps M.steps M.notes W (h.grew hg).notes (h'.grew hg).notes)
  have HSE := hid (fun (W : World) (hg : Grew w W) => equal70_same (.slice sa M.early.length sc) (.slice sa' M.early.length sc') M.early W (h.grew hg).early.any (h'.grew hg).early.any)
  have rF := rangeAt_row h.row 1 64 (by omega) (fun i => .int .i64 (M.fresh i)) (fun j hj => by unfold memAt; rw [if_neg (by omega), if_pos (by omega), show 1 + j - 1 = j by omega])
  have rF' := rangeAt_row h'.row 1 64 (by omega) (fun i => .int .i64 (M.fresh i)) (fun j hj => by unfold memAt; rw [if_neg (by omega), if_pos (by omega), show 1 + j - 1 = j by omega])
  have rK := rangeAt_row h.row 65 64 (by omega) (fun i => .int .i64 (M.kept i)) (fun j hj => by unfold memAt; rw [if_neg (by omega), if_neg (by omega), if_pos (by omega), show 65 + j - 65 = j by omega])
  have rK' := rangeAt_row h'.row 65 64 (by omega) (fun i => .int .i64 (M.kept i)) (fun j hj => by unfold memAt; rw [if_neg (by omega), if_neg (by omega), if_pos (by omega), show 65 + j - 65 = j by omega])
  have cells : ∀ (f : Nat → Int), ∃ (cs : List Value), (List.range 64).map (fun i => Value.int .i64 (f i)) = cs ∧ cs.length = 64 ∧ ∀ W, (Op.equalIn 10000 84 (.agg cs.toArray) (.agg cs.toArray)).run Tryz.prog W = .ok true W := fun f => by
    refine ⟨_, rfl, by simp, fun W => ?_⟩
    have := run_equalIn_ints (P := Tryz.prog) W 9998 84 3 64 Tryz.underlying84 Tryz.underlying3 (fun _ => by kernel_rfl) ((List.range 64).map f) ((List.range 64).map f) (by simp) (by simp)
    rw [List.map_map] at this
    rw [show (List.map f (List.range 64) == List.map f (List.range 64)) = true from beq_self_eq_true _] at this
    exact this
  obtain ⟨fs, hfs, hfl, hfe⟩ := cells M.fresh
  obtain ⟨ks, hks, hkl, hke⟩ := cells M.kept
  rw [hfs] at rF rF'
  rw [hks] at rK rK'
  have hgq : Tryz.prog.eqGuardType Tryz.prog.depth 84 = false := by kernel_rfl
  have z1 : (Tryz.prog.info? 84).map (·.size) = some fs.length := by rw [hfl]; kernel_rfl
  have z2 : (Tryz.prog.info? 84).map (·.size) = some ks.length := by rw [hkl]; kernel_rfl
  have c129 := h.cN; have d129 := h'.cN
  have c130 := h.off; have d130 := h'.off
  have c131 := h.cP; have d131 := h'.cP
  have c132 := h.cE; have d132 := h'.cE
  obtain ⟨o, ho⟩ : ∃ o, (!M.on) = o := ⟨_, rfl⟩
  obtain ⟨p, hp⟩ : ∃ p : Int, (M.plan : Int) = p := ⟨_, rfl⟩
  rw [ho] at c130 d130
  rw [hp] at c131 d131
  have RF := hid rF; have RF' := hid rF'; have RK := hid rK; have RK' := hid rK'; have Z1 := hid z1; have Z2 := hid z2
  have hb1 : bm < w.heap.size := h.row.lt
  have hb2 : bm' < w.heap.size := h'.row.lt
  have ld : ∀ (b o : Nat) (cs : List Value), b < w.heap.size → w.rangeAt b o cs → (Tryz.prog.info? 84).map (·.size) = some cs.length → ∀ x : Later w, (Instr.loadAt 84 (.pointer (some ⟨b, o, none⟩))).run Tryz.prog x.1 = .ok (.agg cs.toArray) x.1 := fun b o cs hb hr hz x =>
    run_loadAt_mid x.1 b o 84 cs _ (fun j v hv => (x.2.cell (p := ⟨b, o + j, none⟩) hb).trans (hr j v hv)) Tryz.underlying84 rfl hz
  have L1 := ld bm 1 fs hb1 rF z1
  have L2 := ld bm' 1 fs hb2 rF' z1
  have L3 := ld bm 65 ks hb1 rK z2
  have L4 := ld bm' 65 ks hb2 rK' z2
  obtain ⟨fa, hfa⟩ : ∃ a, fs.toArray = a := ⟨_, rfl⟩
  obtain ⟨ka, hka⟩ : ∃ a, ks.toArray = a := ⟨_, rfl⟩
  rw [hfa] at hfe L1 L2
  rw [hka] at hke L3 L4
  clear RF RF' RK RK' Z1 Z2 rF rF' rK rK' z1 z2 hfs hks hfl hkl cells h h' ho hp hfa hka ld
  go_enter Tryz.func35, Tryz.ntmps35
  go_wp2_with (first
    | (go_at_call 57; (with_reducible refine HN.out.mono ?_); rintro e w1 ⟨rfl, rfl⟩)
    | (go_at_call 57; (with_reducible refine HN'.out.mono ?_); rintro e w1 ⟨rfl, rfl⟩))
  refine wp_region_later (by kernel_rfl) (by kernel_rfl) (fun hL => ?_)
  simp only [List.append_eq, List.cons_append, List.nil_append]
  have J1 := hid L1; have J2 := hid L2; have J3 := hid L3; have J4 := hid L4
  clear L1 L2 L3 L4
  repeat (first
    | (go_big_quiet_want; (first
        | (refine quiet_load 84 _ rfl (.agg fa) (fun W hW => by obtain ⟨z, rfl⟩ := hW; exact J1.out z) ?_)
        | (refine quiet_load 84 _ rfl (.agg fa) (fun W hW => by obtain ⟨z, rfl⟩ := hW; exact J2.out z) ?_)
        | (refine quiet_load 84 _ rfl (.agg ka) (fun W hW => by obtain ⟨z, rfl⟩ := hW; exact J3.out z) ?_)
        | (refine quiet_load 84 _ rfl (.agg ka) (fun W hW => by obtain ⟨z, rfl⟩ := hW; exact J4.out z) ?_)); (try simp only [Act.put, List.setIfInBounds_toArray, List.set_cons_zero, List.set_cons_succ]); go_big_quiet_on)
    | go_big_quiet_step (first
    | (go_at_call 69; exact calls_later (HME.out _ (Subtype.property _)))
    | (go_at_call 70; exact calls_later (HSE.out _ (Subtype.property _)))))
  refine wpQuiet_nil ?_
  rintro wy ⟨y, hy⟩
  have hwy : Grew w wy := by rw [hy]; exact y.2
  clear hL hy y
  go_wp2
  go_ret
  exact ⟨rfl, hwy⟩

end Go.Proofs.YtmohnddglmolgaaGreatDoor
