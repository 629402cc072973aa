/- Walks: the first state and calls that neither commute nor overwrite each other, of the program's own text. -/
import Derived.Test.YtnebpcpihldllaaWReads
namespace Go.Lin

/-- Two calls meddle in a state. -/
def badB (M : Mach) (sB : Nat → Nat → Bool) (q a b : Nat) : Bool := !commuteB M sB q a b && !overB M sB q a b && !overB M sB q b a

/-- None in front of the i-th state and the calls a and b meddle. -/
def NoMed (M : Mach) (sB : Nat → Nat → Bool) (i a b : Nat) : Prop :=
  ∀ i' a' b', i' < (reachL M).length → a' < M.k → a' ≤ b' → b' < M.k → (i' < i ∨ (i' = i ∧ (a' < a ∨ (a' = a ∧ b' < b)))) → badB M sB (nthN (reachL M) i') a' b' = false

/-- What Meddles answers. -/
def MedIs (M : Mach) (sB : Nat → Nat → Bool) (q a b ev : Int) : Prop :=
  (ev = 0 ∧ ∃ i x y : Nat, i < (reachL M).length ∧ x < M.k ∧ x ≤ y ∧ y < M.k ∧ badB M sB (nthN (reachL M) i) x y = true ∧ NoMed M sB i x y ∧ q = (nthN (reachL M) i : Int) ∧ a = (x : Int) ∧ b = (y : Int)) ∨
  (ev = 5 ∧ q = 0 ∧ a = 0 ∧ b = 0 ∧ NoMed M sB (reachL M).length 0 0)

theorem MedIs.unique {M : Mach} {sB : Nat → Nat → Bool} {q a b ev q' a' b' ev' : Int} (h : MedIs M sB q a b ev) (h' : MedIs M sB q' a' b' ev') : q = q' ∧ a = a' ∧ b = b' ∧ ev = ev' := by
  rcases h with ⟨e, i, x, y, hi, hx, hxy, hy, hb, hn, e1, e2, e3⟩ | ⟨e, e1, e2, e3, hn⟩ <;> rcases h' with ⟨e', i', x', y', hi', hx', hxy', hy', hb', hn', e1', e2', e3'⟩ | ⟨e', e1', e2', e3', hn'⟩
  · have h1 : ¬ (i' < i ∨ (i' = i ∧ (x' < x ∨ (x' = x ∧ y' < y)))) := fun h => by
      have := hn i' x' y' hi' hx' hxy' hy' h
      rw [hb'] at this; cases this
    have h2 : ¬ (i < i' ∨ (i = i' ∧ (x < x' ∨ (x = x' ∧ y < y')))) := fun h => by
      have := hn' i x y hi hx hxy hy h
      rw [hb] at this; cases this
    have h3 : i = i' ∧ x = x' ∧ y = y' := by omega
    obtain ⟨rfl, rfl, rfl⟩ := h3
    exact ⟨e1.trans e1'.symm, e2.trans e2'.symm, e3.trans e3'.symm, e.trans e'.symm⟩
  · have := hn' i x y hi hx hxy hy (.inl hi)
    rw [hb] at this; cases this
  · have := hn i' x' y' hi' hx' hxy' hy' (.inl hi')
    rw [hb'] at this; cases this
  · exact ⟨e1.trans e1'.symm, e2.trans e2'.symm, e3.trans e3'.symm, e.trans e'.symm⟩

section
variable {M : Mach} {sB : Nat → Nat → Bool} {i a b : Nat}
theorem NoMed.zero (M : Mach) (sB : Nat → Nat → Bool) : NoMed M sB 0 0 0 := fun _ _ _ _ _ _ _ h => by omega
theorem NoMed.nextState (h : NoMed M sB i M.k 0) : NoMed M sB (i + 1) 0 0 := fun i' a' b' h1 h2 h3 h4 h5 => h i' a' b' h1 h2 h3 h4 (by omega)
theorem NoMed.row (h : NoMed M sB i a 0) : NoMed M sB i a a := fun i' a' b' h1 h2 h3 h4 h5 => h i' a' b' h1 h2 h3 h4 (by omega)
theorem NoMed.nextRow (h : NoMed M sB i a M.k) : NoMed M sB i (a + 1) 0 := fun i' a' b' h1 h2 h3 h4 h5 => h i' a' b' h1 h2 h3 h4 (by omega)
theorem NoMed.next (h : NoMed M sB i a b) (hb : badB M sB (nthN (reachL M) i) a b = false) : NoMed M sB i a (b + 1) := fun i' a' b' h1 h2 h3 h4 h5 => by
  by_cases e : i' = i ∧ a' = a ∧ b' = b
  · obtain ⟨rfl, rfl, rfl⟩ := e; exact hb
  · exact h i' a' b' h1 h2 h3 h4 (by omega)
end
end Go.Lin
namespace Go.Proofs.Ytnebpcpihldllaa
open Go.RowKit Go.Lin

theorem results_tmp4 {fn : Func} {t u v x : Tmp} (h : fn.results = #[.tmp t, .tmp u, .tmp v, .tmp x]) (tmps : Array Value) (P : Program) (w : World) :
    (results fn tmps).run P w = .ok (.tuple #[tmps.getD t undef, tmps.getD u undef, tmps.getD v undef, tmps.getD x undef]) w := by
  simp [results, h]

theorem reach_nats {w : World} {base : Nat} {u : Value} {xs : List Nat} (h : Seg w base 3 1 u xs.length (xs.map fun (x : Nat) => .int .i64 (x : Int))) : IsNats Any w u xs := by
  refine (h.reads _ (fun i hi => ?_)).any
  simp [nthN, List.getD, hi]

theorem nats_shape' {S : Nat → Obj → Prop} {w : World} {u : Value} {xs : List Nat} (h : IsNats S w u xs) : ∃ a c, u = .slice a xs.length c := by
  obtain ⟨a, c, rfl, _, _⟩ := h
  exact ⟨a, c, rfl⟩

set_option maxHeartbeats 4000000 in
theorem meddles_ok (s : RSpec) (sB : Nat → Nat → Bool) (hsB : ∀ a b, sB a b = true ↔ NoTells (machOf s) (machOf s) a b) (sv : Value) (w : World) (hs : IsSpec w sv s) (hv : validM s = true) :
    Calls Try.prog 50 #[sv] w fun e w' => ∃ q a b ev : Int, e = .returned (.tuple #[.int .i64 q, .int .i64 a, .int .i64 b, .int .i64 ev]) ∧ MedIs (machOf s) sB q a b ev ∧ Grew w w' := by
  have HOP := hid (fun (y : World) (hy : Grew w y) => opened_ok s _ 70 #[] y (hs.grew hy) hv entered70 (whatever_says _ y s (hs.grew hy)))
  have hM := wf_machOf hv
  have hmach := hs.isMach hv
  clear hs
  obtain ⟨M, hMe⟩ : ∃ M, machOf s = M := ⟨_, rfl⟩
  rw [hMe] at hsB hM hmach ⊢
  have HRE := hid (fun (y : World) (hy : Grew w y) => reached_any M hM _ y (hmach.grew hy))
  have HCM := hid (fun (q a b : Nat) (y : World) (hy : Grew w y) (h1 : q < M.n) (h2 : a < M.k) (h3 : b < M.k) => commute87_any M hM sB hsB _ q a b y h1 h2 h3 (hmach.grew hy))
  have HOV := hid (fun (q a b : Nat) (y : World) (hy : Grew w y) (h1 : q < M.n) (h2 : a < M.k) (h3 : b < M.k) => over93_any M hM sB hsB _ q a b y h1 h2 h3 (hmach.grew hy))
  obtain ⟨b1, off1, c1, b2, off2, c2, rfl, _, _⟩ := hmach
  have n8 := hM.n8
  have k4 := hM.k4
  have HLT := hid (fun (i : Nat) (hi : i < (reachL M).length) => show nthN (reachL M) i < M.n from by
    have hmem : nthN (reachL M) i ∈ reachL M := by rw [nthN_lt hi]; exact List.getElem_mem hi
    obtain ⟨v, hv, he⟩ := (mem_reachL hM).1 hmem
    rw [← he]; exact stM_lt hM hM.n1 hv)
  clear hMe hsB
  obtain ⟨W0, hW0, g0, k0, k1, k2, k3, hz⟩ := box4 w (.int .i64 (M.n : Int)) (.int .i64 (M.k : Int)) (.slice (some ⟨b1, off1, none⟩) M.n c1) (.slice (some ⟨b2, off2, none⟩) M.n c2) 24
  obtain ⟨xs, hxs⟩ : ∃ xs, reachL M = xs := ⟨_, rfl⟩
  have hnz := NoMed.zero M sB
  have HXS := hid hxs
  have HNZ := hid hnz
  rw [hxs] at HRE HLT
  clear hxs hnz
  go_enter Try.func50, Try.ntmps50
  go_wp2_with (first
    | (go_at_call 56; with_reducible refine (HOP.out _ g0).mono ?_; rintro e w1 ⟨rfl, hx⟩; obtain ⟨W5, hW5, g5, q0, q1, q2, q3, hz5⟩ := box4 w1 (.int .i64 (M.n : Int)) (.int .i64 (M.k : Int)) (.slice (some ⟨b1, off1, none⟩) M.n c1) (.slice (some ⟨b2, off2, none⟩) M.n c2) 60; have hg := grew_trans hx g5; have hg5 := grew_refl W5)
    | (go_at_call 90; with_reducible refine (HRE.out _ (grew_trans g0 hg)).mono ?_; rintro e w2 ⟨u, rfl, hg2, hseg⟩; have HNAT := hid (reach_nats hseg); clear hseg; obtain ⟨ua, uc, rfl⟩ := nats_shape' HNAT.out))
  have h0 := grew_trans g0 (grew_trans hg hg2)
  go_loopg [23] xs.length (fun g i wr => ∃ k : Nat, k ≤ xs.length ∧ i = .int .i64 k ∧ Hid (g = xs.length - k) ∧ Grew w2 wr ∧ Hid (NoMed M sB k 0 0))
  case atStart => exact ⟨0, Nat.zero_le _, rfl, hid rfl, grew_refl _, HNZ⟩
  case round =>
    obtain ⟨k, hk, rfl, HG, hgr, HN⟩ := hrel
    have hgg := grew_trans hg2 hgr
    have hc := (bcell hgg).1
    have hzz := Nat.lt_of_lt_of_le hz5 hgg.size
    by_cases hlt : k < xs.length
    · obtain ⟨_, _, hve, _, hcx⟩ := HNAT.out
      simp only [Value.slice.injEq, true_and] at hve
      obtain ⟨rfl, rfl⟩ := hve
      obtain ⟨b, off, o, rfl, hb, _, hcx⟩ := hcx k hlt
      replace hcx : wr.cell? ⟨b, off + k, none⟩ = some (.int .i64 ((nthN xs k : Nat) : Int)) := (hgr.cell (p := ⟨b, off + k, none⟩) (lt_of_obj hb)).trans hcx
      have hql := HLT.out k hlt
      have HN0 := HN
      obtain ⟨q, hq⟩ : ∃ q, nthN xs k = q := ⟨_, rfl⟩
      rw [hq] at hcx hql
      have HQ := hid hq
      clear hb HN hq
      obtain ⟨wa, rfl⟩ : ∃ wa : World, wa = wr := ⟨_, rfl⟩
      go_wp2
      clear hcx hc hzz
      go_loopg [29] M.k (fun g i wr => ∃ a : Nat, a ≤ M.k ∧ i = .int .i64 a ∧ Hid (g = M.k - a) ∧ Grew w2 wr ∧ Hid (NoMed M sB k a 0))
      case atStart => exact ⟨0, Nat.zero_le _, rfl, hid rfl, hgr, HN0⟩
      case round =>
        clear HN0 hgg hgr
        obtain ⟨a, ha, rfl, HGA, hgr, HN⟩ := hrel
        have hgg := grew_trans hg2 hgr
        have hc := (bcell hgg).1
        have hzz := Nat.lt_of_lt_of_le hz5 hgg.size
        by_cases hak : a < M.k
        · obtain ⟨wb, rfl⟩ : ∃ wb : World, wb = wr := ⟨_, rfl⟩
          go_wp2
          clear hc hzz
          go_loopg [11] (M.k - a) (fun g i wr => ∃ b : Nat, a ≤ b ∧ b ≤ M.k ∧ i = .int .i64 b ∧ Hid (g = M.k - b) ∧ Grew w2 wr ∧ Hid (NoMed M sB k a b))
          case atStart => exact ⟨a, Nat.le_refl _, ha, rfl, hid rfl, hgr, hid HN.out.row⟩
          case round =>
            clear HN hgg hgr
            obtain ⟨b', hab, hb', rfl, HGB, hgr, HN⟩ := hrel
            have hgg := grew_trans hg2 hgr
            have hc := (bcell hgg).1
            have hzz := Nat.lt_of_lt_of_le hz5 hgg.size
            by_cases hbk : b' < M.k
            · obtain ⟨v1, hv1⟩ : ∃ v, commuteB M sB q a b' = v := ⟨_, rfl⟩
              obtain ⟨v2, hv2⟩ : ∃ v, overB M sB q a b' = v := ⟨_, rfl⟩
              obtain ⟨v3, hv3⟩ : ∃ v, overB M sB q b' a = v := ⟨_, rfl⟩
              have h1 := fun (y : World) (hy : Grew w y) => HCM.out q a b' y hy hql hak hbk
              have h2 := fun (y : World) (hy : Grew w y) => HOV.out q a b' y hy hql hak hbk
              have h3 := fun (y : World) (hy : Grew w y) => HOV.out q b' a y hy hql hbk hak
              rw [hv1] at h1
              rw [hv2] at h2
              rw [hv3] at h3
              have H1 := hid h1; have H2 := hid h2; have H3 := hid h3
              have hbad : badB M sB q a b' = (!v1 && !v2 && !v3) := by unfold badB; rw [hv1, hv2, hv3]
              have HBAD := hid hbad
              clear h1 h2 h3 hv1 hv2 hv3 hbad hgg
              cases v1 <;> cases v2 <;> cases v3
              all_goals
                go_wp2_with (first
                  | (go_at_call 87; (with_reducible refine (H1.out _ (grew_trans h0 hgr)).mono ?_); rintro e w7 ⟨rfl, hx7⟩; replace hgr := grew_trans hgr hx7; have hgg := grew_trans hg2 hgr; have hc := (bcell hgg).1; have hzz := Nat.lt_of_lt_of_le hz5 hgg.size; clear hx7 hgg)
                  | (go_at_call 93; (with_reducible refine (H2.out _ (grew_trans h0 hgr)).mono ?_); rintro e w8 ⟨rfl, hx8⟩; replace hgr := grew_trans hgr hx8; have hgg := grew_trans hg2 hgr; have hc := (bcell hgg).1; have hzz := Nat.lt_of_lt_of_le hz5 hgg.size; clear hx8 hgg)
                  | (go_at_call 93; (with_reducible refine (H3.out _ (grew_trans h0 hgr)).mono ?_); rintro e w9 ⟨rfl, hx9⟩; replace hgr := grew_trans hgr hx9; have hgg := grew_trans hg2 hgr; have hc := (bcell hgg).1; have hzz := Nat.lt_of_lt_of_le hz5 hgg.size; clear hx9 hgg))
              · (try simp only [Exit.inBlock, Exit.then])
                refine bodyPost_ret (results_tmp4 rfl _ _ _) rfl ?_
                refine ⟨(q : Int), (a : Int), (b' : Int), 0, rfl, .inl ⟨rfl, k, a, b', ?_, hak, hab, hbk, ?_, HN.out, ?_, rfl, rfl⟩, grew_trans h0 hgr⟩
                · rw [HXS.out]; exact hlt
                · rw [HXS.out, HQ.out]; exact HBAD.out
                · rw [HXS.out, HQ.out]
              all_goals
                go_roundg (M.k - (b' + 1))
                case measure => have := HGB.out; omega
                case rel => exact ⟨b' + 1, by omega, by omega, by go_num, hid rfl, hgr, hid (HN.out.next (by rw [HXS.out, HQ.out]; exact HBAD.out))⟩
            · obtain rfl : b' = M.k := by omega
              go_wp2
              go_roundg (M.k - (a + 1))
              case measure => have := HGA.out; omega
              case rel => exact ⟨a + 1, by omega, by go_num, hid rfl, hgr, hid HN.out.nextRow⟩
        · obtain rfl : a = M.k := by omega
          go_wp2
          go_roundg (xs.length - (k + 1))
          case measure => have := HG.out; omega
          case rel => exact ⟨k + 1, by omega, by go_num, hid rfl, hgr, hid HN.out.nextState⟩
    · obtain rfl : k = xs.length := by omega
      go_wp2
      (try simp only [Exit.inBlock, Exit.then])
      refine bodyPost_ret (results_tmp4 rfl _ _ _) rfl ?_
      have h := HN.out
      refine ⟨0, 0, 0, 5, rfl, .inr ⟨rfl, rfl, rfl, rfl, by rw [HXS.out]; exact h⟩, grew_trans (grew_trans g0 hg) hgg⟩

theorem meddles_bad (s : RSpec) (sv : Value) (w : World) (hs : IsSpec w sv s) (hv : validM s = false) :
    Calls Try.prog 50 #[sv] w fun e w' => e = .returned (.tuple #[.int .i64 0, .int .i64 0, .int .i64 0, .int .i64 10]) ∧ Grew w w' := by
  have HOP := hid (fun (y : World) (hy : Grew w y) => opened_bad s _ (.func (.func 70) #[] #[]) y (hs.grew hy) hv)
  obtain ⟨nv, yv, rfl, _, _⟩ := hs
  clear hv
  obtain ⟨W0, hW0, g0, k0, k1, k2, k3, hz⟩ := box4 w (.int .i64 s.st) (.int .i64 s.ops) nv yv 24
  go_enter Try.func50, Try.ntmps50
  go_wp2_with (go_at_call 56; with_reducible refine (HOP.out _ g0).mono ?_; rintro e w1 ⟨rfl, hx⟩; have hc := (bcell hx).1)
  (try simp only [Exit.inBlock, Exit.then])
  refine bodyPost_ret (results_tmp4 rfl _ _ _) rfl ?_
  exact ⟨rfl, grew_alloc (grew_trans g0 hx) _⟩
end Go.Proofs.Ytnebpcpihldllaa
