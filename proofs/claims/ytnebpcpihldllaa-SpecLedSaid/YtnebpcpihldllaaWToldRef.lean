/- Walks: the word read off the table of lengths, of the reference's text; what the reference answers of two states, and of classes. -/
import Derived.Test.YtnebpcpihldllaaWFar
import Derived.Test.YtnebpcpihldllaaWRefBegun
import Derived.Test.YtnebpcpihldllaaWWord
namespace Go.Lin

/-- The call o goes on from (a, b), where the table says l. -/
def goesM (M K : Mach) (l a b o : Nat) : Bool :=
  (decide (l = 1) && decide (M.sy a o ≠ K.sy b o)) || (decide (1 < l) && decide (dist M K (M.nx a o) (K.nx b o) = l - 1))

/-- v is the least call from q on that goes on, or -1. -/
def NextIs (M K : Mach) (l a b q : Nat) (v : Int) : Prop :=
  (v = -1 ∧ ∀ o, q ≤ o → o < M.k → goesM M K l a b o = false) ∨ ∃ p : Nat, v = (p : Int) ∧ q ≤ p ∧ p < M.k ∧ goesM M K l a b p = true ∧ ∀ o, q ≤ o → o < p → goesM M K l a b o = false

theorem NextIs.start (M K : Mach) (l a b : Nat) : NextIs M K l a b M.k (-1) := .inl ⟨rfl, fun o h1 h2 => absurd h1 (by omega)⟩

theorem NextIs.yes {M K : Mach} {l a b q : Nat} (hq : q < M.k) (h : goesM M K l a b q = true) : NextIs M K l a b q (q : Int) := .inr ⟨q, rfl, Nat.le_refl _, hq, h, fun o h1 h2 => absurd h1 (by omega)⟩

theorem NextIs.no {M K : Mach} {l a b q : Nat} {v : Int} (hn : NextIs M K l a b (q + 1) v) (h : goesM M K l a b q = false) : NextIs M K l a b q v := by
  rcases hn with ⟨h1, h2⟩ | ⟨p, h1, h2, h3, h4, h5⟩
  · refine .inl ⟨h1, fun o ho hk => ?_⟩
    by_cases he : o = q
    · subst he; exact h
    · exact h2 o (by omega) hk
  · refine .inr ⟨p, h1, by omega, h3, h4, fun o ho hk => ?_⟩
    by_cases he : o = q
    · subst he; exact h
    · exact h5 o (by omega) hk

/-- Some call goes on, and the word begins with the least one. -/
theorem NextIs.found {M K : Mach} (hM : M.WF) (hK : K.WF) (hk : M.k = K.k) {l a b : Nat} (ha : a < M.n) (hb : b < K.n) (hl : 0 < l) (hd : dist M K a b = l) {v : Int} (h : NextIs M K l a b 0 v) :
    ∃ p : Nat, v = (p : Int) ∧ p < M.k ∧ ((l = 1 ∧ IsFirst M K a b [p]) ∨ (1 < l ∧ dist M K (M.nx a p) (K.nx b p) = l - 1 ∧ ∀ ws, IsFirst M K (M.nx a p) (K.nx b p) ws → IsFirst M K a b (p :: ws))) := by
  obtain ⟨m, rfl⟩ : ∃ m, l = m + 1 := ⟨l - 1, by omega⟩
  rcases h with ⟨_, h2⟩ | ⟨p, h1, _, h3, h4, h5⟩
  · obtain ⟨o, ho, hg⟩ := dist_next hM hK hk ha hb hd
    have := h2 o (Nat.zero_le _) ho
    unfold goesM at this
    rcases hg with ⟨rfl, hs⟩ | ⟨hm, hs⟩
    · simp [hs] at this
    · simp [hs] at this; omega
  · refine ⟨p, h1, h3, ?_⟩
    cases m with
    | zero =>
      refine .inl ⟨rfl, first_one hk h3 ?_ (fun o ho => ?_)⟩
      · unfold goesM at h4; simpa using h4
      · have := h5 o (Nat.zero_le _) ho
        unfold goesM at this; simpa using this
    | succ m =>
      have hp : dist M K (M.nx a p) (K.nx b p) = m + 1 := by unfold goesM at h4; simpa using h4
      refine .inr ⟨by omega, by omega, fun ws hw => (first_cons hM hK hk ha hb hd h3 hp (fun o ho => ?_) hw).1⟩
      have := h5 o (Nat.zero_le _) ho
      unfold goesM at this; simpa using this

/-- The two cells by which an entry of a table is read. -/
theorem TabAt.at {w : World} {b off n k : Nat} {f : Nat → Nat → Int} (h : TabAt w b off n k f) {i j : Nat} (hi : i < n) (hj : j < k) :
    ∃ b2 off2 c2, w.cell? ⟨b, off + i, none⟩ = some (.slice (some ⟨b2, off2, none⟩) k c2) ∧ w.cell? ⟨b2, off2 + j, none⟩ = some (.int .i64 (f i j)) ∧ b2 < w.heap.size := by
  obtain ⟨b2, off2, c2, h1, h2, h3⟩ := h.2 i hi
  exact ⟨b2, off2, c2, h1, h3 j hj, h2⟩
end Go.Lin
namespace Go.Proofs.Ytnebpcpihldllaa
open Go.RowKit Go.Lin

set_option maxHeartbeats 4000000 in
set_option maxRecDepth 100000 in
theorem toldRef_any (M K : Mach) (hM : M.WF) (hK : K.WF) (hkk : M.k = K.k) (mv kv : Value) (a b : Nat) (w : World) (ha : a < M.n) (hb : b < K.n) (hm : IsMach w mv M) (hk : IsMach w kv K) :
    Calls Try.prog 69 #[mv, kv, .int .i64 (a : Int), .int .i64 (b : Int)] w fun e w' => ∃ u r, e = .returned (.tuple #[u, .bool r]) ∧ Grew w w' ∧
      ((r = true ∧ ∃ ws, IsFirst M K a b ws ∧ IsNats Any w' u ws) ∨ (r = false ∧ u = .slice none 0 0 ∧ NoTells M K a b)) := by
  have HF := hid (fun (y : World) (hy : Grew w y) => far_any M K hM hK hkk mv kv y (hm.grew hy) (hk.grew hy))
  obtain ⟨b1, off1, c1, b2, off2, c2, rfl, t1, t2⟩ := hm
  obtain ⟨b3, off3, c3, b4, off4, c4, rfl, t3, t4⟩ := hk
  obtain ⟨Wa, hWa, ga, k0, k1, k2, k3, hz⟩ := box4 w (.int .i64 M.n) (.int .i64 M.k) (.slice (some ⟨b1, off1, none⟩) M.n c1) (.slice (some ⟨b2, off2, none⟩) M.n c2) 24
  obtain ⟨W0, hW0, gb, l0, l1, l2, l3, hz1⟩ := box4 Wa (.int .i64 K.n) (.int .i64 K.k) (.slice (some ⟨b3, off3, none⟩) K.n c3) (.slice (some ⟨b4, off4, none⟩) K.n c4) 24
  have g0 := grew_trans ga gb
  have hza : w.heap.size < W0.heap.size := Nat.lt_of_lt_of_le hz gb.size
  have m0 := (gb.cell (p := ⟨w.heap.size, 0, none⟩) hz).trans k0
  have m1 := (gb.cell (p := ⟨w.heap.size, 1, none⟩) hz).trans k1
  have m2 := (gb.cell (p := ⟨w.heap.size, 2, none⟩) hz).trans k2
  have m3 := (gb.cell (p := ⟨w.heap.size, 3, none⟩) hz).trans k3
  clear k0 k1 k2 k3
  have T1 := hid (t1.grew g0)
  have T2 := hid (t2.grew g0)
  have T3 := hid (t3.grew g0)
  have T4 := hid (t4.grew g0)
  clear t1 t2 t3 t4
  have HKK := hid hkk; clear hkk
  have n1 := hM.n1
  have n8 := hM.n8
  have k1 := hM.k1
  have k4 := hM.k4
  have n1' := hK.n1
  have n8' := hK.n8
  have hg := grew_refl W0
  have hdl : dist M K a b ≤ 64 := by
    have h1 : dist M K a b ≤ M.n * K.n := by
      rcases Nat.eq_zero_or_pos (dist M K a b) with h0 | h0
      · omega
      · exact ((lev_law M K _ a b).2 h0).1
    have h2 : M.n * K.n ≤ 8 * 8 := Nat.mul_le_mul n8 n8'
    omega
  obtain ⟨l, hl⟩ : ∃ l, dist M K a b = l := ⟨_, rfl⟩
  rw [hl] at hdl
  have HL := hid hl
  by_cases hl0 : l = 0
  · subst hl0
    go_enter Try.func69, Try.ntmps69
    go_wp2_with (go_at_call 84; with_reducible refine (HF.out _ (grew_trans g0 hg)).mono ?_; rintro e w1 ⟨fb, fo, fc, rfl, hft, hx⟩; have hc := (bcell hx).1; have HFT := hid hft; clear hft hg; obtain ⟨q1, q2, q3, f1, f2, f3⟩ := HFT.out.at ha hb)
    go_ret2
    exact ⟨_, _, rfl, grew_trans g0 hx, .inr ⟨rfl, rfl, (dist_zero hM hK HKK.out ha hb).1 HL.out⟩⟩
  have hlz : ((l : Int) == 0) = false := beq_false_of_ne (by omega)
  go_enter Try.func69, Try.ntmps69
  go_wp2_with (go_at_call 84; with_reducible refine (HF.out _ (grew_trans g0 hg)).mono ?_; rintro e w1 ⟨fb, fo, fc, rfl, hft, hx⟩; have hc := (bcell hx).1; have HFT := hid hft; clear hft hg; obtain ⟨q1, q2, q3, f1, f2, f3⟩ := HFT.out.at ha hb)
  clear hc f1 f2 f3 hl hlz
  go_loopg [2, 3, 11] l (fun g v2 v3 u wr => ∃ (x y d : Nat) (out : List Nat), v2 = .int .i64 (x : Int) ∧ v3 = .int .i64 (y : Int) ∧ x < M.n ∧ y < K.n ∧ 0 < d ∧ out.length + d ≤ 64 ∧ Hid (g = d) ∧ Hid (dist M K x y = d) ∧ Grew w1 wr ∧
    Seg wr w1.heap.size 3 1 u out.length (out.map (fun (x : Nat) => Value.int .i64 (x : Int))) ∧ Hid (∀ ws, IsFirst M K x y ws → IsFirst M K a b (out ++ ws)))
  case atStart => exact ⟨a, b, l, [], rfl, rfl, ha, hb, by omega, by simp; omega, hid rfl, HL, grew_refl _, Seg.nil _ _ _ _, hid (fun ws h => h)⟩
  case round =>
    clear HL hl0 hdl
    obtain ⟨x, y, d, out, rfl, rfl, hx1, hy1, hd0, hdo, HG, HD, hgr, hseg, HC⟩ := hrel
    obtain ⟨wo, rfl⟩ : ∃ wo : World, wo = wr := ⟨_, rfl⟩
    obtain ⟨ua, uc, rfl, _⟩ := hseg.shape
    have hg := grew_trans hx hgr
    have hc := (bcell hg).1
    have HTT := hid (HFT.out.grew hgr)
    obtain ⟨q1, q2, q3, f1, f2, f3⟩ := HTT.out.at hx1 hy1
    rw [HD.out] at f2
    have fb0 := HTT.out.1
    go_wp2
    clear hc f1 f2 f3
    go_loopg [13, 14] M.k (fun g nv iv wr => ∃ (q : Nat) (z v : Int), q ≤ M.k ∧ iv = .int .i64 z ∧ Hid (z = (q : Int) - 1) ∧ -1 ≤ z ∧ z < 10 ∧ nv = .int .i64 v ∧ Hid (g = q) ∧ Hid (NextIs M K d x y q v) ∧ Grew wo wr)
    case atStart => exact ⟨M.k, (M.k : Int) - 1, -1, Nat.le_refl _, rfl, hid rfl, by omega, by omega, rfl, hid rfl, hid (NextIs.start M K d x y), grew_refl _⟩
    case round =>
      obtain ⟨q, z, v, hq, rfl, HZ, hz0, hz1, rfl, HG2, HN, hgi⟩ := hrel
      obtain ⟨wi, rfl⟩ : ∃ wi : World, wi = wr := ⟨_, rfl⟩
      have hg2 := grew_trans hg hgi
      have hc := (bcell hg2).1
      by_cases hq0 : 0 < q
      · obtain ⟨p, rfl⟩ : ∃ p, q = p + 1 := ⟨q - 1, by omega⟩
        obtain rfl : (p : Int) = z := by have := HZ.out; omega
        have hpk : p < M.k := by omega
        have hpk' : p < K.k := by have := HKK.out; omega
        have hge : decide ((0 : Int) ≤ (p : Int)) = true := decide_eq_true (by omega)
        have fb1 : fb < wi.heap.size := Nat.lt_of_lt_of_le fb0 hgi.size
        by_cases hd1 : d = 1
        · have e1 : ((d : Int) == 1) = true := by simp [hd1]
          have e2 : decide ((1 : Int) < (d : Int)) = false := decide_eq_false (by omega)
          have e3 : decide (1 < d) = false := decide_eq_false (by omega)
          obtain ⟨r1, r2, r3, s1, s2, s3⟩ := T2.out.at hx1 hpk
          obtain ⟨r4, r5, r6, s4, s5, s6⟩ := T4.out.at hy1 hpk'
          have u1 := T2.out.1
          have u2 := T4.out.1
          by_cases hdiff : M.sy x p = K.sy y p
          · have hgo : goesM M K d x y p = false := by unfold goesM; simp [hd1, hdiff]
            have hd : (M.sy x p != K.sy y p) = false := by simp [hdiff]
            have HD1 := hid hd1; have HGO := hid hgo; have HDF := hid hdiff
            clear hd1 hgo hdiff
            go_wp2
            go_quiet (fail)
            go_wp2
            go_roundg p
            case measure => have := HG2.out; omega
            case rel => exact ⟨p, (p : Int) - 1, v, by omega, by go_num, hid rfl, by omega, by omega, rfl, hid rfl, hid (HN.out.no HGO.out), grew_drewN hgi _⟩
          · have hgo : goesM M K d x y p = true := by unfold goesM; simp [hd1, hdiff]
            have hd : (M.sy x p != K.sy y p) = true := by simpa using hdiff
            have HD1 := hid hd1; have HGO := hid hgo; have HDF := hid hdiff
            clear hd1 hgo hdiff
            go_wp2
            go_quiet (fail)
            go_wp2
            go_roundg p
            case measure => have := HG2.out; omega
            case rel => exact ⟨p, (p : Int) - 1, (p : Int), by omega, by go_num, hid rfl, by omega, by omega, rfl, hid rfl, hid (NextIs.yes hpk HGO.out), grew_drewN hgi _⟩
        · have e1 : ((d : Int) == 1) = false := beq_false_of_ne (by omega)
          have e2 : decide ((1 : Int) < (d : Int)) = true := decide_eq_true (by omega)
          have e3 : decide (1 < d) = true := decide_eq_true (by omega)
          obtain ⟨r1, r2, r3, s1, s2, s3⟩ := T1.out.at hx1 hpk
          obtain ⟨r4, r5, r6, s4, s5, s6⟩ := T3.out.at hy1 hpk'
          have hx2 := hM.nx x hx1 p hpk
          have hy2 := hK.nx y hy1 p hpk'
          obtain ⟨r7, r8, r9, s7, s8, s9⟩ := (HTT.out.grew hgi).at hx2 hy2
          obtain ⟨v5, hv5⟩ : ∃ v5, dist M K (M.nx x p) (K.nx y p) = v5 := ⟨_, rfl⟩
          rw [hv5] at s8
          have u1 := T1.out.1
          have u2 := T3.out.1
          by_cases hdiff : v5 = d - 1
          · have hgo : goesM M K d x y p = true := by unfold goesM; rw [hv5]; simp [hdiff]; omega
            have e4 : ((v5 : Int) == (d : Int) - 1) = true := by rw [beq_iff_eq]; omega
            have HD1 := hid hd1; have HGO := hid hgo; have HDF := hid hdiff; have HV5 := hid hv5
            clear hd1 hgo hdiff hv5
            go_wp2
            go_quiet (fail)
            go_wp2
            go_roundg p
            case measure => have := HG2.out; omega
            case rel => exact ⟨p, (p : Int) - 1, (p : Int), by omega, by go_num, hid rfl, by omega, by omega, rfl, hid rfl, hid (NextIs.yes hpk HGO.out), grew_drewN hgi _⟩
          · have hgo : goesM M K d x y p = false := by unfold goesM; rw [hv5]; simp [hdiff, hd1]
            have e4 : ((v5 : Int) == (d : Int) - 1) = false := beq_false_of_ne (by omega)
            have HD1 := hid hd1; have HGO := hid hgo; have HDF := hid hdiff; have HV5 := hid hv5
            clear hd1 hgo hdiff hv5
            go_wp2
            go_quiet (fail)
            go_wp2
            go_roundg p
            case measure => have := HG2.out; omega
            case rel => exact ⟨p, (p : Int) - 1, v, by omega, by go_num, hid rfl, by omega, by omega, rfl, hid rfl, hid (HN.out.no HGO.out), grew_drewN hgi _⟩
      · obtain rfl : q = 0 := by omega
        have hge : decide ((0 : Int) ≤ z) = false := decide_eq_false (by have := HZ.out; omega)
        obtain ⟨p, rfl, hpk, hres⟩ := HN.out.found hM hK HKK.out hx1 hy1 hd0 HD.out
        have HRES := hid hres; clear hres
        have hseg2 := hseg.grew hgi
        have hlen3 : out.length < 1000000000 := by omega
        have hgw := grew_trans hgr hgi
        have hsz := hgw.size
        clear hc
        by_cases hd1 : d = 1
        · have e1 : ((d : Int) == 1) = true := by simp [hd1]
          have HD1 := hid hd1; clear hd1
          go_wp2_with (at_builtin; refine wpList_append_one rfl _ _ 34 rfl w1.heap.size 3 Try.underlying34 Try.info3 rfl (by decide) _ (out.length) _ rfl (hseg2.alloc _) _ _ _ rfl (one_new _ _ _) rfl (by omega) ?_ ?_; (simp only [World.size_alloc]; omega); intro v9 w9 hown9 hgrow9 hblk9; have hg9 := (hgw.alloc hgw.size _).grown hgrow9 (hgw.alloc hgw.size _).size (fun k e => (hseg2.own k e).1); have hc9 := (bcell hg9).1; clear hgrow9)
          go_ret2
          refine ⟨_, _, rfl, grew_trans g0 (grew_trans hx hg9), .inl ⟨rfl, out ++ [p], ?_, ?_⟩⟩
          · rcases HRES.out with ⟨_, h⟩ | ⟨h, _⟩
            · exact HC.out _ h
            · have := HD1.out; omega
          · have h := hown9
            have hle : (out ++ [p]).length = out.length + 1 := by simp
            rw [← hle] at h
            exact (h.isNats (by simp)).any
        · have e1 : ((d : Int) == 1) = false := beq_false_of_ne (by omega)
          have HD1 := hid hd1; clear hd1
          go_wp2_with (at_builtin; refine wpList_append_one rfl _ _ 34 rfl w1.heap.size 3 Try.underlying34 Try.info3 rfl (by decide) _ (out.length) _ rfl (hseg2.alloc _) _ _ _ rfl (one_new _ _ _) rfl (by omega) ?_ ?_; (simp only [World.size_alloc]; omega); intro v9 w9 hown9 hgrow9 hblk9; have hg9 := (hgw.alloc hgw.size _).grown hgrow9 (hgw.alloc hgw.size _).size (fun k e => (hseg2.own k e).1); have hc9 := (bcell hg9).1; clear hgrow9)
          have hg10 := grew_trans hx hg9
          have hpk' : p < K.k := by have := HKK.out; omega
          clear hc9
          have hc := (bcell hg10).1
          obtain ⟨r1, r2, r3, s1, s2, s3⟩ := T1.out.at hx1 hpk
          obtain ⟨r4, r5, r6, s4, s5, s6⟩ := T3.out.at hy1 hpk'
          have u1 := T1.out.1
          have u2 := T3.out.1
          have hx2 := hM.nx x hx1 p hpk
          have hy2 := hK.nx y hy1 p hpk'
          go_quiet (fail)
          go_wp2
          go_roundg (d - 1)
          case measure => have := HG.out; omega
          case rel =>
            refine ⟨M.nx x p, K.nx y p, d - 1, out ++ [p], rfl, rfl, hx2, hy2, by have := HD1.out; omega, by simp; omega, hid rfl, ?_, grew_drewN hg9 _, ?_, ?_⟩
            · rcases HRES.out with ⟨h, _⟩ | ⟨_, h, _⟩
              · exact absurd h HD1.out
              · exact hid h
            · have h := hown9.drewN nq
              rw [List.map_append, List.length_append]
              exact h
            · rcases HRES.out with ⟨h, _⟩ | ⟨_, _, h⟩
              · exact absurd h HD1.out
              · refine hid (fun ws hw => ?_)
                rw [List.append_assoc]
                exact HC.out _ (h ws hw)
end Go.Proofs.Ytnebpcpihldllaa
