/- The law TopSpec: it answers true of every input. -/
import Derived.Test.YtnebpcpihldllaaLLeast
namespace Go.Lin
theorem asked_in {s : RSpec} (hv : validM s = true) {a b : Nat} (ha : a < (machOf s).n) (hb : b < (machOf s).n) : askedM s (a : Int) (b : Int) = 0 ∧ inM s.st (a : Int) = true ∧ inM s.st (b : Int) = true := by
  have h1 : inM s.st (a : Int) = true := by simp only [machOf] at ha; unfold inM; simp; omega
  have h2 : inM s.st (b : Int) = true := by simp only [machOf] at hb; unfold inM; simp; omega
  refine ⟨?_, h1, h2⟩
  unfold askedM
  rw [hv, h1, h2]
  rfl

/-- What the law needs to know of two states. -/
theorem pair_facts {s : RSpec} {sB : Nat → Nat → Bool} {cl : Nat → Nat} (hv : validM s = true) (hS : Sames (machOf s) sB cl) {a b : Nat} (ha : a < (machOf s).n) (hb : b < (machOf s).n) {L : List Int} {ev : Int} (h : WordOf s (a : Int) (b : Int) L ev) :
    sameOfB s sB (a : Int) (b : Int) = sB a b ∧ tellsE s (a : Int) (b : Int) L = 0 ∧ ((sB a b = true ∧ ev = 5 ∧ tellsB s (a : Int) (b : Int) L = false) ∨ (sB a b = false ∧ ev = 0 ∧ tellsB s (a : Int) (b : Int) L = true)) := by
  obtain ⟨h0, h1, h2⟩ := asked_in hv ha hb
  refine ⟨by unfold sameOfB; rw [if_pos h0]; rfl, ?_⟩
  have hw := h.1 h0
  simp only [Int.toNat_natCast] at hw
  rcases hw with ⟨he, ws, hf, hL⟩ | ⟨he, hL, hn⟩
  · have hl := moore (wf_machOf hv) ha hb hf
    have h8 := (wf_machOf hv).n8
    have hws : isWordM s.ops L = true := by rw [hL]; exact isWordM_ofN hv hf.ok (by omega)
    have hE : tellsE s (a : Int) (b : Int) L = 0 := by unfold tellsE; rw [hv, h1, h2, hws]; rfl
    refine ⟨hE, .inr ⟨?_, he, ?_⟩⟩
    · cases hs : sB a b with
      | false => rfl
      | true => exact absurd ((hS.same a b).1 hs) hf.not_no
    · unfold tellsB
      rw [if_pos hE, hL, toN_ofNl]
      simp only [Int.toNat_natCast]
      unfold sameL
      rw [decide_eq_false hf.tells]
      rfl
  · have hws : isWordM s.ops L = true := by rw [hL]; rfl
    have hE : tellsE s (a : Int) (b : Int) L = 0 := by unfold tellsE; rw [hv, h1, h2, hws]; rfl
    refine ⟨hE, .inl ⟨(hS.same a b).2 hn, he, ?_⟩⟩
    unfold tellsB
    rw [if_pos hE, hL]
    rfl
end Go.Lin
namespace Go.Proofs.Ytnebpcpihldllaa
open Go.RowKit Go.Lin

theorem class_cells {w : World} {u : Value} {n : Nat} {cl : Nat → Nat} (h : IsInts Any w u (ofN ((List.range n).map cl))) : ∃ a c, u = .slice a n c ∧ ∀ i, i < n → ∃ b off, a = some ⟨b, off, none⟩ ∧ b < w.heap.size ∧ w.cell? ⟨b, off + i, none⟩ = some (.int .i64 (cl i : Int)) := by
  obtain ⟨a, c, rfl, _, hc⟩ := h
  rw [length_ofN, List.length_map, List.length_range] at hc
  refine ⟨a, c, by rw [length_ofN, List.length_map, List.length_range], fun i hi => ?_⟩
  obtain ⟨b, off, o, h1, h2, _, h4⟩ := hc i hi
  refine ⟨b, off, h1, lt_of_obj h2, h4.trans ?_⟩
  show some (Value.int .i64 (nth (ofN ((List.range n).map cl)) i)) = _
  rw [nth_ofN, nthN_lt (by simpa using hi)]
  simp

set_option maxHeartbeats 8000000 in
set_option maxRecDepth 100000 in
theorem topSpec_law (s t : RSpec) (xs : List Int) (sv tv xv : Value) (w : World) (hs : IsSpec w sv s) (ht : IsSpec w tv t) (hxs : IsInts Any w xv xs) :
    Calls Try.prog 10 #[sv, tv, xv] w fun e w' => e = .returned (.bool true) ∧ Grew w w' := by
  have HXS := hxs
  have HWD := hid (fun (y : World) (hy : Grew w y) => isWord_any s _ _ xs y (hs.grew hy) (HXS.grew hy))
  have HS := hs
  have HT := ht
  have HRV := hid (fun (y : World) (hy : Grew w y) => refValid_any s _ y (HS.grew hy))
  have HRV2 := hid (fun (y : World) (hy : Grew w y) => refValid_any t _ y (HT.grew hy))
  have HLO := hid (fun (y : World) (hy : Grew w y) => long_any s _ y (HS.grew hy))
  have HLO2 := hid (fun (y : World) (hy : Grew w y) => long_any t _ y (HT.grew hy))
  have boxes : ∀ (na : Option Addr) (nc : Nat) (ya : Option Addr) (yc : Nat) (ma : Option Addr) (mc : Nat) (xa : Option Addr) (xc : Nat), ∃ W0 W1, w.alloc (.cells #[.int .i64 s.st, .int .i64 s.ops, .slice na s.next.length nc, .slice ya s.says.length yc] 24) = W0 ∧ W0.alloc (.cells #[.int .i64 t.st, .int .i64 t.ops, .slice ma t.next.length mc, .slice xa t.says.length xc] 24) = W1 ∧ Grew w W1 ∧ w.heap.size < W1.heap.size ∧ W0.heap.size < W1.heap.size ∧
      (W1.cell? ⟨w.heap.size, 0, none⟩ = some (.int .i64 s.st) ∧ W1.cell? ⟨w.heap.size, 1, none⟩ = some (.int .i64 s.ops) ∧ W1.cell? ⟨w.heap.size, 2, none⟩ = some (.slice na s.next.length nc) ∧ W1.cell? ⟨w.heap.size, 3, none⟩ = some (.slice ya s.says.length yc)) ∧
      (W1.cell? ⟨W0.heap.size, 0, none⟩ = some (.int .i64 t.st) ∧ W1.cell? ⟨W0.heap.size, 1, none⟩ = some (.int .i64 t.ops) ∧ W1.cell? ⟨W0.heap.size, 2, none⟩ = some (.slice ma t.next.length mc) ∧ W1.cell? ⟨W0.heap.size, 3, none⟩ = some (.slice xa t.says.length xc)) := by
    intro na nc ya yc ma mc xa xc
    obtain ⟨W0, hW0, g0, k0, k1, k2, k3, hz⟩ := box4 w (.int .i64 s.st) (.int .i64 s.ops) (.slice na s.next.length nc) (.slice ya s.says.length yc) 24
    obtain ⟨W1, hW1, g1, l0, l1, l2, l3, hz1⟩ := box4 W0 (.int .i64 t.st) (.int .i64 t.ops) (.slice ma t.next.length mc) (.slice xa t.says.length xc) 24
    exact ⟨W0, W1, hW0, hW1, grew_trans g0 g1, Nat.lt_of_lt_of_le hz g1.size, hz1, ⟨(g1.cell (p := ⟨w.heap.size, 0, none⟩) hz).trans k0, (g1.cell (p := ⟨w.heap.size, 1, none⟩) hz).trans k1, (g1.cell (p := ⟨w.heap.size, 2, none⟩) hz).trans k2, (g1.cell (p := ⟨w.heap.size, 3, none⟩) hz).trans k3⟩, ⟨l0, l1, l2, l3⟩⟩
  obtain ⟨xa0, xc0, rfl⟩ := ints_shape hxs
  by_cases hvt : (validM s = true ∧ validM t = true) ∧ isWordM s.ops xs = true
  · obtain ⟨⟨hv, hvt⟩, hw⟩ := hvt
    rw [hv] at HRV
    rw [hvt] at HRV2
    rw [hw] at HWD
    obtain ⟨L, hL⟩ := least_words_exist hs hv
    obtain ⟨L', hL'⟩ := least_words_exist ht hvt
    obtain ⟨sB, cl, hSm⟩ := sames_exist (machOf s)
    obtain ⟨sB', cl', hSm'⟩ := sames_exist (machOf t)
    have hf := least_law_facts hv hSm hL
    have hf' := least_law_facts hvt hSm' hL'
    have hiff := alike_iff hv hvt hSm hSm' hL hL'
    obtain ⟨P, pe, hP⟩ := pairOf_exists s t
    have hst := stand_of hv hvt hP
    have HL1 := hid (fun (y : World) (hy : Grew w y) => least_exact s sB cl hSm L hL sv y (HS.grew hy) hv)
    have HL2 := hid (fun (y : World) (hy : Grew w y) => least_exact t sB' cl' hSm' L' hL' tv y (HT.grew hy) hvt)
    have hE0 : alikeE pe = 0 := by
      rcases hst with ⟨_, _, he⟩ | ⟨_, _, _, he⟩ | ⟨_, _, _, _, _, he⟩ <;> rw [he] <;> rfl
    have HA2 := fun (y : World) (hy : Grew w y) => alike_any s t P pe hP sv tv y (HS.grew hy) (HT.grew hy)
    rw [hE0] at HA2
    have HUN := hid (fun (y : World) (hy : Grew w y) => unlike_any s t P pe hP sv tv y (HS.grew hy) (HT.grew hy))
    have heq : eqSpec (leastS s cl L) (leastS t cl' L') = alikeB pe := by
      rw [Bool.eq_iff_iff, eqSpec_iff, ← hiff]
      unfold alikeB
      rw [decide_eq_true_eq]
      rcases hst with ⟨h, _, he⟩ | ⟨h, hn, _, he⟩ | ⟨h, ws, hfi, _, _, he⟩
      · constructor
        · intro h2; exact absurd h2.1 h
        · intro h2; omega
      · exact ⟨fun _ => he, fun _ => ⟨h, hn⟩⟩
      · constructor
        · intro h2; exact absurd h2.2 hfi.not_no
        · intro h2; omega
    have HRM := fun (u : Value) (y : World) (hu : IsSpec y u (leastS s cl L)) => refValid_any (leastS s cl L) u y hu
    rw [hf.valid] at HRM
    replace HRM := hid HRM
    have HCL := fun (y : World) (hy : Grew w y) => classesOf_any s sB cl hSm sv y (HS.grew hy)
    have hcE : classOfE s = 0 := by unfold classOfE; rw [if_pos hv]
    have hcL : classOfL s cl = ofN ((List.range (machOf s).n).map cl) := by unfold classOfL; rw [if_pos hv]
    rw [hcE, hcL] at HCL
    replace HCL := hid HCL
    have HSA := hid (fun (a b : Nat) (y : World) (hy : Grew w y) => sameOf_any s (a : Int) (b : Int) sB hSm.same sv y (HS.grew hy))
    have HWO := hid (fun (a b : Nat) (X : List Int) (ev : Int) (h : WordOf s (a : Int) (b : Int) X ev) (y : World) (hy : Grew w y) => wordOf_any s (a : Int) (b : Int) X ev h sv y (HS.grew hy))
    have HTE := hid (fun (a b : Nat) (X : List Int) (v : Value) (y : World) (hy : Grew w y) (hv : IsInts Any y v X) => tells_any s (a : Int) (b : Int) X sv v y (HS.grew hy) hv)
    have HPF := hid (fun (a b : Nat) (X : List Int) (ev : Int) (ha : a < (machOf s).n) (hb : b < (machOf s).n) (h : WordOf s (a : Int) (b : Int) X ev) => pair_facts hv hSm ha hb h)
    have HAK := hid (fun (a b : Nat) (ha : a < (machOf s).n) (hb : b < (machOf s).n) => (asked_in hv ha hb).1)
    have HCF := hid (fun (a b : Nat) => (hSm.facts a b).1)
    -- runs of the word
    obtain ⟨z1, z2⟩ := run_zero hv hw
    have hwm : isWordM (leastS s cl L).ops xs = true := by rw [hf.ops]; exact hw
    obtain ⟨z3, z4⟩ := run_zero hf.valid hwm
    have hsm : anM (machOf (leastS s cl L)) 0 (toN xs) = anM (machOf s) 0 (toN xs) := (hf.alike _ (okW_toN hw)).symm
    have HR1 := fun (y : World) (hy : Grew w y) => runOf_any s 0 xs sv _ y (HS.grew hy) (HXS.grew hy)
    have HR2 := fun (u : Value) (y : World) (hy : Grew w y) (hu : IsSpec y u (leastS s cl L)) => runOf_any (leastS s cl L) 0 xs u _ y hu (HXS.grew hy)
    rw [z1, z2] at HR1
    rw [z3, z4, hsm] at HR2
    obtain ⟨X, hX⟩ : ∃ X, anM (machOf s) 0 (toN xs) = X := ⟨_, rfl⟩
    obtain ⟨to1, hto1⟩ : ∃ X, runTo s 0 xs = X := ⟨_, rfl⟩
    obtain ⟨to2, hto2⟩ : ∃ X, runTo (leastS s cl L) 0 xs = X := ⟨_, rfl⟩
    rw [hX, hto1] at HR1
    rw [hX, hto2] at HR2
    replace HR1 := hid HR1; replace HR2 := hid HR2
    -- runs of the word that shows that they are not alike
    have HR3 := hid (fun (ws : List Nat) (hw : OkW (machOf s).k ws) (hl : ws.length ≤ 15) (u v : Value) (y : World) (hu : IsSpec y u (leastS s cl L)) (hx : IsInts Any y v (ofN ws)) => show Calls Try.prog 28 #[u, .int .i64 0, v] y fun e w' => ∃ u2 to, e = .returned (.tuple #[u2, .int .i64 to, .int .i64 0]) ∧ IsInts Any w' u2 (anM (machOf s) 0 ws) ∧ Grew y w' from by
      have hwm : isWordM (leastS s cl L).ops (ofN ws) = true := by rw [hf.ops]; exact isWordM_ofN hv hw (by omega)
      obtain ⟨e1, e2⟩ := run_zero hf.valid hwm
      have h := runOf_any (leastS s cl L) 0 (ofN ws) u v y hu hx
      rw [e1, e2, toN_ofNl, ← hf.alike ws hw] at h
      exact h.mono (fun e w' ⟨u2, he, hi, hg⟩ => ⟨u2, _, he, hi, hg⟩))
    have HR4 := hid (fun (ws : List Nat) (hw : OkW (machOf t).k ws) (hl : ws.length ≤ 15) (u v : Value) (y : World) (hu : IsSpec y u (leastS t cl' L')) (hx : IsInts Any y v (ofN ws)) => show Calls Try.prog 28 #[u, .int .i64 0, v] y fun e w' => ∃ u2 to, e = .returned (.tuple #[u2, .int .i64 to, .int .i64 0]) ∧ IsInts Any w' u2 (anM (machOf t) 0 ws) ∧ Grew y w' from by
      have hwm : isWordM (leastS t cl' L').ops (ofN ws) = true := by rw [hf'.ops]; exact isWordM_ofN hvt hw (by omega)
      obtain ⟨e1, e2⟩ := run_zero hf'.valid hwm
      have h := runOf_any (leastS t cl' L') 0 (ofN ws) u v y hu hx
      rw [e1, e2, toN_ofNl, ← hf'.alike ws hw] at h
      exact h.mono (fun e w' ⟨u2, he, hi, hg⟩ => ⟨u2, _, he, hi, hg⟩))
    obtain ⟨m, hm⟩ : ∃ m, leastS s cl L = m := ⟨_, rfl⟩
    obtain ⟨k, hk⟩ : ∃ k, leastS t cl' L' = k := ⟨_, rfl⟩
    rw [hm] at HL1 HRM heq HR2 HR3
    rw [hk] at HL2 heq HR4
    obtain ⟨is, his⟩ : ∃ is, alikeB pe = is := ⟨_, rfl⟩
    rw [his] at HA2 heq
    replace HA2 := hid HA2
    have HSTD := hid hst
    have HHIS := hid his
    have hcmp : (((machOf s).n : Int) != s.st) = false := by rw [← st_n hv]; simp
    have n8 := (wf_machOf hv).n8
    obtain ⟨n, hn⟩ : ∃ n, (machOf s).n = n := ⟨_, rfl⟩
    rw [hn] at HCL HPF HAK hcmp n8
    have hkk : s.ops = t.ops → (machOf s).k = (machOf t).k := fun h => by simp only [machOf]; rw [h]
    have HKK := hid hkk
    clear hst hf hf' hE0 hiff hL hL' hSm hSm' hP hm hk hn his hv hvt hw hcE hcL z1 z2 z3 z4 hwm hsm hX hto1 hto2 hkk hxs
    obtain ⟨na, nc, ya, yc, rfl⟩ := isSpec_open' hs
    obtain ⟨ma, mc, xa, xc, rfl⟩ := isSpec_open' ht
    obtain ⟨W0, W1, hW0, hW1, g01, hz, hz1, ⟨k0, k1, k2, k3⟩, ⟨l0, l1, l2, l3⟩⟩ := boxes na nc ya yc ma mc xa xc
    clear boxes hs ht
    have hg := grew_refl W1
    go_enter Try.func10, Try.ntmps10
    go_wp2_with (first
      | (go_at_call 16; with_reducible refine (HLO.out _ (grew_trans g01 hg)).mono ?_; rintro e wa ⟨xa1, rfl, hx1, hx⟩; replace hg := grew_trans hg hx; have hc := (bcell hg).1; clear hx; rcases hx1 with rfl | rfl)
      | (go_at_call 16; with_reducible refine (HLO2.out _ (grew_trans g01 hg)).mono ?_; rintro e wb ⟨xa2, rfl, hx2, hx⟩; replace hg := grew_trans hg hx; have hc := (bcell hg).1; clear hx; rcases hx2 with rfl | rfl)
      | (go_at_call 33; with_reducible refine (HRV.out _ (grew_trans g01 hg)).mono ?_; rintro e wc ⟨rfl, hx⟩; replace hg := grew_trans hg hx; have hc := (bcell hg).1; clear hx)
      | (go_at_call 33; with_reducible refine (HRV2.out _ (grew_trans g01 hg)).mono ?_; rintro e wd ⟨rfl, hx⟩; replace hg := grew_trans hg hx; have hc := (bcell hg).1; clear hx)
      | (go_at_call 34; with_reducible refine (HWD.out _ (grew_trans g01 hg)).mono ?_; rintro e we ⟨rfl, hx⟩; replace hg := grew_trans hg hx; have hc := (bcell hg).1; clear hx)
      | (go_at_call 17; with_reducible refine (awake_any _).mono ?_; rintro e w6 ⟨rfl, hx6⟩)
      | (go_at_call 26; (with_reducible refine (HCL.out _ (grew_trans g01 hg)).mono ?_); rintro e w14 ⟨u14, rfl, hu14, hx⟩; obtain ⟨a14, c14, rfl, hcls⟩ := class_cells hu14; have HCLS := hid hcls; clear hcls hu14; replace hg := grew_trans hg hx; have hc := (bcell hg).1; have hg14 := grew_refl w14; clear hx)
      | (go_at_call 42; (with_reducible refine (HL1.out _ (grew_trans g01 hg)).mono ?_); rintro e w3 ⟨u3, rfl, hsp3, hx⟩; obtain ⟨a3, c3, d3, e3, rfl⟩ := isSpec_open' hsp3; have HSP3 := hid hsp3; clear hsp3; obtain ⟨W4, hW4, g4, p0, p1, p2, p3, hz4⟩ := box4 w3 (.int .i64 m.st) (.int .i64 m.ops) (.slice a3 m.next.length c3) (.slice d3 m.says.length e3) 24; have hxx := grew_trans hx g4; replace hg := grew_trans hg hxx; have hc := (bcell hg).1; replace hg14 := grew_trans hg14 hxx; have hq1 := Nat.lt_of_lt_of_le hz hg.size; have hq2 := Nat.lt_of_lt_of_le hz1 hg.size; clear hx hxx; have hg4 := grew_refl W4)
      | (go_at_call 42; (with_reducible refine (HL2.out _ (grew_trans g01 hg)).mono ?_); rintro e w5 ⟨u5, rfl, hsp5, hx⟩; obtain ⟨a5, c5, d5, e5, rfl⟩ := isSpec_open' hsp5; have HSP5 := hid hsp5; clear hsp5; obtain ⟨W6, hW6, g6, q0, q1, q2, q3, hz6⟩ := box4 w5 (.int .i64 k.st) (.int .i64 k.ops) (.slice a5 k.next.length c5) (.slice d5 k.says.length e5) 24; have hxx := grew_trans hx g6; replace hg := grew_trans hg hxx; have hc := (bcell hg).1; replace hg4 := grew_trans hg4 hxx; have hc4 := (bcell hg4).1; replace hg14 := grew_trans hg14 hxx; have hq3 := Nat.lt_of_lt_of_le hz4 hg4.size; have hq4 := Nat.lt_of_lt_of_le hz hg.size; have hq5 := Nat.lt_of_lt_of_le hz1 hg.size; clear hx hxx; have hg6 := grew_refl W6)
      | (go_at_call 33; (with_reducible refine (HRM.out _ _ (HSP3.out.grew (grew_trans g4 hg4))).mono ?_); rintro e w11 ⟨rfl, hx⟩; replace hg14 := grew_trans hg14 hx; replace hg := grew_trans hg hx; have hc := (bcell hg).1; replace hg4 := grew_trans hg4 hx; have hc4 := (bcell hg4).1; replace hg6 := grew_trans hg6 hx; have hc6 := (bcell hg6).1; have hq6 := Nat.lt_of_lt_of_le hz4 hg4.size; have hq7 := Nat.lt_of_lt_of_le hz hg.size; have hq8 := Nat.lt_of_lt_of_le hz1 hg.size; have hq9 := Nat.lt_of_lt_of_le hz6 hg6.size; clear hx))
    · go_ret
      exact ⟨rfl, grew_trans (grew_trans g01 hg) hx6⟩
    · go_ret
      exact ⟨rfl, grew_trans (grew_trans g01 hg) hx6⟩
    have hgL := hg
    go_loopg [93] n (fun g i wr => ∃ a : Nat, a ≤ n ∧ i = .int .i64 a ∧ Hid (g = n - a) ∧ Grew w11 wr)
    case atStart => exact ⟨0, Nat.zero_le _, rfl, hid rfl, grew_refl _⟩
    case round =>
      clear hg hc
      obtain ⟨a, ha, rfl, HG, hgr⟩ := hrel
      have hg := grew_trans hgL hgr
      have hc := (bcell hg).1
      by_cases hlt : a < n
      · obtain ⟨wa0, rfl⟩ : ∃ wa0 : World, wa0 = wr := ⟨_, rfl⟩
        go_wp2
        clear hg hc
        go_loopg [97] a (fun g i wr => ∃ b : Nat, b ≤ a ∧ i = .int .i64 b ∧ Hid (g = a - b) ∧ Grew w11 wr)
        case atStart => exact ⟨0, Nat.zero_le _, rfl, hid rfl, hgr⟩
        case round =>
          clear hgr
          obtain ⟨b, hb, rfl, HGB, hgr⟩ := hrel
          have hg := grew_trans hgL hgr
          have hc := (bcell hg).1
          have hq7 := Nat.lt_of_lt_of_le hz hg.size
          by_cases hba : b < a
          · obtain ⟨Q, ev, hQ⟩ := wordOf_exists s (a : Int) (b : Int)
            obtain ⟨f1, f2, f3⟩ := HPF.out a b Q ev hlt (by omega) hQ
            have h1 := HSA.out a b
            have h2 := HWO.out a b Q ev hQ
            have h3 := HTE.out a b Q
            rw [f1, HAK.out a b hlt (by omega)] at h1
            rw [f2] at h3
            have hcf := HCF.out a b
            obtain ⟨bo, oo, ea, hbl, hca⟩ := HCLS.out a hlt
            obtain ⟨bo2, oo2, eb, hbl2, hcb⟩ := HCLS.out b (by omega)
            rw [ea] at eb
            simp only [Option.some.injEq, Addr.mk.injEq] at eb
            obtain ⟨rfl, rfl, -⟩ := eb
            have HEA := hid ea
            have hcc : ((cl a : Int) == (cl b : Int)) = sB a b := by
              rw [← hcf, Bool.eq_iff_iff]
              simp
              omega
            obtain ⟨sb, hsb⟩ : ∃ v, sB a b = v := ⟨_, rfl⟩
            obtain ⟨tb, htb⟩ : ∃ v, tellsB s (a : Int) (b : Int) Q = v := ⟨_, rfl⟩
            rw [hsb] at h1 f3 hcc
            rw [htb] at h3 f3
            have H1 := hid h1; have H2 := hid h2; have H3 := hid h3
            have HCA := hid hca; have HCB := hid hcb; have HBL := hid hbl
            clear h1 h2 h3 f1 f2 hcf hQ hsb htb hbl2 ea hca hcb hbl
            have hlen2 : b < n := by omega
            rcases f3 with ⟨rfl, rfl, rfl⟩ | ⟨rfl, rfl, rfl⟩
            all_goals
              go_wp2_with (first
                | (go_at_call 21; (with_reducible refine (H1.out _ (grew_trans g01 hg)).mono ?_); rintro e w15 ⟨rfl, hx⟩; replace hgr := grew_trans hgr hx; have hg := grew_trans hgL hgr; have hc := (bcell hg).1; have hq7 := Nat.lt_of_lt_of_le hz hg.size; have hq8 := Nat.lt_of_lt_of_le hz1 hg.size; clear hx)
                | (go_at_call 23; (with_reducible refine (H2.out _ (grew_trans g01 hg)).mono ?_); rintro e w16 ⟨u16, rfl, hu16, hx⟩; have HU16 := hid hu16; obtain ⟨a16, c16, rfl⟩ := ints_shape hu16; clear hu16; replace hgr := grew_trans hgr hx; have hg := grew_trans hgL hgr; have hc := (bcell hg).1; have hq7 := Nat.lt_of_lt_of_le hz hg.size; have hq8 := Nat.lt_of_lt_of_le hz1 hg.size; clear hx)
                | (go_at_call 30; (with_reducible refine (H3.out _ _ (grew_trans g01 hg) HU16.out).mono ?_); rintro e w17 ⟨rfl, hx⟩; replace hgr := grew_trans hgr hx; have hg := grew_trans hgL hgr; have hc := (bcell hg).1; have hq7 := Nat.lt_of_lt_of_le hz hg.size; have hq8 := Nat.lt_of_lt_of_le hz1 hg.size; clear hx))
              have hea := HEA.out
              subst hea
              have hca2 := ((grew_trans hg14 hgr).cell (p := ⟨bo, oo + a, none⟩) HBL.out).trans HCA.out
              have hcb2 := ((grew_trans hg14 hgr).cell (p := ⟨bo, oo + b, none⟩) HBL.out).trans HCB.out
              go_region
              go_wp2
              go_roundg (a - (b + 1))
              case measure => have := HGB.out; omega
              case rel => exact ⟨b + 1, by omega, by go_num, hid rfl, grew_drew hgr⟩
          · obtain rfl : b = a := by omega
            go_wp2
            go_roundg (n - (b + 1))
            case measure => have := HG.out; omega
            case rel => exact ⟨b + 1, by omega, by go_num, hid rfl, hgr⟩
      · obtain rfl : a = n := by omega
        obtain ⟨wz, rfl⟩ : ∃ wz : World, wz = wr := ⟨_, rfl⟩
        replace hg4 := grew_trans hg4 hgr
        replace hg6 := grew_trans hg6 hgr
        have hc4 := (bcell hg4).1
        have hc6 := (bcell hg6).1
        have hq6 := Nat.lt_of_lt_of_le hz4 hg4.size
        have hq7 := Nat.lt_of_lt_of_le hz hg.size
        have hq8 := Nat.lt_of_lt_of_le hz1 hg.size
        have hq9 := Nat.lt_of_lt_of_le hz6 hg6.size
        rcases HSTD.out with ⟨ho, hP, he⟩ | ⟨ho, hn, hP, he⟩ | ⟨ho, ws, hf, hl, hP, he⟩
        · subst hP
          subst he
          have hb1 : (s.ops == t.ops) = false := beq_false_of_ne ho
          have hb2 : (s.ops != t.ops) = true := by simp [ho]
          have hisf : is = false := by rw [← HHIS.out]; rfl
          subst hisf
          go_wp2_with (first
            | (go_at_call 28; (with_reducible refine (HR1.out _ (grew_trans g01 hg)).mono ?_); rintro e w20 ⟨u20, rfl, hu20, hx⟩; have HU20 := hid hu20; obtain ⟨a20, c20, rfl⟩ := ints_shape hu20; clear hu20; have hg20 := grew_refl w20; replace hg := grew_trans hg hx; have hc := (bcell hg).1; replace hg4 := grew_trans hg4 hx; have hc4 := (bcell hg4).1; replace hg6 := grew_trans hg6 hx; have hc6 := (bcell hg6).1; have hq6 := Nat.lt_of_lt_of_le hz4 hg4.size; have hq7 := Nat.lt_of_lt_of_le hz hg.size; have hq8 := Nat.lt_of_lt_of_le hz1 hg.size; have hq9 := Nat.lt_of_lt_of_le hz6 hg6.size; clear hx)
            | (go_at_call 28; (with_reducible refine (HR2.out _ _ (grew_trans g01 hg) (HSP3.out.grew (grew_trans g4 hg4))).mono ?_); rintro e w21 ⟨u21, rfl, hu21, hx⟩; have HU21 := hid hu21; obtain ⟨a21, c21, rfl⟩ := ints_shape hu21; clear hu21; have hg21 := grew_refl w21; replace hg20 := grew_trans hg20 hx; replace hg := grew_trans hg hx; have hc := (bcell hg).1; replace hg4 := grew_trans hg4 hx; have hc4 := (bcell hg4).1; replace hg6 := grew_trans hg6 hx; have hc6 := (bcell hg6).1; have hq6 := Nat.lt_of_lt_of_le hz4 hg4.size; have hq7 := Nat.lt_of_lt_of_le hz hg.size; have hq8 := Nat.lt_of_lt_of_le hz1 hg.size; have hq9 := Nat.lt_of_lt_of_le hz6 hg6.size; clear hx)
            | (go_at_call 35; (with_reducible refine (HA2.out _ (grew_trans g01 hg)).mono ?_); rintro e w22 ⟨rfl, hx⟩; replace hg20 := grew_trans hg20 hx; replace hg21 := grew_trans hg21 hx; replace hg := grew_trans hg hx; have hc := (bcell hg).1; replace hg4 := grew_trans hg4 hx; have hc4 := (bcell hg4).1; replace hg6 := grew_trans hg6 hx; have hc6 := (bcell hg6).1; have hq6 := Nat.lt_of_lt_of_le hz4 hg4.size; have hq7 := Nat.lt_of_lt_of_le hz hg.size; have hq8 := Nat.lt_of_lt_of_le hz1 hg.size; have hq9 := Nat.lt_of_lt_of_le hz6 hg6.size; clear hx)
            | (go_at_call 25; (with_reducible refine (sameInts_same _ _ X _ (HU20.out.grew hg20) (HU21.out.grew hg21)).mono ?_); rintro e w23 ⟨rfl, hx⟩; replace hg := grew_trans hg hx; have hc := (bcell hg).1; replace hg4 := grew_trans hg4 hx; have hc4 := (bcell hg4).1; replace hg6 := grew_trans hg6 hx; have hc6 := (bcell hg6).1; have hq6 := Nat.lt_of_lt_of_le hz4 hg4.size; have hq7 := Nat.lt_of_lt_of_le hz hg.size; have hq8 := Nat.lt_of_lt_of_le hz1 hg.size; have hq9 := Nat.lt_of_lt_of_le hz6 hg6.size; clear hx)
            | (go_at_call 20; (with_reducible refine (equal_any m k _ _ _ (HSP3.out.grew (grew_trans g4 hg4)) (HSP5.out.grew (grew_trans g6 hg6))).mono ?_); rw [heq]; rintro e w24 ⟨rfl, hx⟩; replace hg := grew_trans hg hx; have hc := (bcell hg).1; replace hg4 := grew_trans hg4 hx; have hc4 := (bcell hg4).1; replace hg6 := grew_trans hg6 hx; have hc6 := (bcell hg6).1; have hq6 := Nat.lt_of_lt_of_le hz4 hg4.size; have hq7 := Nat.lt_of_lt_of_le hz hg.size; have hq8 := Nat.lt_of_lt_of_le hz1 hg.size; have hq9 := Nat.lt_of_lt_of_le hz6 hg6.size; clear hx)
            | (go_at_call 37; (with_reducible refine (HUN.out _ (grew_trans g01 hg)).mono ?_); rintro e w16 ⟨u16, rfl, hu16, hx⟩; obtain ⟨a16, c16, rfl⟩ := ints_shape hu16; replace hg := grew_trans hg hx; have hc := (bcell hg).1; replace hg4 := grew_trans hg4 hx; have hc4 := (bcell hg4).1; replace hg6 := grew_trans hg6 hx; have hc6 := (bcell hg6).1; have hq6 := Nat.lt_of_lt_of_le hz4 hg4.size; have hq7 := Nat.lt_of_lt_of_le hz hg.size; have hq8 := Nat.lt_of_lt_of_le hz1 hg.size; have hq9 := Nat.lt_of_lt_of_le hz6 hg6.size; clear hx)
            | (go_at_call 17; with_reducible refine (awake_any _).mono ?_; rintro e w6 ⟨rfl, hx6⟩))
          go_ret
          exact ⟨rfl, grew_trans (grew_trans g01 hg) hx6⟩
        · subst hP
          subst he
          have hb1 : (s.ops == t.ops) = true := by simp [ho]
          have hb2 : (s.ops != t.ops) = false := by simp [ho]
          have hisf : is = true := by rw [← HHIS.out]; rfl
          subst hisf
          clear ho
          go_wp2_with (first
            | (go_at_call 28; (with_reducible refine (HR1.out _ (grew_trans g01 hg)).mono ?_); rintro e w20 ⟨u20, rfl, hu20, hx⟩; have HU20 := hid hu20; obtain ⟨a20, c20, rfl⟩ := ints_shape hu20; clear hu20; have hg20 := grew_refl w20; replace hg := grew_trans hg hx; have hc := (bcell hg).1; replace hg4 := grew_trans hg4 hx; have hc4 := (bcell hg4).1; replace hg6 := grew_trans hg6 hx; have hc6 := (bcell hg6).1; have hq6 := Nat.lt_of_lt_of_le hz4 hg4.size; have hq7 := Nat.lt_of_lt_of_le hz hg.size; have hq8 := Nat.lt_of_lt_of_le hz1 hg.size; have hq9 := Nat.lt_of_lt_of_le hz6 hg6.size; clear hx)
            | (go_at_call 28; (with_reducible refine (HR2.out _ _ (grew_trans g01 hg) (HSP3.out.grew (grew_trans g4 hg4))).mono ?_); rintro e w21 ⟨u21, rfl, hu21, hx⟩; have HU21 := hid hu21; obtain ⟨a21, c21, rfl⟩ := ints_shape hu21; clear hu21; have hg21 := grew_refl w21; replace hg20 := grew_trans hg20 hx; replace hg := grew_trans hg hx; have hc := (bcell hg).1; replace hg4 := grew_trans hg4 hx; have hc4 := (bcell hg4).1; replace hg6 := grew_trans hg6 hx; have hc6 := (bcell hg6).1; have hq6 := Nat.lt_of_lt_of_le hz4 hg4.size; have hq7 := Nat.lt_of_lt_of_le hz hg.size; have hq8 := Nat.lt_of_lt_of_le hz1 hg.size; have hq9 := Nat.lt_of_lt_of_le hz6 hg6.size; clear hx)
            | (go_at_call 35; (with_reducible refine (HA2.out _ (grew_trans g01 hg)).mono ?_); rintro e w22 ⟨rfl, hx⟩; replace hg20 := grew_trans hg20 hx; replace hg21 := grew_trans hg21 hx; replace hg := grew_trans hg hx; have hc := (bcell hg).1; replace hg4 := grew_trans hg4 hx; have hc4 := (bcell hg4).1; replace hg6 := grew_trans hg6 hx; have hc6 := (bcell hg6).1; have hq6 := Nat.lt_of_lt_of_le hz4 hg4.size; have hq7 := Nat.lt_of_lt_of_le hz hg.size; have hq8 := Nat.lt_of_lt_of_le hz1 hg.size; have hq9 := Nat.lt_of_lt_of_le hz6 hg6.size; clear hx)
            | (go_at_call 25; (with_reducible refine (sameInts_same _ _ X _ (HU20.out.grew hg20) (HU21.out.grew hg21)).mono ?_); rintro e w23 ⟨rfl, hx⟩; replace hg := grew_trans hg hx; have hc := (bcell hg).1; replace hg4 := grew_trans hg4 hx; have hc4 := (bcell hg4).1; replace hg6 := grew_trans hg6 hx; have hc6 := (bcell hg6).1; have hq6 := Nat.lt_of_lt_of_le hz4 hg4.size; have hq7 := Nat.lt_of_lt_of_le hz hg.size; have hq8 := Nat.lt_of_lt_of_le hz1 hg.size; have hq9 := Nat.lt_of_lt_of_le hz6 hg6.size; clear hx)
            | (go_at_call 20; (with_reducible refine (equal_any m k _ _ _ (HSP3.out.grew (grew_trans g4 hg4)) (HSP5.out.grew (grew_trans g6 hg6))).mono ?_); rw [heq]; rintro e w24 ⟨rfl, hx⟩; replace hg := grew_trans hg hx; have hc := (bcell hg).1; replace hg4 := grew_trans hg4 hx; have hc4 := (bcell hg4).1; replace hg6 := grew_trans hg6 hx; have hc6 := (bcell hg6).1; have hq6 := Nat.lt_of_lt_of_le hz4 hg4.size; have hq7 := Nat.lt_of_lt_of_le hz hg.size; have hq8 := Nat.lt_of_lt_of_le hz1 hg.size; have hq9 := Nat.lt_of_lt_of_le hz6 hg6.size; clear hx)
            | (go_at_call 37; (with_reducible refine (HUN.out _ (grew_trans g01 hg)).mono ?_); rintro e w16 ⟨u16, rfl, hu16, hx⟩; obtain ⟨a16, c16, rfl⟩ := ints_shape hu16; replace hg := grew_trans hg hx; have hc := (bcell hg).1; replace hg4 := grew_trans hg4 hx; have hc4 := (bcell hg4).1; replace hg6 := grew_trans hg6 hx; have hc6 := (bcell hg6).1; have hq6 := Nat.lt_of_lt_of_le hz4 hg4.size; have hq7 := Nat.lt_of_lt_of_le hz hg.size; have hq8 := Nat.lt_of_lt_of_le hz1 hg.size; have hq9 := Nat.lt_of_lt_of_le hz6 hg6.size; clear hx)
            | (go_at_call 17; with_reducible refine (awake_any _).mono ?_; rintro e w6 ⟨rfl, hx6⟩))
          go_ret
          exact ⟨rfl, grew_trans (grew_trans g01 hg) hx6⟩
        · subst hP
          subst he
          have hisf : is = false := by rw [← HHIS.out]; rfl
          subst hisf
          have H3w := HR3.out ws hf.ok hl
          have H4w := HR4.out ws (HKK.out ho ▸ hf.ok) hl
          have hne : sameL (anM (machOf s) 0 ws) (anM (machOf t) 0 ws) = false := by
            unfold sameL
            exact decide_eq_false hf.tells
          obtain ⟨A, hA⟩ : ∃ X, anM (machOf s) 0 ws = X := ⟨_, rfl⟩
          obtain ⟨B, hB⟩ : ∃ Y, anM (machOf t) 0 ws = Y := ⟨_, rfl⟩
          rw [hA] at H3w
          rw [hB] at H4w
          rw [hA, hB] at hne
          replace H3w := hid H3w; replace H4w := hid H4w
          clear ho hf hA hB
          go_wp2_with (first
            | (go_at_call 28; (with_reducible refine (HR1.out _ (grew_trans g01 hg)).mono ?_); rintro e w20 ⟨u20, rfl, hu20, hx⟩; have HU20 := hid hu20; obtain ⟨a20, c20, rfl⟩ := ints_shape hu20; clear hu20; have hg20 := grew_refl w20; replace hg := grew_trans hg hx; have hc := (bcell hg).1; replace hg4 := grew_trans hg4 hx; have hc4 := (bcell hg4).1; replace hg6 := grew_trans hg6 hx; have hc6 := (bcell hg6).1; have hq6 := Nat.lt_of_lt_of_le hz4 hg4.size; have hq7 := Nat.lt_of_lt_of_le hz hg.size; have hq8 := Nat.lt_of_lt_of_le hz1 hg.size; have hq9 := Nat.lt_of_lt_of_le hz6 hg6.size; clear hx)
            | (go_at_call 28; (with_reducible refine (HR2.out _ _ (grew_trans g01 hg) (HSP3.out.grew (grew_trans g4 hg4))).mono ?_); rintro e w21 ⟨u21, rfl, hu21, hx⟩; have HU21 := hid hu21; obtain ⟨a21, c21, rfl⟩ := ints_shape hu21; clear hu21; have hg21 := grew_refl w21; replace hg20 := grew_trans hg20 hx; replace hg := grew_trans hg hx; have hc := (bcell hg).1; replace hg4 := grew_trans hg4 hx; have hc4 := (bcell hg4).1; replace hg6 := grew_trans hg6 hx; have hc6 := (bcell hg6).1; have hq6 := Nat.lt_of_lt_of_le hz4 hg4.size; have hq7 := Nat.lt_of_lt_of_le hz hg.size; have hq8 := Nat.lt_of_lt_of_le hz1 hg.size; have hq9 := Nat.lt_of_lt_of_le hz6 hg6.size; clear hx)
            | (go_at_call 35; (with_reducible refine (HA2.out _ (grew_trans g01 hg)).mono ?_); rintro e w22 ⟨rfl, hx⟩; replace hg20 := grew_trans hg20 hx; replace hg21 := grew_trans hg21 hx; replace hg := grew_trans hg hx; have hc := (bcell hg).1; replace hg4 := grew_trans hg4 hx; have hc4 := (bcell hg4).1; replace hg6 := grew_trans hg6 hx; have hc6 := (bcell hg6).1; have hq6 := Nat.lt_of_lt_of_le hz4 hg4.size; have hq7 := Nat.lt_of_lt_of_le hz hg.size; have hq8 := Nat.lt_of_lt_of_le hz1 hg.size; have hq9 := Nat.lt_of_lt_of_le hz6 hg6.size; clear hx)
            | (go_at_call 25; (with_reducible refine (sameInts_same _ _ X _ (HU20.out.grew hg20) (HU21.out.grew hg21)).mono ?_); rintro e w23 ⟨rfl, hx⟩; replace hg := grew_trans hg hx; have hc := (bcell hg).1; replace hg4 := grew_trans hg4 hx; have hc4 := (bcell hg4).1; replace hg6 := grew_trans hg6 hx; have hc6 := (bcell hg6).1; have hq6 := Nat.lt_of_lt_of_le hz4 hg4.size; have hq7 := Nat.lt_of_lt_of_le hz hg.size; have hq8 := Nat.lt_of_lt_of_le hz1 hg.size; have hq9 := Nat.lt_of_lt_of_le hz6 hg6.size; clear hx)
            | (go_at_call 20; (with_reducible refine (equal_any m k _ _ _ (HSP3.out.grew (grew_trans g4 hg4)) (HSP5.out.grew (grew_trans g6 hg6))).mono ?_); rw [heq]; rintro e w24 ⟨rfl, hx⟩; replace hg := grew_trans hg hx; have hc := (bcell hg).1; replace hg4 := grew_trans hg4 hx; have hc4 := (bcell hg4).1; replace hg6 := grew_trans hg6 hx; have hc6 := (bcell hg6).1; have hq6 := Nat.lt_of_lt_of_le hz4 hg4.size; have hq7 := Nat.lt_of_lt_of_le hz hg.size; have hq8 := Nat.lt_of_lt_of_le hz1 hg.size; have hq9 := Nat.lt_of_lt_of_le hz6 hg6.size; clear hx)
            | (go_at_call 37; (with_reducible refine (HUN.out _ (grew_trans g01 hg)).mono ?_); rintro e w16 ⟨u16, rfl, hu16, hx⟩; have HU16 := hid hu16; obtain ⟨a16, c16, rfl⟩ := ints_shape hu16; clear hu16; have hg16 := grew_refl w16; replace hg := grew_trans hg hx; have hc := (bcell hg).1; replace hg4 := grew_trans hg4 hx; have hc4 := (bcell hg4).1; replace hg6 := grew_trans hg6 hx; have hc6 := (bcell hg6).1; have hq6 := Nat.lt_of_lt_of_le hz4 hg4.size; have hq7 := Nat.lt_of_lt_of_le hz hg.size; have hq8 := Nat.lt_of_lt_of_le hz1 hg.size; have hq9 := Nat.lt_of_lt_of_le hz6 hg6.size; clear hx)
            | (go_at_call 28; (with_reducible refine (H3w.out _ _ _ (HSP3.out.grew (grew_trans g4 hg4)) (HU16.out.grew hg16)).mono ?_); rintro e w17 ⟨u17, to17, rfl, hu17, hx⟩; have HU17 := hid hu17; obtain ⟨a17, c17, rfl⟩ := ints_shape hu17; clear hu17; have hg17 := grew_refl w17; replace hg16 := grew_trans hg16 hx; replace hg := grew_trans hg hx; have hc := (bcell hg).1; replace hg4 := grew_trans hg4 hx; have hc4 := (bcell hg4).1; replace hg6 := grew_trans hg6 hx; have hc6 := (bcell hg6).1; have hq6 := Nat.lt_of_lt_of_le hz4 hg4.size; have hq7 := Nat.lt_of_lt_of_le hz hg.size; have hq8 := Nat.lt_of_lt_of_le hz1 hg.size; have hq9 := Nat.lt_of_lt_of_le hz6 hg6.size; clear hx)
            | (go_at_call 28; (with_reducible refine (H4w.out _ _ _ (HSP5.out.grew (grew_trans g6 hg6)) (HU16.out.grew hg16)).mono ?_); rintro e w18 ⟨u18, to18, rfl, hu18, hx⟩; have HU18 := hid hu18; obtain ⟨a18, c18, rfl⟩ := ints_shape hu18; clear hu18; replace hg17 := grew_trans hg17 hx; replace hg := grew_trans hg hx; have hc := (bcell hg).1; replace hg4 := grew_trans hg4 hx; have hc4 := (bcell hg4).1; replace hg6 := grew_trans hg6 hx; have hc6 := (bcell hg6).1; have hq6 := Nat.lt_of_lt_of_le hz4 hg4.size; have hq7 := Nat.lt_of_lt_of_le hz hg.size; have hq8 := Nat.lt_of_lt_of_le hz1 hg.size; have hq9 := Nat.lt_of_lt_of_le hz6 hg6.size; clear hx)
            | (go_at_call 25; (with_reducible refine (sameInts_any _ _ A B _ (HU17.out.grew hg17) HU18.out).mono ?_); rw [hne]; rintro e w19 ⟨rfl, hx⟩; replace hg := grew_trans hg hx; have hc := (bcell hg).1; replace hg4 := grew_trans hg4 hx; have hc4 := (bcell hg4).1; replace hg6 := grew_trans hg6 hx; have hc6 := (bcell hg6).1; have hq6 := Nat.lt_of_lt_of_le hz4 hg4.size; have hq7 := Nat.lt_of_lt_of_le hz hg.size; have hq8 := Nat.lt_of_lt_of_le hz1 hg.size; have hq9 := Nat.lt_of_lt_of_le hz6 hg6.size; clear hx)
            | (go_at_call 17; with_reducible refine (awake_any _).mono ?_; rintro e w6 ⟨rfl, hx6⟩))
          go_ret
          exact ⟨rfl, grew_trans (grew_trans g01 hg) hx6⟩
  · obtain ⟨na, nc, ya, yc, rfl⟩ := isSpec_open' hs
    obtain ⟨ma, mc, xa, xc, rfl⟩ := isSpec_open' ht
    obtain ⟨W0, W1, hW0, hW1, g01, hz, hz1, ⟨k0, k1, k2, k3⟩, ⟨l0, l1, l2, l3⟩⟩ := boxes na nc ya yc ma mc xa xc
    have hg := grew_refl W1
    clear boxes hs ht
    obtain ⟨v1, h1⟩ : ∃ v, validM s = v := ⟨_, rfl⟩
    obtain ⟨v2, h2⟩ : ∃ v, validM t = v := ⟨_, rfl⟩
    obtain ⟨v3, h3⟩ : ∃ v, isWordM s.ops xs = v := ⟨_, rfl⟩
    rw [h1, h2, h3] at hvt
    rw [h1] at HRV
    rw [h2] at HRV2
    rw [h3] at HWD
    clear h1 h2 h3 hxs
    cases v1 <;> cases v2 <;> cases v3 <;> first | exact absurd ⟨⟨rfl, rfl⟩, rfl⟩ hvt | skip
    all_goals
      clear hvt
      go_enter Try.func10, Try.ntmps10
      go_wp2_with (first
        | (go_at_call 16; with_reducible refine (HLO.out _ (grew_trans g01 hg)).mono ?_; rintro e wa ⟨xa1, rfl, hx1, hx⟩; replace hg := grew_trans hg hx; have hc := (bcell hg).1; clear hx; rcases hx1 with rfl | rfl)
        | (go_at_call 16; with_reducible refine (HLO2.out _ (grew_trans g01 hg)).mono ?_; rintro e wb ⟨xa2, rfl, hx2, hx⟩; replace hg := grew_trans hg hx; have hc := (bcell hg).1; clear hx; rcases hx2 with rfl | rfl)
        | (go_at_call 33; with_reducible refine (HRV.out _ (grew_trans g01 hg)).mono ?_; rintro e wc ⟨rfl, hx⟩; replace hg := grew_trans hg hx; have hc := (bcell hg).1; clear hx)
        | (go_at_call 33; with_reducible refine (HRV2.out _ (grew_trans g01 hg)).mono ?_; rintro e wd ⟨rfl, hx⟩; replace hg := grew_trans hg hx; have hc := (bcell hg).1; clear hx)
        | (go_at_call 34; with_reducible refine (HWD.out _ (grew_trans g01 hg)).mono ?_; rintro e we ⟨rfl, hx⟩; replace hg := grew_trans hg hx; have hc := (bcell hg).1; clear hx)
        | (go_at_call 17; with_reducible refine (awake_any _).mono ?_; rintro e w6 ⟨rfl, hx6⟩))
      all_goals
        go_ret
        exact ⟨rfl, grew_trans (grew_trans g01 hg) hx6⟩
end Go.Proofs.Ytnebpcpihldllaa
