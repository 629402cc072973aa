/- The law SpecTold: it answers true of every input. -/
import Derived.Test.YtnebpcpihldllaaMoore
import Derived.Test.YtnebpcpihldllaaWClass
import Derived.Test.YtnebpcpihldllaaWTells
import Derived.Test.YtnebpcpihldllaaLRuns
namespace Go.Lin

theorem toN_ofN (ws : List Nat) : toN (ofN ws) = ws := by
  unfold toN ofN
  rw [List.map_map]
  conv => rhs; rw [← List.map_id ws]
  exact List.map_congr_left (fun x _ => by simp)

theorem isWord_ofN {s : RSpec} {ws : List Nat} (hv : validM s = true) (hw : OkW (machOf s).k ws) (hl : ws.length ≤ 20) : isWordM s.ops (ofN ws) = true := by
  obtain ⟨⟨_, _, o1, _⟩, _⟩ := valid_parts hv
  unfold isWordM
  rw [Bool.and_eq_true, List.all_eq_true]
  refine ⟨fun x hx => ?_, by simpa [ofN] using hl⟩
  obtain ⟨y, hy, rfl⟩ := List.mem_map.1 hx
  have := hw y hy
  simp only [machOf] at this
  unfold inM
  simp; omega

/-- What the two answers of Tells are. -/
theorem tells_ok {s : RSpec} {a b : Nat} {xs : List Int} (hv : validM s = true) (ha : a < (machOf s).n) (hb : b < (machOf s).n) (hw : isWordM s.ops xs = true) :
    tellsE s a b xs = 0 ∧ tellsB s a b xs = !sameL (anM (machOf s) a (toN xs)) (anM (machOf s) b (toN xs)) := by
  have h1 : inM s.st (a : Int) = true := by unfold inM; simp; simp only [machOf] at ha; omega
  have h2 : inM s.st (b : Int) = true := by unfold inM; simp; simp only [machOf] at hb; omega
  have he : tellsE s a b xs = 0 := by unfold tellsE; rw [hv, h1, h2, hw]; rfl
  refine ⟨he, ?_⟩
  unfold tellsB
  rw [if_pos he]
  rfl

theorem sameL_self (xs : List Int) : sameL xs xs = true := by unfold sameL; exact decide_eq_true rfl
theorem sameL_false {xs ys : List Int} (h : xs ≠ ys) : sameL xs ys = false := by unfold sameL; exact decide_eq_false h

theorem classes_at {w : World} {u : Value} {n : Nat} {cl : Nat → Nat} (h : IsNats Any w u ((List.range n).map cl)) {i j k : Nat} (hi : i < n) (hj : j < n) (hk : k < n) :
    ∃ b off cap, u = .slice (some ⟨b, off, none⟩) n cap ∧ w.cell? ⟨b, off + i, none⟩ = some (.int .i64 (cl i : Int)) ∧ w.cell? ⟨b, off + j, none⟩ = some (.int .i64 (cl j : Int)) ∧ w.cell? ⟨b, off + k, none⟩ = some (.int .i64 (cl k : Int)) ∧ b < w.heap.size := by
  obtain ⟨a, cap, rfl, _, hc⟩ := h
  have hl : ((List.range n).map cl).length = n := by simp
  have hv : ∀ x, x < n → nthN ((List.range n).map cl) x = cl x := fun x hx => by simp [nthN, List.getD, List.getElem?_map, List.getElem?_range hx]
  rw [hl] at hc
  rw [hl]
  obtain ⟨b, off, o, rfl, ho, _, h1⟩ := hc i hi
  obtain ⟨b', off', _, he, _, _, h2⟩ := hc j hj
  simp only [Option.some.injEq, Addr.mk.injEq] at he
  obtain ⟨rfl, rfl, _⟩ := he
  obtain ⟨b', off', _, he, _, _, h3⟩ := hc k hk
  simp only [Option.some.injEq, Addr.mk.injEq] at he
  obtain ⟨rfl, rfl, _⟩ := he
  simp only [hv i hi] at h1
  simp only [hv j hj] at h2
  simp only [hv k hk] at h3
  exact ⟨b, off, cap, rfl, h1, h2, h3, lt_of_obj ho⟩

theorem tmod_nat {x : Int} {n : Nat} (h : 0 ≤ x) (hn : 1 ≤ n) : ∃ a : Nat, x.tmod (n : Int) = (a : Int) ∧ a < n := by
  have h1 : x.tmod (n : Int) = x % (n : Int) := Int.tmod_eq_emod_of_nonneg h
  have h2 := Int.emod_nonneg x (show (n : Int) ≠ 0 by omega)
  have h3 := Int.emod_lt_of_pos x (show (0 : Int) < n by omega)
  exact ⟨(x % (n : Int)).toNat, by rw [h1]; omega, by omega⟩

theorem ints_take {S : Nat → Obj → Prop} {w : World} {ad : Option Addr} {n c k : Nat} {xs : List Int} (h : IsInts S w (.slice ad n c) xs) (hk : k ≤ xs.length) : IsInts S w (.slice ad k c) (xs.take k) := by
  obtain ⟨a, cap, hv, hm, hc⟩ := h
  simp only [Value.slice.injEq] at hv
  obtain ⟨rfl, _, rfl⟩ := hv
  have hl : (xs.take k).length = k := by rw [List.length_take]; omega
  refine ⟨ad, c, by rw [hl], by rw [hl]; omega, fun i hi => ?_⟩
  rw [hl] at hi
  obtain ⟨b, off, o, h1, h2, h3, h4⟩ := hc i (by omega)
  refine ⟨b, off, o, h1, h2, h3, ?_⟩
  have : nth (xs.take k) i = nth xs i := by
    rw [nth_lt (by omega), nth_lt (by omega), List.getElem_take]
  show w.cell? ⟨b, off + i, none⟩ = some (.int .i64 (nth (xs.take k) i))
  rw [this]; exact h4

theorem told_facts {s : RSpec} {a b : Nat} {xs : List Int} {ws : List Nat} (hv : validM s = true) (ha : a < (machOf s).n) (hb : b < (machOf s).n) (hw : isWordM s.ops xs = true) (h : IsFirst (machOf s) (machOf s) a b ws) :
    1 ≤ ws.length ∧ ws.length + 1 ≤ (machOf s).n ∧ tellsE s a b (ofN ws) = 0 ∧ tellsB s a b (ofN ws) = true ∧ tellsE s a b ((ofN ws).take (ws.length - 1)) = 0 ∧ tellsB s a b ((ofN ws).take (ws.length - 1)) = false ∧ (tellsB s a b xs = true → ws.length ≤ xs.length) := by
  have hmo := moore (wf_machOf hv) ha hb h
  have hn8 := (wf_machOf hv).n8
  have h1 : 1 ≤ ws.length := by
    rcases Nat.eq_zero_or_pos ws.length with h0 | h0
    · have := List.eq_nil_of_length_eq_zero h0
      subst this
      exact absurd rfl h.tells
    · exact h0
  have hw1 := isWord_ofN hv h.ok (by omega)
  have htk : (ofN ws).take (ws.length - 1) = ofN (ws.take (ws.length - 1)) := by simp [ofN, List.map_take]
  have hok2 : OkW (machOf s).k (ws.take (ws.length - 1)) := h.ok.take _
  have hw2 := isWord_ofN hv hok2 (by rw [List.length_take]; omega)
  obtain ⟨e1, e2⟩ := tells_ok hv ha hb hw1
  rw [toN_ofN] at e2
  obtain ⟨e3, e4⟩ := tells_ok hv ha hb hw2
  rw [toN_ofN] at e4
  have hs := h.short hok2 (by rw [List.length_take]; omega)
  refine ⟨h1, hmo, e1, ?_, by rw [htk]; exact e3, ?_, fun ht => ?_⟩
  · rw [e2, sameL_false h.tells]; rfl
  · rw [htk, e4, hs, sameL_self]; rfl
  · obtain ⟨_, e6⟩ := tells_ok hv ha hb hw
    rw [e6] at ht
    have hlen : (toN xs).length = xs.length := by simp [toN]
    have htell : anM (machOf s) a (toN xs) ≠ anM (machOf s) b (toN xs) := by
      intro he
      rw [he, sameL_self] at ht; cases ht
    rcases h.least _ (okW_toN hw) htell with h3 | ⟨h3, _⟩ <;> omega

end Go.Lin
namespace Go.Proofs.Ytnebpcpihldllaa
open Go.RowKit Go.Lin

set_option maxHeartbeats 4000000 in
set_option maxRecDepth 100000 in
theorem specTold_skip (s : RSpec) (x8 y8 z8 : Int) (ws : List Int) (sv v : Value) (w : World) (hs : IsSpec w sv s) (hx : IsInts Any w v ws) (hno : (validM s && isWordM s.ops ws) = false) :
    Calls Try.prog 7 #[sv, .int .u8 x8, .int .u8 y8, .int .u8 z8, v] w fun e w' => e = .returned (.bool true) ∧ Grew w w' := by
  have HS := hs
  have HX := hx
  obtain ⟨va, vc, rfl⟩ := ints_shape hx
  obtain ⟨na, nc, ya, yc, rfl⟩ := isSpec_open' hs
  obtain ⟨W0, hW0, g0, k0, k1, k2, k3, hz⟩ := box4 w (.int .i64 s.st) (.int .i64 s.ops) (.slice na s.next.length nc) (.slice ya s.says.length yc) 24
  have hg := grew_refl W0
  have HRV := hid (fun (y : World) (hy : Grew w y) => refValid_any s _ y (HS.grew hy))
  have HWD := hid (fun (y : World) (hy : Grew w y) => isWord_any s _ _ ws y (HS.grew hy) (HX.grew hy))
  have HLO := hid (fun (y : World) (hy : Grew w y) => long_any s _ y (HS.grew hy))
  cases hv : validM s with
  | false =>
    rw [hv] at HRV
    clear hs hx HX hno
    go_enter Try.func7, Try.ntmps7
    go_wp2_with (first
      | (go_at_call 16; with_reducible refine (HLO.out _ (grew_trans g0 hg)).mono ?_; rintro e w1 ⟨x1, rfl, hx1, hx⟩; replace hg := grew_trans hg hx; have hc := (bcell hg).1; clear hx; rcases hx1 with rfl | rfl)
      | (go_at_call 33; with_reducible refine (HRV.out _ (grew_trans g0 hg)).mono ?_; rintro e w2 ⟨rfl, hx⟩; replace hg := grew_trans hg hx; have hc := (bcell hg).1; clear hx)
      | (go_at_call 17; with_reducible refine (awake_any _).mono ?_; rintro e w6 ⟨rfl, hx6⟩))
    all_goals
      go_ret
      exact ⟨rfl, grew_trans (grew_trans g0 hg) hx6⟩
  | true =>
    have hw : isWordM s.ops ws = false := by rw [hv] at hno; simpa using hno
    rw [hv] at HRV
    rw [hw] at HWD
    clear hs hx HX hno
    go_enter Try.func7, Try.ntmps7
    go_wp2_with (first
      | (go_at_call 16; with_reducible refine (HLO.out _ (grew_trans g0 hg)).mono ?_; rintro e w1 ⟨x1, rfl, hx1, hx⟩; replace hg := grew_trans hg hx; have hc := (bcell hg).1; clear hx; rcases hx1 with rfl | rfl)
      | (go_at_call 33; with_reducible refine (HRV.out _ (grew_trans g0 hg)).mono ?_; rintro e w2 ⟨rfl, hx⟩; replace hg := grew_trans hg hx; have hc := (bcell hg).1; clear hx)
      | (go_at_call 34; with_reducible refine (HWD.out _ (grew_trans g0 hg)).mono ?_; rintro e w2 ⟨rfl, hx⟩; replace hg := grew_trans hg hx; have hc := (bcell hg).1; clear hx)
      | (go_at_call 17; with_reducible refine (awake_any _).mono ?_; rintro e w6 ⟨rfl, hx6⟩))
    all_goals
      go_ret
      exact ⟨rfl, grew_trans (grew_trans g0 hg) hx6⟩

set_option maxHeartbeats 4000000 in
set_option maxRecDepth 100000 in
theorem specTold_same (s : RSpec) (x8 y8 z8 : Int) (a b c : Nat) (ws : List Int) (sv v : Value) (w : World) (hs : IsSpec w sv s) (hx : IsInts Any w v ws) (hv : validM s = true) (hw : isWordM s.ops ws = true)
    (hxa : x8.tmod ((machOf s).n : Int) = (a : Int)) (hyb : y8.tmod ((machOf s).n : Int) = (b : Int)) (hzc : z8.tmod ((machOf s).k : Int) = (c : Int)) (ha : a < (machOf s).n) (hb : b < (machOf s).n) (hc0 : c < (machOf s).k)
    (h8 : 0 ≤ x8 ∧ x8 ≤ 255) (h9 : 0 ≤ y8 ∧ y8 ≤ 255) (h10 : 0 ≤ z8 ∧ z8 ≤ 255)
    (sB : Nat → Nat → Bool) (cl : Nat → Nat) (hS : Sames (machOf s) sB cl) (hsame : sB a b = true) :
    Calls Try.prog 7 #[sv, .int .u8 x8, .int .u8 y8, .int .u8 z8, v] w fun e w' => e = .returned (.bool true) ∧ Grew w w' := by
  have hno := (hS.same a b).1 hsame
  obtain ⟨hsy, hnx⟩ := hno.next hc0
  have hwf := wf_machOf hv
  have hna := hwf.nx a ha c hc0
  have hnb := hwf.nx b hb c hc0
  have hsn : sB ((machOf s).nx a c) ((machOf s).nx b c) = true := (hS.same _ _).2 hnx
  obtain ⟨te0, tb0⟩ := tells_ok hv ha hb hw
  have htb : tellsB s a b ws = false := by rw [tb0, hno _ (okW_toN hw), sameL_self]; rfl
  have hok : askedM s a b = 0 := by
    have h1 : inM s.st (a : Int) = true := by unfold inM; simp; simp only [machOf] at ha; omega
    have h2 : inM s.st (b : Int) = true := by unfold inM; simp; simp only [machOf] at hb; omega
    unfold askedM; rw [hv, h1, h2]; rfl
  have hcf := hS.facts a b
  have hcle := hS.le a
  have hsa := fun (y : World) (hy : Grew w y) => sameOf_ok s a b sB hS.same _ y (hs.grew hy) hv ha hb
  have hsn2 := fun (y : World) (hy : Grew w y) => sameOf_ok s _ _ sB hS.same _ y (hs.grew hy) hv hna hnb
  rw [hsame] at hsa hcf
  rw [hsn] at hsn2
  have hwo : ∀ (y : World) (hy : Grew w y), Calls Try.prog 23 #[sv, .int .i64 (a : Int), .int .i64 (b : Int)] y fun e w' => e = .returned (.tuple #[.slice none 0 0, .int .i64 5]) ∧ Grew y w' := fun y hy => by
    refine (word_ok s a b sv y (hs.grew hy) hok).mono ?_
    rintro e w' ⟨u, ev, rfl, hg, h⟩
    rcases h with ⟨_, wz, h1, _⟩ | ⟨rfl, rfl, _⟩
    · exact absurd (hno wz h1.ok) h1.tells
    · exact ⟨rfl, hg⟩
  have htl := fun (y : World) (hy : Grew w y) => tells_any s a b ws _ _ y (hs.grew hy) (hx.grew hy)
  rw [te0, htb] at htl
  have hcl := fun (y : World) (hy : Grew w y) => classesOf_ok s sB cl hS _ y (hs.grew hy) hv
  have HS := hs
  have HX := hx
  have hmach := hs.isMach hv
  have HRV := hid (fun (y : World) (hy : Grew w y) => refValid_any s _ y (HS.grew hy))
  have HWD := hid (fun (y : World) (hy : Grew w y) => isWord_any s _ _ ws y (HS.grew hy) (HX.grew hy))
  have HLO := hid (fun (y : World) (hy : Grew w y) => long_any s _ y (HS.grew hy))
  rw [hv] at HRV
  rw [hw] at HWD
  have n1 := hwf.n1; have n8 := hwf.n8; have k1' := hwf.k1; have k4 := hwf.k4
  obtain ⟨b1, off1, c1, b2, off2, c2, rfl, t1, t2⟩ := hmach
  obtain ⟨va, vc, rfl⟩ := ints_shape hx
  obtain ⟨W0, hW0, g0, k0, k1, k2, k3, hz⟩ := box4 w (.int .i64 ((machOf s).n : Int)) (.int .i64 ((machOf s).k : Int)) (.slice (some ⟨b1, off1, none⟩) (machOf s).n c1) (.slice (some ⟨b2, off2, none⟩) (machOf s).n c2) 24
  have T1 := hid (t1.grew g0); have T2 := hid (t2.grew g0)
  have HSA := hid hsa; have HSN := hid hsn2; have HWO := hid hwo; have HTL := hid htl; have HCL := hid hcl
  have HCF := hid hcf; have HSY := hid hsy
  clear hsa hsn2 hwo htl hcl hcf hsy hs hx hv hw hok hno hnx hsn te0 tb0 htb HS HX t1 t2 hwf hsame
  have hg := grew_refl W0
  go_enter Try.func7, Try.ntmps7
  go_wp2_with (first
    | (go_at_call 16; with_reducible refine (HLO.out _ (grew_trans g0 hg)).mono ?_; rintro e w1 ⟨x1, rfl, hx1, hx⟩; replace hg := grew_trans hg hx; have hc := (bcell hg).1; clear hx; rcases hx1 with rfl | rfl)
    | (go_at_call 33; with_reducible refine (HRV.out _ (grew_trans g0 hg)).mono ?_; rintro e w2 ⟨rfl, hx⟩; replace hg := grew_trans hg hx; have hc := (bcell hg).1; clear hx)
    | (go_at_call 34; with_reducible refine (HWD.out _ (grew_trans g0 hg)).mono ?_; rintro e w2 ⟨rfl, hx⟩; replace hg := grew_trans hg hx; have hc := (bcell hg).1; have hzz := Nat.lt_of_lt_of_le hz hg.size; clear hx)
    | (go_at_call 17; with_reducible refine (awake_any _).mono ?_; rintro e w6 ⟨rfl, hx6⟩))
  · go_ret
    exact ⟨rfl, grew_trans (grew_trans g0 hg) hx6⟩
  · go_quiet (fail)
    obtain ⟨wq, hwq, hgq⟩ : ∃ wq, w2.drewN nq = wq ∧ Grew w2 wq := ⟨_, rfl, grew_drewN (grew_refl _) _⟩
    rw [hwq]
    clear hwq hc
    replace hg := grew_trans hg hgq
    have hc := (bcell hg).1
    have hcn : cl a < (machOf s).n := by omega
    have hpq : cl b = cl a := by have := HCF.out.1; simp at this; exact this.symm
    have hpp : cl (cl a) = cl a := HCF.out.2
    have HPQ := hid hpq; have HPP := hid hpp; clear hpq hpp
    clear hgq
    go_wp2_with (first
      | (go_at_call 21; with_reducible refine (HSA.out _ (grew_trans g0 hg)).mono ?_; rintro e w3 ⟨rfl, hx⟩; replace hg := grew_trans hg hx; have hc := (bcell hg).1; clear hx)
      | (go_at_call 23; with_reducible refine (HWO.out _ (grew_trans g0 hg)).mono ?_; rintro e w4 ⟨rfl, hx⟩; replace hg := grew_trans hg hx; have hc := (bcell hg).1; clear hx)
      | (go_at_call 30; with_reducible refine (HTL.out _ (grew_trans g0 hg)).mono ?_; rintro e w5 ⟨rfl, hx⟩; replace hg := grew_trans hg hx; have hc := (bcell hg).1; clear hx)
      | (go_at_call 26; with_reducible refine (HCL.out _ (grew_trans g0 hg)).mono ?_; rintro e wc ⟨u, rfl, hu, hx⟩; replace hg := grew_trans hg hx; have hc := (bcell hg).1; clear hx; obtain ⟨cb, coff, ccap, rfl, y1, y2, y3, hcb⟩ := classes_at hu ha hb hcn; clear hu; rw [HPQ.out] at y2; rw [HPP.out] at y3))
    go_quiet (fail)
    obtain ⟨wz, hwz, hgz⟩ : ∃ wz, wc.drewN nq = wz ∧ Grew wc wz := ⟨_, rfl, grew_drewN (grew_refl _) _⟩
    rw [hwz]
    clear hwz hc y1 y2 y3
    replace hg := grew_trans hg hgz
    have hc := (bcell hg).1
    obtain ⟨ra, oa, ca, r1, r1b, r1c⟩ := T1.out.2 a ha
    obtain ⟨rb, ob, cb2, r2, r2b, r2c⟩ := T1.out.2 b hb
    have r1d := r1c c hc0
    have r2d := r2c c hc0
    have T1b := T1.out.1
    clear r1c r2c
    have q1 := (hg.cell (p := ⟨b1, off1 + a, none⟩) T1b).trans r1
    have q2 := (hg.cell (p := ⟨b1, off1 + b, none⟩) T1b).trans r2
    have q3 := (hg.cell (p := ⟨ra, oa + c, none⟩) r1b).trans r1d
    have q4 := (hg.cell (p := ⟨rb, ob + c, none⟩) r2b).trans r2d
    have z0 := Nat.lt_of_lt_of_le hz hg.size
    have z1 := Nat.lt_of_lt_of_le T1b hg.size
    have z2 := Nat.lt_of_lt_of_le r1b hg.size
    have z3 := Nat.lt_of_lt_of_le r2b hg.size
    clear hgz hcb
    go_wp2
    refine wp_region_later (by kernel_rfl) (by kernel_rfl) (fun hL => ?_)
    repeat (go_big_quiet_step ((go_at_call 21; exact calls_later (HSN.out _ (grew_trans (grew_trans g0 hg) (Subtype.property _))))))
    refine wpQuiet_nil ?_
    rintro wy ⟨y, hy⟩
    have hwy : Grew wz wy := by rw [hy]; exact y.2
    clear hL hy y q1 q2 q3 q4 z0 z1 z2 z3 hc r1 r2 r1d r2d
    replace hg := grew_trans hg hwy
    have hc := (bcell hg).1
    obtain ⟨ra2, oa2, ca2, r1, r1b2, r1c⟩ := T2.out.2 a ha
    obtain ⟨rb2, ob2, cb3, r2, r2b2, r2c⟩ := T2.out.2 b hb
    have r1d := r1c c hc0
    have r2d := r2c c hc0
    rw [HSY.out] at r1d
    have T2b := T2.out.1
    clear r1c r2c
    have q1 := (hg.cell (p := ⟨b2, off2 + a, none⟩) T2b).trans r1
    have q2 := (hg.cell (p := ⟨b2, off2 + b, none⟩) T2b).trans r2
    have q3 := (hg.cell (p := ⟨ra2, oa2 + c, none⟩) r1b2).trans r1d
    have q4 := (hg.cell (p := ⟨rb2, ob2 + c, none⟩) r2b2).trans r2d
    have z0 := Nat.lt_of_lt_of_le hz hg.size
    have z1 := Nat.lt_of_lt_of_le T2b hg.size
    have z2 := Nat.lt_of_lt_of_le r1b2 hg.size
    have z3 := Nat.lt_of_lt_of_le r2b2 hg.size
    clear hwy
    go_wp2
    refine wp_region_later (by kernel_rfl) (by kernel_rfl) (fun hL => ?_)
    repeat (go_big_quiet_step ((go_at_call 17; exact calls_later (awake_any _))))
    refine wpQuiet_nil ?_
    rintro w9 ⟨y, hy⟩
    have hw9 : Grew w w9 := by rw [hy]; exact grew_trans (grew_trans g0 hg) y.2
    clear hL hy y
    go_wp2
    go_ret
    exact ⟨rfl, hw9⟩
end Go.Proofs.Ytnebpcpihldllaa
