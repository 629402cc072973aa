/- Walk: sizes, of the reference (95): how many words a class has, by a table of sets of occurrences. -/
import Derived.Test.YtmohnddglmolgaaGreatDoorWvM
import Derived.Test.YtmohnddglmolgaaGreatDoorKwB
import Derived.OwnWalk
import Derived.StillTailTactics
import Derived.Deep.RegionHeld3
import Derived.Deep.QuietTactic
namespace Go.Lin.Wv
def fAhead (D : Int → Int → Bool) (x : List Int) (i k t : Nat) : Nat := if t < i then aheadM D x t else if t = i then aheadTo D x i k else 0
def AhAt (D : Int → Int → Bool) (x al : List Int) (n i k : Nat) : Prop := al.length = n ∧ ∀ t, t < n → nth al t = ((fAhead D x i k t : Nat) : Int)
end Go.Lin.Wv
namespace Go.Lin
open Go Go.RowKit
theorem Seg.setW {w : World} {base n j : Nat} {v : Value} {xs : List Value} (h : Seg w base 3 1 v n xs) {g off cap : Nat} (hv : v = .slice (some ⟨g, off, none⟩) n cap) (hj : j < n) (u : Value) :
    Seg (w.setCell ⟨g, off + j, none⟩ u) base 3 1 v n (xs.set j u) := by
  obtain ⟨h1, h2⟩ := h
  refine ⟨by rw [List.length_set]; exact h1, ?_⟩
  rcases h2 with ⟨rfl, _⟩ | ⟨g', off', cap', cur, rfl, hb, hg, hn, hm, hs, ht⟩
  · simp at hv
  · simp only [Value.slice.injEq, Option.some.injEq, Addr.mk.injEq, and_true] at hv
    obtain ⟨⟨rfl, rfl⟩, -, rfl⟩ := hv
    refine .inr ⟨g', off', cap', _, rfl, hb, heap_setCell_same w g' (off' + j) cur 3 u hg, hn, hm, by simpa using hs, ?_⟩
    rw [← ht]
    have hlen : ((cur.toList.drop off').take (n * 1)).length = n := by rw [List.length_take, List.length_drop, Array.length_toList]; omega
    apply List.ext_getElem?
    intro t
    by_cases htj : t = j
    · subst htj
      rw [List.getElem?_take_of_lt (by omega), List.getElem?_drop, Array.getElem?_toList, Array.getElem?_setIfInBounds, if_pos rfl, if_pos (by omega), List.getElem?_set_self (by omega)]
    · rw [List.getElem?_set_ne (by omega)]
      by_cases ht : t < n * 1
      · rw [List.getElem?_take_of_lt ht, List.getElem?_take_of_lt ht, List.getElem?_drop, List.getElem?_drop, Array.getElem?_toList, Array.getElem?_toList, Array.getElem?_setIfInBounds, if_neg (by omega)]
      · rw [List.getElem?_eq_none (by rw [List.length_take]; omega), List.getElem?_eq_none (by rw [List.length_take]; omega)]
end Go.Lin
namespace Go.Proofs.YtmohnddglmolgaaGreatDoor.Kw
open Go.RowKit Go.Lin Go.Lin.Wv

theorem wd_cell {w : World} {a : Option Addr} {n c : Nat} {xs : List Int} (h : IsWd w (.slice a n c) xs) (j : Nat) (hj : j < n) : ∃ b off o, a = some ⟨b, off, none⟩ ∧ w.heap[b]? = some o ∧ w.cell? ⟨b, off + j, none⟩ = some (.int .i64 (nth xs j)) := by
  obtain ⟨a1, c1, h1, _, a2, c2, h2, _, hc⟩ := h
  simp only [Value.slice.injEq] at h1 h2
  obtain ⟨rfl, rfl, rfl⟩ := h1
  obtain ⟨rfl, -, rfl⟩ := h2
  obtain ⟨b, off, o, e1, e2, _, e3⟩ := hc j hj
  exact ⟨b, off, o, e1, e2, e3⟩

theorem nth_setI {l : List Int} {i j : Nat} {v : Int} (hi : i < l.length) : nth (l.set i v) j = if i = j then v else nth l j := by
  unfold nth
  simp only [List.getD, List.getElem?_set]
  by_cases h : i = j
  · subst h; simp [hi]
  · simp [h]

theorem seg_zeros {w : World} {base n : Nat} {v : Value} (h : w.ownsRow base 3 1 v n (madeCells (Value.int .i64 0).cells (n * 1)).toList) : Seg w base 3 1 v n ((List.replicate n (0 : Int)).map (.int .i64)) := by
  have e : (madeCells (Value.int .i64 0).cells (n * 1)).toList = (List.replicate n (0 : Int)).map (.int .i64) := by
    rw [List.map_replicate]
    unfold madeCells
    rw [Nat.mul_one]
    apply List.ext_getElem
    · simp
    · intro i h1 h2
      simp [Value.cells, Nat.mod_one]
  rw [e] at h
  exact Seg.of_ownsRow h

set_option maxHeartbeats 8000000 in
set_option maxRecDepth 20000 in
theorem sizes95_any (v : Value) (L : Lt) (wv : Value) (x : List Int) (N : Nat) (w : World) (hN : L.n = (N : Int)) (hN6 : N ≤ 6) (hw : ∀ z ∈ x, 0 ≤ z ∧ z < (N : Int)) (hlen : x.length ≤ 10) (hv : IsLt w v L) (hx : IsWd w wv x) :
    Calls Tryz.prog 127 #[v, wv] w fun e w' => e = .returned (.int .i64 (sizeM (dep L) N x : Nat)) ∧ Grew w w' := by
  have HDEP := hid (fun (a b : Int) (y : World) (hy : Grew w y) => depend_any v L a b y (hv.grew hy))
  obtain ⟨s, rfl, -⟩ := hv
  obtain ⟨xa, xc, rfl⟩ := isWd_slice hx
  rw [hN]
  rw [hN] at HDEP
  obtain ⟨W0, hW0, g0, k0, k1, hz⟩ := box2 w (.int .i64 (N : Int)) s 173
  obtain ⟨n, hn⟩ : ∃ n, x.length = n := ⟨_, rfl⟩
  have HN := hid hn
  have HXM := hid (show IsWd w (.slice xa n xc) x by rw [← hn]; exact hx)
  have HREC := hid (fun (S : Nat) (h1 : 1 ≤ S) (h2 : S < 2 ^ x.length) => wayM_rec (dep_refl L) (dep_comm L) hw h1 h2)
  have HALL := hid (wayM_all (dep_refl L) (dep_comm L) hw)
  have HLE := hid (fun S => wayM_le (D := dep L) hN6 hlen S)
  rw [hn] at hlen HALL HREC ⊢
  obtain ⟨P, hP⟩ : ∃ P, 2 ^ n = P := ⟨_, rfl⟩
  have hP10 : P ≤ 1024 := by
    rw [← hP]
    calc 2 ^ n ≤ 2 ^ 10 := Nat.pow_le_pow_right (by decide) hlen
      _ = 1024 := by decide
  have hP1 : 1 ≤ P := by rw [← hP]; exact Nat.pow_pos (by decide)
  have HP := hid hP
  rw [hP] at HREC HALL
  obtain ⟨i0, hi0, hi1, hi2, hi3⟩ := info_parts Tryz.info3
  have HBY := hid hi3
  clear hn hx hw hP
  go_enter Tryz.func127, Tryz.ntmps127
  go_wp2_with (refine wpList_make_full _ rfl _ _ 39 rfl W0.heap.size 3 i0 (.int .i64 0) 1 Tryz.underlying39 hi0 hi1 hi2 .i64 .i64 (n : Int) (n : Int) n rfl rfl rfl rfl (by rw [HBY.out]; omega) (by unfold maxLen; omega) (Nat.le_refl _) ?_; intro w1 hown1 hgr1; have hs1 := hid (seg_zeros hown1); have hg1 := hid (show Grew W0 w1 from (grew_refl W0).grown hgr1 (Nat.le_refl _) (fun k e => by cases e)); clear hown1 hgr1)
  have HZ := hid hz
  have HK0 := hid k0; have HK1 := hid k1
  go_loopg [7, 8, 19] n (fun gk _ _ i wr => ∃ (j : Nat) (al : List Int), j ≤ n ∧ i = .int .i64 j ∧ Hid (gk = n - j) ∧ Hid (AhAt (dep L) x al n j 0) ∧ Hid (Seg wr W0.heap.size 3 1 (.slice (some ⟨W0.heap.size, 0, none⟩) n n) n (al.map (.int .i64))) ∧ Hid (Grew W0 wr))
  case atStart => exact ⟨0, List.replicate n 0, by omega, rfl, hid rfl, hid ⟨by simp, fun t ht => by simp [nth, fAhead, List.getD, ht, aheadTo]⟩, hs1, hg1⟩
  case round =>
    obtain ⟨j, al, hj, rfl, HG, HA, HSG, HGW⟩ := hrel
    rename World => wr
    by_cases hlt : j < n
    · go_wp2
      go_loopg [8, 23] j (fun gk _ k wr2 => ∃ (q : Nat) (al2 : List Int), q ≤ j ∧ k = .int .i64 q ∧ Hid (gk = j - q) ∧ Hid (AhAt (dep L) x al2 n j q) ∧ Hid (Seg wr2 W0.heap.size 3 1 (.slice (some ⟨W0.heap.size, 0, none⟩) n n) n (al2.map (.int .i64))) ∧ Hid (Grew W0 wr2))
      case atStart => exact ⟨0, al, by omega, rfl, hid rfl, HA, HSG, HGW⟩
      case round =>
        clear HA HSG HGW
        obtain ⟨q, al2, hq, rfl, HG2, HA2, HSG2, HGW2⟩ := hrel
        rename World => wr2
        have hgw := grew_trans g0 HGW2.out
        by_cases hlt2 : q < j
        · obtain ⟨b, off, o, rfl, hob, c0⟩ := wd_cell HXM.out j hlt
          obtain ⟨b', off', o', hva', -, c1⟩ := wd_cell HXM.out q (by omega)
          simp only [Option.some.injEq, Addr.mk.injEq, and_true] at hva'
          obtain ⟨rfl, rfl⟩ := hva'
          have hbl := lt_of_obj hob
          have hbl2 := Nat.lt_of_lt_of_le hbl hgw.size
          replace c0 := (hgw.cell (p := ⟨b, off + j, none⟩) hbl).trans c0
          replace c1 := (hgw.cell (p := ⟨b, off + q, none⟩) hbl).trans c1
          have kw0 := (HGW2.out.cell (p := ⟨w.heap.size, 0, none⟩) HZ.out).trans HK0.out
          have kw1 := (HGW2.out.cell (p := ⟨w.heap.size, 1, none⟩) HZ.out).trans HK1.out
          have hzw := Nat.lt_of_lt_of_le HZ.out HGW2.out.size
          obtain ⟨a0, ha0⟩ : ∃ a, nth x j = a := ⟨_, rfl⟩
          obtain ⟨a1, ha1⟩ : ∃ a, nth x q = a := ⟨_, rfl⟩
          rw [ha0] at c0
          rw [ha1] at c1
          obtain ⟨d, hd⟩ : ∃ d, dep L a0 a1 = d := ⟨_, rfl⟩
          have hdep := fun (y : World) (hy : Grew w y) => HDEP.out a0 a1 y hy
          rw [hd] at hdep
          have HD := hid hdep
          have hqn : (q : Int) < (n : Int) := by omega
          have hjn : (j : Int) < (n : Int) := by omega
          have HDD := hid hd; have HA0 := hid ha0; have HA1 := hid ha1
          have HGW := hid hgw
          clear hob hd hdep ha0 ha1 hgw
          cases d
          · go_wp2
            go_still_tail 9, (by kernel_rfl)
            change wpList _ _ _ _ _ wr2.drew
            have HGD := hid (grew_drew (grew_refl wr2))
            generalize wr2.drew = w2 at HGD ⊢
            go_wp2_with (go_at_call 151; (with_reducible refine (HD.out _ (grew_trans HGW.out HGD.out)).mono ?_); rintro e w3 ⟨rfl, hx⟩; have HX := hid (grew_trans HGD.out hx); clear hx)
            go_roundg (j - (q + 1))
            case measure => have := HG2.out; omega
            case rel => exact ⟨q + 1, al2, by omega, by go_num, hid rfl, hid ⟨HA2.out.1, fun t ht => by
              rw [HA2.out.2 t ht]
              unfold fAhead
              by_cases h1 : t < j
              · rw [if_pos h1, if_pos h1]
              · rw [if_neg h1, if_neg h1]
                by_cases h2 : t = j
                · subst h2
                  rw [if_pos rfl, if_pos rfl]
                  show _ = ((if dep L (nth x t) (nth x q) then _ else _ : Nat) : Int)
                  rw [HA0.out, HA1.out, HDD.out]; rfl
                · rw [if_neg h2, if_neg h2]⟩, hid (HSG2.out.grew HX.out), hid (grew_trans HGW2.out HX.out)⟩
          · go_wp2
            go_still_tail 9, (by kernel_rfl)
            change wpList _ _ _ _ _ wr2.drew
            have HGD := hid (grew_drew (grew_refl wr2))
            generalize wr2.drew = w2 at HGD ⊢
            go_wp2_with (go_at_call 151; (with_reducible refine (HD.out _ (grew_trans HGW.out HGD.out)).mono ?_); rintro e w3 ⟨rfl, hx⟩; have HX := hid (grew_trans HGD.out hx); clear hx)
            obtain ⟨A, hA⟩ : ∃ A, aheadTo (dep L) x j q = A := ⟨_, rfl⟩
            obtain ⟨B, hB⟩ : ∃ B, 2 ^ q = B := ⟨_, rfl⟩
            have hA20 : A < 2 ^ 20 := by rw [← hA]; exact Nat.lt_of_lt_of_le (aheadTo_lt x j q) (Nat.pow_le_pow_right (by decide) (by omega))
            have hB20 : B < 2 ^ 20 := by rw [← hB]; exact Nat.pow_lt_pow_right (by decide) (by omega)
            have hor := bits_or_i64 A B hA20 hB20
            obtain ⟨C, hC⟩ : ∃ C, A ||| B = C := ⟨_, rfl⟩
            rw [hC] at hor
            have hseg3 := HSG2.out.grew HX.out
            obtain ⟨g, off', cap, obj, hv, -, hgc, c3⟩ := hseg3.cell j (by omega)
            simp only [Value.slice.injEq, Option.some.injEq, Addr.mk.injEq, and_true, true_and] at hv
            obtain ⟨⟨rfl, rfl⟩, rfl⟩ := hv
            have hjl : j < al2.length := by rw [HA2.out.1]; exact hlt
            have hval : nth al2 j = (A : Int) := by rw [HA2.out.2 j hlt]; unfold fAhead; rw [if_neg (by omega), if_pos rfl, hA]
            rw [List.getElem?_map, List.getElem?_eq_getElem hjl, Option.map_some, ← nth_lt hjl, hval, Nat.zero_add] at c3
            have hfz : w3.frozen? ⟨W0.heap.size, j, none⟩ = false := frozen_of_row _ _ _ _ _ hgc
            have hgl := lt_of_obj hgc
            have hsh : IntKind.i64.wrap (2 ^ q) = (B : Int) := by
              have : (2 : Int) ^ q = (B : Int) := by rw [← hB]; simp
              rw [this]; exact IntWalk.i64_in _ (by omega)
            have hset := fun (m : Nat) => Seg.setW (hseg3.drewN m) rfl hlt (.int .i64 (C : Int))
            rw [Nat.zero_add, show (al2.map (Value.int .i64)).set j (.int .i64 (C : Int)) = (al2.set j (C : Int)).map (.int .i64) by rw [List.map_set]] at hset
            have HSET := hid hset
            have hst : AhAt (dep L) x (al2.set j (C : Int)) n j (q + 1) := ⟨by rw [List.length_set, HA2.out.1], fun t ht => by
              rw [nth_setI (by rw [HA2.out.1]; exact hlt)]
              unfold fAhead
              by_cases h2 : j = t
              · subst h2
                rw [if_pos rfl, if_neg (by omega), if_pos rfl]
                show (C : Int) = ((if dep L (nth x j) (nth x q) then _ else _ : Nat) : Int)
                rw [HA0.out, HA1.out, HDD.out, hA, hB, hC]; rfl
              · rw [if_neg h2, HA2.out.2 t ht]
                unfold fAhead
                by_cases h1 : t < j
                · rw [if_pos h1, if_pos h1]
                · rw [if_neg h1, if_neg h1, if_neg (fun e => h2 e.symm), if_neg (fun e => h2 e.symm)]⟩
            have HST := hid hst
            have hq64 : (q : Int) ≤ 64 := by omega
            have HGW3 := hid (grew_trans HGW2.out HX.out)
            clear hA hB hA20 hB20 hC hseg3 hgc hjl hval hset hst
            go_region_law (fail)
            all_goals (
              go_wp2
              go_roundg (j - (q + 1))
              case measure => have := HG2.out; omega
              case rel => exact ⟨q + 1, al2.set j (C : Int), by omega, by go_num, hid rfl, HST, hid (HSET.out _), hid (HGW3.out.trans ((((Keeps.refl (fun q _ => q = W0.heap.size) w3).drewN _).trans (keeps_setB _ W0.heap.size _ _)).below HGW3.out.size (fun k o e => by rw [e]; exact Nat.le_refl _)))⟩)
        · obtain rfl : q = j := by omega
          go_wp2
          go_roundg (n - (q + 1))
          case measure => have := HG.out; omega
          case rel => exact ⟨q + 1, al2, by omega, by go_num, hid rfl, hid ⟨HA2.out.1, fun t ht => by
            rw [HA2.out.2 t ht]
            unfold fAhead
            by_cases h1 : t < q
            · rw [if_pos h1, if_pos (by omega)]
            · rw [if_neg h1]
              by_cases h2 : t = q
              · subst h2; rw [if_pos rfl, if_pos (by omega)]; rfl
              · rw [if_neg h2, if_neg (by omega)]
                by_cases h3 : t = q + 1
                · rw [if_pos h3]; rfl
                · rw [if_neg h3]⟩, HSG2, HGW2⟩
    · obtain rfl : n = j := by omega
      have hshn : IntKind.i64.wrap (2 ^ n) = (P : Int) := by
        have : (2 : Int) ^ n = (P : Int) := by rw [← HP.out]; simp
        rw [this]; exact IntWalk.i64_in _ (by omega)
      have hn64 : (n : Int) ≤ 64 := by omega
      have HGR := hid HGW.out
      obtain ⟨Wf, hWf⟩ : ∃ W, wayM (dep L) N x = W := ⟨_, rfl⟩
      have HREC2 := hid (fun (S : Nat) (h1 : 1 ≤ S) (h2 : S < P) => by have h := HREC.out S h1 h2; rw [hWf] at h; exact h)
      have HZERO := hid (show Wf 0 = 1 by rw [← hWf]; exact wayM_zero N x)
      have HALL2 := hid (show Wf (P - 1) = sizeM (dep L) N x by rw [← hWf]; exact HALL.out)
      have HLE2 := hid (fun S => show Wf S ≤ 60466176 by rw [← hWf]; exact HLE.out S)
      have hA0 := HA.out
      have hAh : al.length = n ∧ ∀ t, t < n → nth al t = ((aheadM (dep L) x t : Nat) : Int) := ⟨hA0.1, fun t ht => by rw [hA0.2 t ht]; unfold fAhead; rw [if_pos ht]⟩
      have HAH := hid hAh
      clear HREC HALL HLE hA0 hAh HA hs1 HG HDEP hWf
      go_wp2_with (refine wpList_make_full _ rfl _ _ 39 rfl wr.heap.size 3 i0 (.int .i64 0) 1 Tryz.underlying39 hi0 hi1 hi2 .i64 .i64 (P : Int) (P : Int) P rfl rfl rfl rfl (by rw [HBY.out]; omega) (by unfold maxLen; omega) (Nat.le_refl _) ?_; intro w4 hown4 hgr4; have hs4 := hid (seg_zeros hown4); have hg4 := hid (show Grew wr w4 from (grew_refl wr).grown hgr4 (Nat.le_refl _) (fun k e => by cases e)); obtain ⟨g4, off4, cap4, obj4, hv4, -, hgc4, c4⟩ := hs4.out.cell 0 (by omega); simp only [Value.slice.injEq, Option.some.injEq, Addr.mk.injEq, and_true, true_and] at hv4; obtain ⟨⟨rfl, rfl⟩, rfl⟩ := hv4; have hfz4 : w4.frozen? ⟨wr.heap.size, 0, none⟩ = false := frozen_of_row _ _ _ _ _ hgc4; have hgl4 := lt_of_obj hgc4; obtain ⟨P', hP'⟩ : ∃ P', P = P' + 1 := ⟨P - 1, by omega⟩; rw [hP', List.replicate_succ] at c4; simp only [List.map_cons, List.getElem?_cons_zero, Nat.add_zero] at c4; have hP0 : (0 : Int) < (P : Int) := (by omega); clear hown4 hgr4 hgc4 hP')
      have hsg4 := Seg.setW hs4.out rfl (show 0 < P by omega) (.int .i64 1)
      rw [← List.map_set] at hsg4
      have HSG4 := hid hsg4
      have HG4 := hid (show Grew wr (w4.setCell ⟨wr.heap.size, 0, none⟩ (.int .i64 1)) from hg4.out.trans ((keeps_setB w4 wr.heap.size _ _).below hg4.out.size (fun k o e => by rw [e]; exact Nat.le_refl _)))
      have HSGA := HSG
      clear hsg4 c4 hfz4 hgl4 hP0 hs4 hg4
      go_loopg [10, 11, 12, 58] (P - 1) (fun gk st _ _ _ wr3 => ∃ (S : Nat) (ws : List Int), 1 ≤ S ∧ S ≤ P ∧ st = .int .i64 S ∧ Hid (gk = P - S) ∧ Hid (ws.length = P ∧ ∀ t, t < P → nth ws t = ((if t < S then Wf t else 0 : Nat) : Int)) ∧ Hid (Seg wr3 wr.heap.size 3 1 (.slice (some ⟨wr.heap.size, 0, none⟩) P P) P (ws.map (.int .i64))) ∧ Hid (Grew wr wr3))
      case atStart => exact ⟨1, (List.replicate P (0 : Int)).set 0 1, by omega, by omega, rfl, hid rfl, hid ⟨by simp, fun t ht => by
        rw [nth_setI (by simp; omega)]
        by_cases h0 : 0 = t
        · subst h0; rw [if_pos rfl, if_pos (by omega), HZERO.out]; rfl
        · rw [if_neg h0, if_neg (by omega)]; simp [nth, List.getD, ht]⟩, HSG4, HG4⟩
      case round =>
        obtain ⟨S, ws, hS1, hSP, rfl, HK, HWS, HSW, HGS⟩ := hrel
        rename World => wr3
        by_cases hlt2 : S < P
        · go_wp2
          go_loopg [11, 12, 58] n (fun gk _ _ ii wr4 => ∃ (i : Nat) (ws : List Int), i ≤ n ∧ ii = .int .i64 i ∧ Hid (gk = n - i) ∧ Hid (ws.length = P ∧ ∀ t, t < P → nth ws t = ((if t < S then Wf t else if t = S then wsum (dep L) x Wf S i else 0 : Nat) : Int)) ∧ Hid (Seg wr4 wr.heap.size 3 1 (.slice (some ⟨wr.heap.size, 0, none⟩) P P) P (ws.map (.int .i64))) ∧ Hid (Grew wr wr4))
          case atStart => exact ⟨0, ws, by omega, rfl, hid rfl, hid ⟨HWS.out.1, fun t ht => by
            rw [HWS.out.2 t ht]
            by_cases h1 : t < S
            · rw [if_pos h1, if_pos h1]
            · rw [if_neg h1, if_neg h1]; split <;> rfl⟩, HSW, HGS⟩
          case round =>
            clear HWS HSW HGS
            obtain ⟨i, ws, hi, rfl, HI, HWS, HSW, HGS⟩ := hrel
            rename World => wr4
            by_cases hlt3 : i < n
            · obtain ⟨B, hB⟩ : ∃ B, 2 ^ i = B := ⟨_, rfl⟩
              have hB20 : B ≤ 1024 := by
                rw [← hB]
                calc 2 ^ i ≤ 2 ^ 10 := Nat.pow_le_pow_right (by decide) (by omega)
                  _ = 1024 := by decide
              have hsh : IntKind.i64.wrap (2 ^ i) = (B : Int) := by
                have : (2 : Int) ^ i = (B : Int) := by rw [← hB]; simp
                rw [this]; exact IntWalk.i64_in _ (by omega)
              have han := bits_andNot_i64 S i (by omega) (by rw [hB]; omega)
              rw [hB] at han
              have hdle := del_le S i
              obtain ⟨E, hE⟩ : ∃ E, del S i = E := ⟨_, rfl⟩
              rw [hE] at han hdle
              have hi64 : (i : Int) ≤ 64 := by omega
              have HE := hid hE
              -- the cells of the list of those in front
              have hga := HSGA.out.grew HGS.out
              obtain ⟨g5, off5, cap5, obj5, hv5, -, hgc5, c5⟩ := hga.cell i (by omega)
              simp only [Value.slice.injEq, Option.some.injEq, Addr.mk.injEq, and_true, true_and] at hv5
              obtain ⟨⟨rfl, rfl⟩, rfl⟩ := hv5
              have hil : i < al.length := by rw [HAH.out.1]; exact hlt3
              rw [List.getElem?_map, List.getElem?_eq_getElem hil, Option.map_some, ← nth_lt hil, HAH.out.2 i hlt3, Nat.zero_add] at c5
              have hl5 := lt_of_obj hgc5
              obtain ⟨A, hA⟩ : ∃ A, aheadM (dep L) x i = A := ⟨_, rfl⟩
              rw [hA] at c5
              have hA20 : A < 1000000 := by
                have h1 := aheadTo_lt (D := dep L) x i i
                have h2 : 2 ^ i ≤ 2 ^ 10 := Nat.pow_le_pow_right (by decide) (by omega)
                unfold aheadM at hA; omega
              have hadd := bits_and_i64 E A (by omega) hA20
              obtain ⟨F, hF⟩ : ∃ F, E &&& A = F := ⟨_, rfl⟩
              rw [hF] at hadd
              have hin : (i : Int) < (n : Int) := by omega
              have hterm : wsum (dep L) x Wf S (i + 1) = wsum (dep L) x Wf S i + (if S ≠ E ∧ F = A then Wf E else 0) := by
                show _ + term (dep L) x Wf S i = _
                unfold term
                rw [hE, hA, hF]
              have HTERM := hid hterm
              clear hga hgc5 hil hA hE hB hF hterm hA20 hB20
              have skip : ∀ (ws : List Int), (¬ (S ≠ E ∧ F = A)) → (ws.length = P ∧ ∀ t, t < P → nth ws t = ((if t < S then Wf t else if t = S then wsum (dep L) x Wf S i else 0 : Nat) : Int)) → (ws.length = P ∧ ∀ t, t < P → nth ws t = ((if t < S then Wf t else if t = S then wsum (dep L) x Wf S (i + 1) else 0 : Nat) : Int)) := fun ws hno h => by
                rw [HTERM.out, if_neg hno, Nat.add_zero]; exact h
              have HSKIP := hid skip
              clear skip
              by_cases hSE : S = E
              · subst hSE
                have hb1 : ((S : Int) != (S : Int)) = false := by simp
                go_wp2
                go_quiet (fail)
                all_goals (
                  go_wp2
                  go_roundg (n - (i + 1))
                  case measure => have := HI.out; omega
                  case rel => exact ⟨i + 1, ws, by omega, by go_num, hid rfl, hid (HSKIP.out ws (fun h => h.1 rfl) HWS.out), HSW.out.drewN _ |> hid, hid (grew_drewN HGS.out _)⟩)
              · have hb1 : ((S : Int) != (E : Int)) = true := by simp; omega
                by_cases hFA : F = A
                · subst hFA
                  have hb2 : ((F : Int) == (F : Int)) = true := by simp
                  obtain ⟨g6, off6, cap6, obj6, hv6, -, hgc6, c6⟩ := HSW.out.cell S (by omega)
                  obtain ⟨g7, off7, cap7, obj7, hv7, -, -, c7⟩ := HSW.out.cell E (by omega)
                  simp only [Value.slice.injEq, Option.some.injEq, Addr.mk.injEq, and_true, true_and] at hv6 hv7
                  obtain ⟨⟨rfl, rfl⟩, rfl⟩ := hv6
                  obtain ⟨⟨rfl, rfl⟩, rfl⟩ := hv7
                  have hl6 : S < ws.length := by rw [HWS.out.1]; exact hlt2
                  have hl7 : E < ws.length := by rw [HWS.out.1]; omega
                  have hES : E < S := by omega
                  rw [List.getElem?_map, List.getElem?_eq_getElem hl6, Option.map_some, ← nth_lt hl6, HWS.out.2 S hlt2, if_neg (by omega), if_pos rfl, Nat.zero_add] at c6
                  rw [List.getElem?_map, List.getElem?_eq_getElem hl7, Option.map_some, ← nth_lt hl7, HWS.out.2 E (by omega), if_pos hES, Nat.zero_add] at c7
                  obtain ⟨a, ha⟩ : ∃ a, wsum (dep L) x Wf S i = a := ⟨_, rfl⟩
                  obtain ⟨b, hb⟩ : ∃ b, Wf E = b := ⟨_, rfl⟩
                  rw [ha] at c6; rw [hb] at c7
                  have hfz6 : wr4.frozen? ⟨wr.heap.size, S, none⟩ = false := frozen_of_row _ _ _ _ _ hgc6
                  have hl66 := lt_of_obj hgc6
                  have hble := HLE2.out E
                  have hale : a ≤ 60466176 := by
                    rw [← ha]
                    refine Nat.le_trans (wsum_mono (D := dep L) x Wf S (by omega : i ≤ n)) ?_
                    have h := HREC2.out S hS1 hlt2
                    rw [← h]; exact HLE2.out S
                  rw [hb] at hble
                  have hsum : IntKind.i64.wrap ((a : Int) + (b : Int)) = (a : Int) + (b : Int) := IntWalk.i64_in _ (by omega)
                  have hset := fun (m : Nat) => Seg.setW (HSW.out.drewN m) rfl hlt2 (.int .i64 ((a : Int) + (b : Int)))
                  rw [Nat.zero_add, ← List.map_set] at hset
                  have HSET := hid hset
                  have hst : (ws.set S ((a : Int) + (b : Int))).length = P ∧ ∀ t, t < P → nth (ws.set S ((a : Int) + (b : Int))) t = ((if t < S then Wf t else if t = S then wsum (dep L) x Wf S (i + 1) else 0 : Nat) : Int) := ⟨by rw [List.length_set, HWS.out.1], fun t ht => by
                    rw [nth_setI hl6]
                    by_cases h2 : S = t
                    · subst h2
                      rw [if_pos rfl, if_neg (by omega), if_pos rfl, HTERM.out, if_pos ⟨hSE, rfl⟩, ha, hb]; omega
                    · rw [if_neg h2, HWS.out.2 t ht]
                      by_cases h1 : t < S
                      · rw [if_pos h1, if_pos h1]
                      · rw [if_neg h1, if_neg h1, if_neg (fun e => h2 e.symm), if_neg (fun e => h2 e.symm)]⟩
                  have HST := hid hst
                  have hSPi : (S : Int) < (P : Int) := by omega
                  have hEPi : (E : Int) < (P : Int) := by omega
                  clear hgc6 hl6 hl7 ha hb hset hst hSE
                  go_wp2
                  go_quiet (fail)
                  all_goals (
                    go_wp2
                    go_region_law (fail)
                    all_goals (
                      go_wp2
                      go_roundg (n - (i + 1))
                      case measure => have := HI.out; omega
                      case rel => exact ⟨i + 1, ws.set S ((a : Int) + (b : Int)), by omega, by go_num, hid rfl, HST, hid (HSET.out _), hid (HGS.out.trans ((((Keeps.refl (fun q _ => q = wr.heap.size) wr4).drewN _).trans (keeps_setB _ wr.heap.size _ _)).below HGS.out.size (fun k o e => by rw [e]; exact Nat.le_refl _)))⟩))
                · have hb2 : ((F : Int) == (A : Int)) = false := by simp; omega
                  go_wp2
                  go_quiet (fail)
                  all_goals (
                    go_wp2
                    go_roundg (n - (i + 1))
                    case measure => have := HI.out; omega
                    case rel => exact ⟨i + 1, ws, by omega, by go_num, hid rfl, hid (HSKIP.out ws (fun h => hFA h.2) HWS.out), HSW.out.drewN _ |> hid, hid (grew_drewN HGS.out _)⟩)
            · obtain rfl : n = i := by omega
              go_wp2
              go_roundg (P - (S + 1))
              case measure => have := HK.out; omega
              case rel => exact ⟨S + 1, ws, by omega, by omega, by go_num, hid rfl, hid ⟨HWS.out.1, fun t ht => by
                rw [HWS.out.2 t ht]
                have h := HREC2.out S hS1 hlt2
                by_cases h1 : t < S
                · rw [if_pos h1, if_pos (by omega)]
                · rw [if_neg h1]
                  by_cases h2 : t = S
                  · subst h2; rw [if_pos rfl, if_pos (by omega), h]
                  · rw [if_neg h2, if_neg (by omega)]⟩, HSW, HGS⟩
        · obtain rfl : P = S := by omega
          have hl8 : P - 1 < P := by omega
          obtain ⟨g8, off8, cap8, obj8, hv8, -, hgc8, c8⟩ := HSW.out.cell (P - 1) (by omega)
          simp only [Value.slice.injEq, Option.some.injEq, Addr.mk.injEq, and_true, true_and] at hv8
          obtain ⟨⟨rfl, rfl⟩, rfl⟩ := hv8
          have hl9 : P - 1 < ws.length := by rw [HWS.out.1]; exact hl8
          rw [List.getElem?_map, List.getElem?_eq_getElem hl9, Option.map_some, ← nth_lt hl9, HWS.out.2 (P - 1) hl8, if_pos hl8, Nat.zero_add] at c8
          obtain ⟨q, hq⟩ : ∃ q, P - 1 = q := ⟨_, rfl⟩
          rw [hq] at c8 HALL2
          have hwp : IntKind.i64.wrap ((P : Int) - 1) = (q : Int) := by rw [IntWalk.i64_in _ (by omega)]; omega
          have hqP : (q : Int) < (P : Int) := by omega
          have hl10 := lt_of_obj hgc8
          obtain ⟨z, hz⟩ : ∃ z, Wf q = z := ⟨_, rfl⟩
          rw [hz] at c8 HALL2
          have HGF := hid (grew_trans g0 (grew_trans HGR.out HGS.out))
          clear hq hl9 hgc8 hl8 hz
          go_wp2
          go_ret
          exact ⟨by rw [← HALL2.out]; rfl, HGF.out⟩

end Go.Proofs.YtmohnddglmolgaaGreatDoor.Kw
