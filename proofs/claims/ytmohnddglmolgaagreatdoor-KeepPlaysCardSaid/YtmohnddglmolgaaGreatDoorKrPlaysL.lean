/- Law: KeepPlays (3). Walk: Long (11). -/
import Derived.Test.YtmohnddglmolgaaGreatDoorKrPlay
namespace Go.Proofs.YtmohnddglmolgaaGreatDoor
open Go Go.RowKit Go.Lin Go.Lin.Kp

/-- Is there a long line? -/
def longL (ls : List ByteArray) : Bool := ls.any fun x => decide (300 < x.size)

set_option maxHeartbeats 2000000 in
set_option maxRecDepth 20000 in
theorem long11_any (v : Value) (ls : List ByteArray) (k : Int) (w : World) (hv : IsWds Any w v ls) : Calls Tryz.prog 11 #[v, .int .i64 k] w fun e w' => e = .returned (.bool (longL ls || decide (k < (ls.length : Int)))) ∧ w = w' := by
  obtain ⟨a, cap, rfl, hm, hc⟩ := hv
  have HC := hid hc
  clear hc
  obtain ⟨n, hnn⟩ : ∃ n, ls.length = n := ⟨_, rfl⟩
  rw [hnn] at HC hm ⊢
  have HN := hid hnn
  clear hnn
  obtain ⟨r, hr⟩ : ∃ r, (longL ls || decide (k < (n : Int))) = r := ⟨_, rfl⟩
  have HR := hid hr
  rw [hr]
  clear hr
  go_enter Tryz.func11, Tryz.ntmps11
  go_wp2
  go_loopg [5] n (fun gk iv wr => ∃ (j : Nat), j ≤ n ∧ iv = .int .i64 (j : Int) ∧ Hid (gk = n - j) ∧ Hid (∀ x ∈ ls.take j, x.size ≤ 300) ∧ w = wr)
  case atStart => exact ⟨0, Nat.zero_le _, rfl, hid rfl, hid (fun x h => by cases h), rfl⟩
  case round =>
    obtain ⟨j, hj, rfl, HGK, HS, rfl⟩ := hrel
    by_cases hlt : j < n
    · obtain ⟨b, off, o, rfl, hb, _, hcj⟩ := HC.out j hlt
      have hjl : j < ls.length := by rw [HN.out]; exact hlt
      have hcj0 := line_cell hjl hcj
      obtain ⟨x, hx⟩ : ∃ x, ls[j] = x := ⟨_, rfl⟩
      rw [hx] at hcj0
      have htk : ls.take (j + 1) = ls.take j ++ [x] := by rw [List.take_add_one, List.getElem?_eq_getElem hjl, hx]; rfl
      have hmem : x ∈ ls := by rw [← hx]; exact List.getElem_mem hjl
      have HTK := hid htk; have HMEM := hid hmem
      clear htk hmem hx hcj hb hjl
      by_cases h3 : 300 < x.size
      · have d1 : decide ((300 : Int) < (x.size : Int)) = true := by rw [decide_eq_true_eq]; omega
        have d1' : decide (300 < x.size) = true := by rw [decide_eq_true_eq]; exact h3
        have hrt : r = true := by
          rw [← HR.out, Bool.or_eq_true]; left
          unfold longL
          rw [List.any_eq_true]
          exact ⟨x, HMEM.out, d1'⟩
        have HRT := hid hrt
        clear h3 hrt
        go_wp2
        go_ret
        exact ⟨by rw [HRT.out]; rfl, rfl⟩
      · have d1 : decide ((300 : Int) < (x.size : Int)) = false := by rw [decide_eq_false_iff_not]; omega
        have d1' : decide (300 < x.size) = false := by rw [decide_eq_false_iff_not]; exact h3
        have HX3 := hid (show x.size ≤ 300 by omega)
        clear h3
        go_wp2
        go_roundg (n - (j + 1))
        case measure => have := HGK.out; omega
        case rel => exact ⟨j + 1, by omega, by go_num, hid rfl, hid (fun y hy => by
          rw [HTK.out] at hy
          rcases List.mem_append.1 hy with hy | hy
          · exact HS.out y hy
          · rw [List.mem_singleton] at hy; rw [hy]; exact HX3.out), rfl⟩
    · obtain rfl : j = n := by omega
      have hl : longL ls = false := by
        unfold longL
        rw [List.any_eq_false]
        intro x hx
        have := HS.out x (by rw [List.take_of_length_le (by rw [HN.out]; exact Nat.le_refl _)]; exact hx)
        rw [decide_eq_true_eq]; omega
      have HRR := hid (show decide (k < (j : Int)) = r by rw [← HR.out, hl, Bool.false_or])
      clear hl
      go_wp2
      go_ret
      exact ⟨by rw [← HRR.out]; rfl, rfl⟩

theorem rseg_wds {w : World} {B : Nat} {v : Value} {ws : List ByteArray} (h : Seg w B 9 1 v ws.length (ws.map Value.string)) (hn : ws.length ≤ 1000000) : IsWds Any w v ws := by
  by_cases h0 : ws.length = 0
  · obtain ⟨a, c, rfl, -⟩ := h.shape
    exact ⟨a, c, rfl, by omega, fun i hi => by omega⟩
  · obtain ⟨g, off, c, cur, rfl, hgb, hgo, -, -, hat⟩ := h.at (by omega)
    refine ⟨some ⟨g, off, none⟩, c, rfl, by omega, fun i hi => ⟨g, off, _, rfl, hgo, trivial, ?_⟩⟩
    have := hat i (by omega)
    rw [List.getElem?_map, List.getElem?_eq_getElem hi] at this
    show _ = some (Value.string (ws.getD i ByteArray.empty))
    rw [List.getD_eq_getElem?_getD, List.getElem?_eq_getElem hi]
    exact this

theorem play13_many (v : Value) (ls : List ByteArray) (w : World) (hv : IsWds Any w v ls) (hn : 100 < ls.length) : Calls Tryz.prog 13 #[v] w fun e w' => e = .returned (.tuple #[.slice none 0 0, .int .i64 4]) ∧ w = w' := by
  obtain ⟨a, cap, rfl, hm, hc⟩ := hv
  clear hc
  obtain ⟨n, hnn⟩ : ∃ n, ls.length = n := ⟨_, rfl⟩
  rw [hnn] at hm hn ⊢
  clear hnn
  have d1 : decide ((100 : Int) < (n : Int)) = true := by rw [decide_eq_true_eq]; omega
  have d1' : decide (100 < n) = true := by rw [decide_eq_true_eq]; omega
  clear hn
  go_enter Tryz.func13, Tryz.ntmps13
  go_wp2
  go_ret2
  exact ⟨rfl, rfl⟩

theorem rplay14_many (v : Value) (ls : List ByteArray) (w : World) (hv : IsWds Any w v ls) (hn : 100 < ls.length) : Calls Tryz.prog 14 #[v] w fun e w' => e = .returned (.tuple #[.slice none 0 0, .int .i64 4]) ∧ w = w' := by
  obtain ⟨a, cap, rfl, hm, hc⟩ := hv
  clear hc
  obtain ⟨n, hnn⟩ : ∃ n, ls.length = n := ⟨_, rfl⟩
  rw [hnn] at hm hn ⊢
  clear hnn
  have d1 : decide ((100 : Int) < (n : Int)) = true := by rw [decide_eq_true_eq]; omega
  have d1' : decide (100 < n) = true := by rw [decide_eq_true_eq]; omega
  clear hn
  go_enter Tryz.func14, Tryz.ntmps14
  go_wp2
  go_ret2
  exact ⟨rfl, rfl⟩

theorem nil_wds (w : World) : IsWds Any w (.slice none 0 0) [] := ⟨none, 0, rfl, by decide, fun i hi => by cases hi⟩

set_option maxHeartbeats 4000000 in
set_option maxRecDepth 20000 in
theorem plays3_any (v : Value) (ls : List ByteArray) (w : World) (hv : IsWds Any w v ls) (hL : Lay w) : Calls Tryz.prog 3 #[v] w fun e w' => e = .returned (.bool true) ∧ Grew w w' := by
  have HSANE := hid (fun (W : World) (h : Grew w W) => sane12_any W (hL.grew h))
  have H60 := hid (long11_any v ls 60 w hv)
  have H300 := hid (long11_any v ls 300 w hv)
  have HV := hid hv
  have HLAY := hid hL
  obtain ⟨a, cap, rfl, hm, -⟩ := hv
  obtain ⟨n, hnn⟩ : ∃ n, ls.length = n := ⟨_, rfl⟩
  rw [hnn] at H60 H300 HV hm ⊢
  have HN := hid hnn
  obtain ⟨lo, hlo⟩ : ∃ b, longL ls = b := ⟨_, rfl⟩
  rw [hlo] at H60 H300
  have HLO := hid hlo
  clear hnn hlo hL
  by_cases hsane : lo = true ∨ (60 < n ∧ n ≤ 100) ∨ 300 < n
  · -- too many, or too long
    by_cases h100 : n ≤ 100
    · have d1 : decide ((n : Int) ≤ 100) = true := by rw [decide_eq_true_eq]; omega
      have d1' : decide (n ≤ 100) = true := by rw [decide_eq_true_eq]; omega
      have e1 : (lo || decide ((60 : Int) < (n : Int))) = true := by
        rw [Bool.or_eq_true, decide_eq_true_eq]
        rcases hsane with h | h | h
        · exact .inl h
        · exact .inr (by omega)
        · omega
      rw [e1] at H60
      clear hsane h100 e1
      go_enter Tryz.func3, Tryz.ntmps3
      go_wp2_with (first
        | (go_at_call 11; (with_reducible refine H60.out.mono ?_); rintro e w1 ⟨rfl, rfl⟩)
        | (go_at_call 12; (with_reducible refine (HSANE.out _ (grew_refl _)).mono ?_); rintro e w2 ⟨rfl, hg⟩; have HG2 := hid hg; clear hg))
      go_ret
      exact ⟨rfl, HG2.out⟩
    · have d1 : decide ((n : Int) ≤ 100) = false := by rw [decide_eq_false_iff_not]; omega
      have d1' : decide (n ≤ 100) = false := by rw [decide_eq_false_iff_not]; omega
      have e1 : (lo || decide ((60 : Int) < (n : Int))) = true := by
        rw [Bool.or_eq_true, decide_eq_true_eq]; exact .inr (by omega)
      have e2 : (lo || decide ((300 : Int) < (n : Int))) = true := by
        rw [Bool.or_eq_true, decide_eq_true_eq]
        rcases hsane with h | h | h
        · exact .inl h
        · omega
        · exact .inr (by omega)
      rw [e1] at H60
      rw [e2] at H300
      clear hsane h100 e1 e2
      go_enter Tryz.func3, Tryz.ntmps3
      go_wp2_with (first
        | (go_at_call 11; (with_reducible refine H60.out.mono ?_); rintro e w1 ⟨rfl, rfl⟩)
        | (go_at_call 11; (with_reducible refine H300.out.mono ?_); rintro e w1 ⟨rfl, rfl⟩)
        | (go_at_call 12; (with_reducible refine (HSANE.out _ (grew_refl _)).mono ?_); rintro e w2 ⟨rfl, hg⟩; have HG2 := hid hg; clear hg))
      go_ret
      exact ⟨rfl, HG2.out⟩
  · have hlf : lo = false := by
      cases lo
      · rfl
      · exact absurd (Or.inl rfl) hsane
    subst hlf
    have hsm : ∀ x ∈ ls, x.size ≤ 10000 := fun x hx => by
      have := HLO.out
      unfold longL at this
      rw [List.any_eq_false] at this
      have := this x hx
      rw [decide_eq_true_eq] at this; omega
    have e2 : (false || decide ((300 : Int) < (n : Int))) = false := by rw [Bool.false_or, decide_eq_false_iff_not]; omega
    rw [e2] at H300
    by_cases h60 : n ≤ 60
    · have e1 : (false || decide ((60 : Int) < (n : Int))) = false := by rw [Bool.false_or, decide_eq_false_iff_not]; omega
      rw [e1] at H60
      have hpl : ((playM askA (bytesOf ls)).map bA).length = n := by
        rw [List.length_map]
        unfold playM
        rw [playR_len, List.length_map, HN.out]
      have HP13 := hid ((by have := play13_any askA (.slice a n cap) ls w HV.out (by rw [HN.out]; omega) hsm HLAY.out (fun _ => ⟨askOk, fun b s => rsm_ask b s⟩); rw [HN.out] at this; exact this) : Calls Tryz.prog 13 #[.slice a n cap] w fun e w' => ∃ b, e = .returned (.tuple #[.slice (some ⟨b, 0, none⟩) n n, .int .i64 0]) ∧ Grew w w' ∧ w'.heap[b]? = some (.cells (cellsT (playM askA (bytesOf ls))).toArray 9 (0, 0)) ∧ w.heap.size ≤ b)
      have HP14 := hid ((fun W (h : Grew w W) => by have := rplay14_any (.slice a n cap) ls W (Reads.grew HV.out h) (by rw [HN.out]; omega) hsm; rw [HN.out] at this; exact this) : ∀ W, Grew w W → Calls Tryz.prog 14 #[.slice a n cap] W fun e w' => ∃ u, e = .returned (.tuple #[u, .int .i64 0]) ∧ Seg w' W.heap.size 9 1 u n (((playM askA (bytesOf ls)).map bA).map Value.string) ∧ Grew W w')
      rw [cellsT_map] at HP13
      obtain ⟨ws, hws⟩ : ∃ ws, (playM askA (bytesOf ls)).map bA = ws := ⟨_, rfl⟩
      rw [hws] at HP13 HP14 hpl
      have HS15 := hid ((fun W (x y : Value) hx hy => by have := same15_any x y ws ws W hx hy; rw [decide_eq_true rfl] at this; exact this) : ∀ (W : World) (x y : Value), IsWds Any W x ws → IsWds Any W y ws → Calls Tryz.prog 15 #[x, y] W fun e w' => e = .returned (.bool true) ∧ Grew W w')
      have HWN := hid hpl
      have hnb : n ≤ 1000000 := by omega
      have HNB := hid hnb
      clear hsane h60 e1 e2 hsm hws hpl
      go_enter Tryz.func3, Tryz.ntmps3
      go_wp2_with (first
        | (go_at_call 11; (with_reducible refine H60.out.mono ?_); rintro e w1 ⟨rfl, rfl⟩)
        | (go_at_call 11; (with_reducible refine H300.out.mono ?_); rintro e w1 ⟨rfl, rfl⟩)
        | (go_at_call 13; (with_reducible refine HP13.out.mono ?_); rintro e w2 ⟨b, rfl, hg, hb, hlb⟩; have HG2 := hid hg; have HB2 := hid hb; clear hg hb hlb)
        | (go_at_call 14; (with_reducible refine (HP14.out _ HG2.out).mono ?_); rintro e w3 ⟨u, rfl, hs, hg⟩; obtain ⟨ua, uc, rfl, _⟩ := hs.shape; have HG3 := hid (grew_trans HG2.out hg); have HI3 := hid (show IsWds Any w3 (.slice ua n uc) ws from rseg_wds (by rw [HWN.out]; exact hs) (by rw [HWN.out]; exact HNB.out)); have HA3 := hid (show IsWds Any w3 (.slice (some ⟨b, 0, none⟩) n n) ws from (by have h1 := wds_of_row ((hg.block _ (lt_of_obj HB2.out)).trans HB2.out) (by rw [HWN.out]; exact HNB.out); rw [HWN.out] at h1; exact h1.mono fun _ _ _ => trivial)); clear hs hg)
        | (go_at_call 15; (with_reducible refine (HS15.out _ _ _ HA3.out HI3.out).mono ?_); rintro e w4 ⟨rfl, hg⟩; have HG4 := hid (grew_trans HG3.out hg); clear hg)
        | (go_at_call 12; (with_reducible refine (HSANE.out _ HG4.out).mono ?_); rintro e w5 ⟨rfl, hg⟩; have HG5 := hid (grew_trans HG4.out hg); clear hg))
      go_ret
      exact ⟨rfl, HG5.out⟩
    · have h100 : 100 < n := by omega
      have d1 : decide ((n : Int) ≤ 100) = false := by rw [decide_eq_false_iff_not]; omega
      have d1' : decide (n ≤ 100) = false := by rw [decide_eq_false_iff_not]; omega
      have e1 : (false || decide ((60 : Int) < (n : Int))) = true := by rw [Bool.false_or, decide_eq_true_eq]; omega
      rw [e1] at H60
      have HP13 := hid (play13_many (.slice a n cap) ls w (HV.out) (by rw [HN.out]; exact h100))
      have HP14 := hid (rplay14_many (.slice a n cap) ls w (HV.out) (by rw [HN.out]; exact h100))
      have HS15 := hid ((fun W => by have := same15_any (.slice none 0 0) (.slice none 0 0) [] [] W (nil_wds W) (nil_wds W); rw [decide_eq_true rfl] at this; exact this) : ∀ (W : World), Calls Tryz.prog 15 #[.slice none 0 0, .slice none 0 0] W fun e w' => e = .returned (.bool true) ∧ Grew W w')
      clear hsane h60 e1 e2 hsm h100
      go_enter Tryz.func3, Tryz.ntmps3
      go_wp2_with (first
        | (go_at_call 11; (with_reducible refine H60.out.mono ?_); rintro e w1 ⟨rfl, rfl⟩)
        | (go_at_call 11; (with_reducible refine H300.out.mono ?_); rintro e w1 ⟨rfl, rfl⟩)
        | (go_at_call 13; (with_reducible refine HP13.out.mono ?_); rintro e w2 ⟨rfl, rfl⟩)
        | (go_at_call 14; (with_reducible refine HP14.out.mono ?_); rintro e w3 ⟨rfl, rfl⟩)
        | (go_at_call 15; (with_reducible refine (HS15.out _).mono ?_); rintro e w4 ⟨rfl, hg⟩; have HG4 := hid hg; clear hg)
        | (go_at_call 12; (with_reducible refine (HSANE.out _ HG4.out).mono ?_); rintro e w5 ⟨rfl, hg⟩; have HG5 := hid (grew_trans HG4.out hg); clear hg))
      go_ret
      exact ⟨rfl, HG5.out⟩

end Go.Proofs.YtmohnddglmolgaaGreatDoor
