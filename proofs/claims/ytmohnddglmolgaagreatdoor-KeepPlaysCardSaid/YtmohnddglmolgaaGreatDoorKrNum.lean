/- Walk of the reference: num (97): the number of a word. -/
import Derived.Test.YtmohnddglmolgaaGreatDoorKrPl
namespace Go.Proofs.YtmohnddglmolgaaGreatDoor
open Go Go.RowKit Go.Lin Go.Lin.Kp

/-- What num returns. -/
def rnumV (o : Option Int) : Value := match o with
  | none => .tuple #[.int .i64 0, .bool false]
  | some n => .tuple #[.int .i64 n, .bool true]

set_option maxHeartbeats 2000000 in
set_option maxRecDepth 20000 in
theorem rnum97_any (s : ByteArray) (w : World) (hs : s.size ≤ 1000000) : Calls Tryz.prog 97 #[.string s] w fun e w' => e = .returned (rnumV (numM s.data.toList)) ∧ w = w' := by
  obtain ⟨l, hl⟩ : ∃ l, s.data.toList = l := ⟨_, rfl⟩
  have hlen : l.length = s.size := by rw [← hl]; simp
  have HLN := hid hlen; have HL := hid hl
  have hget : ∀ (j : Nat) (hj : j < s.size), l[j]? = some s[j] := fun j hj => by
    rw [← hl, List.getElem?_eq_getElem (by simpa using hj)]; rfl
  have HGT := hid hget
  rw [hl]
  clear hl hget
  by_cases h1 : s.size < 1
  · have d1 : decide ((s.size : Int) < 1) = true := by rw [decide_eq_true_eq]; omega
    rw [numM_short (by rw [hlen]; omega)]
    clear h1 hlen
    unfold rnumV
    go_enter Tryz.func97, Tryz.ntmps97
    go_wp2
    go_ret2
    exact ⟨rfl, rfl⟩
  have d1 : decide ((s.size : Int) < 1) = false := by rw [decide_eq_false_iff_not]; omega
  by_cases h4 : 4 < s.size
  · have d4 : decide ((4 : Int) < (s.size : Int)) = true := by rw [decide_eq_true_eq]; omega
    rw [numM_short (by rw [hlen]; omega)]
    clear h4 hlen
    unfold rnumV
    go_enter Tryz.func97, Tryz.ntmps97
    go_wp2
    go_ret2
    exact ⟨rfl, rfl⟩
  have d4 : decide ((4 : Int) < (s.size : Int)) = false := by rw [decide_eq_false_iff_not]; omega
  have h0 : 0 < s.size := by omega
  have h0I : (0 : Int) < (s.size : Int) := by omega
  have hhd : l.head? = some s[0] := by rw [List.head?_eq_getElem?]; exact HGT.out 0 h0
  obtain ⟨z, hz⟩ : ∃ z : Int, ((s[0]).toNat : Int) = z := ⟨_, rfl⟩
  have hidx : ∀ W, (Instr.index 9 (.string s) (.int .i64 0)).run Tryz.prog W = .ok (.int .u8 z) W := fun W => by
    rw [run_index_string W 9 s .i64 0 (by kernel_rfl), dif_pos (by omega), ← hz]; rfl
  by_cases hz1 : z = 48 ∧ 1 < s.size
  · have e1 : (z == 48) = true := by rw [beq_iff_eq]; exact hz1.1
    have e2 : decide ((1 : Int) < (s.size : Int)) = true := by rw [decide_eq_true_eq]; omega
    have h48 : s[0] = 48 := UInt8.toNat_inj.1 (by have := hz1.1; rw [← hz] at this; show _ = 48; omega)
    rw [numM_zero ⟨by rw [hlen]; exact hz1.2, by rw [hhd, h48]⟩]
    clear hz1 h48 hhd hlen hz
    unfold rnumV
    go_enter Tryz.func97, Tryz.ntmps97
    go_wp2
    go_ret2
    exact ⟨rfl, rfl⟩
  have hn3 : ¬ (1 < l.length ∧ l.head? = some 48) := fun h => hz1 ⟨by
    have h2 := h.2
    rw [hhd, Option.some.injEq] at h2
    rw [← hz, h2]; rfl, by rw [← hlen]; exact h.1⟩
  have HN3 := hid hn3
  clear hn3 hhd
  have hmain : Calls Tryz.prog 97 #[.string s] w fun e w' => e = .returned (rnumV (numM l)) ∧ w = w' := by
    have hsel : (z == 48) = false ∨ ((z == 48) = true ∧ decide ((1 : Int) < (s.size : Int)) = false) := by
      by_cases e : z = 48
      · right; exact ⟨by rw [beq_iff_eq]; exact e, by rw [decide_eq_false_iff_not]; omega⟩
      · left; rw [beq_eq_false_iff_ne]; exact e
    have HNL := hid hlen
    have HIX := hid (fun (j : Nat) (hj : j < s.size) => (⟨s[j]'hj, HGT.out j hj, fun W => by
      rw [run_index_string W 9 s .i64 j (by kernel_rfl), dif_pos (by omega)]; simp only [Int.toNat_natCast]⟩ : ∃ b : UInt8, l[j]? = some b ∧ ∀ W, (Instr.index 9 (.string s) (.int .i64 (j : Int))).run Tryz.prog W = .ok (.int .u8 (b.toNat : Int)) W))
    have hn4 : s.size ≤ 4 := by omega
    have hn1 : 1 ≤ s.size := by omega
    clear hz1 hz hlen
    rcases hsel with e1 | ⟨e1, e2⟩
    all_goals (
      go_enter Tryz.func97, Tryz.ntmps97
      go_wp2
      go_loopg [4, 5] s.size (fun gk nv iv wr => ∃ (j a : Nat), j ≤ s.size ∧ nv = .int .i64 (a : Int) ∧ iv = .int .i64 (j : Int) ∧ Hid (gk = s.size - j) ∧ Hid (a = numVal 0 (l.take j)) ∧ Hid (∀ b ∈ l.take j, isDig b = true) ∧ w = wr)
      case atStart => exact ⟨0, 0, Nat.zero_le _, rfl, rfl, hid rfl, hid rfl, hid (fun b h => by cases h), rfl⟩
      case round =>
        obtain ⟨j, a, hj, rfl, rfl, HGK, HA, HD, rfl⟩ := hrel
        have ha : a ≤ 9999 := by
          rw [HA.out]
          refine numVal_small _ (by rw [List.length_take]; omega) (fun b hb => ?_)
          have := HD.out b hb
          unfold isDig at this
          simp only [Bool.and_eq_true, decide_eq_true_eq] at this
          exact this.2
        by_cases hlt : j < s.size
        · have hjI : (j : Int) < (s.size : Int) := by omega
          have hjs : j < s.size := by omega
          have dj : decide ((j : Int) < (s.size : Int)) = true := by rw [decide_eq_true_eq]; exact hjI
          obtain ⟨b, hb, hix⟩ := HIX.out j hlt
          have HB := hid hb
          obtain ⟨y, hy⟩ : ∃ y : Nat, b.toNat = y := ⟨_, rfl⟩
          rw [hy] at hix
          have HY := hid hy
          have htk : l.take (j + 1) = l.take j ++ [b] := by rw [List.take_add_one, hb]; rfl
          have HTK := hid htk
          clear hb hy htk
          by_cases hy1 : y < 48
          · have c1 : decide ((y : Int) < 48) = true := by rw [decide_eq_true_eq]; omega
            have c1' : decide (y < 48) = true := by rw [decide_eq_true_eq]; omega
            have hbad : numM l = none := numM_bad HB.out (by unfold isDig; rw [HY.out, Bool.and_eq_false_iff]; left; rw [decide_eq_false_iff_not]; omega)
            have HBAD := hid hbad
            clear hbad hy1
            go_wp2
            go_ret2
            exact ⟨by rw [HBAD.out]; rfl, rfl⟩
          · have c1 : decide ((y : Int) < 48) = false := by rw [decide_eq_false_iff_not]; omega
            have c1' : decide (y < 48) = false := by rw [decide_eq_false_iff_not]; omega
            by_cases hy2 : 57 < y
            · have c2 : decide ((57 : Int) < (y : Int)) = true := by rw [decide_eq_true_eq]; omega
              have c2' : decide (57 < y) = true := by rw [decide_eq_true_eq]; omega
              have hbad : numM l = none := numM_bad HB.out (by unfold isDig; rw [HY.out, Bool.and_eq_false_iff]; right; rw [decide_eq_false_iff_not]; omega)
              have HBAD := hid hbad
              clear hbad hy1 hy2
              go_wp2
              go_ret2
              exact ⟨by rw [HBAD.out]; rfl, rfl⟩
            · have c2 : decide ((57 : Int) < (y : Int)) = false := by rw [decide_eq_false_iff_not]; omega
              have c2' : decide (57 < y) = false := by rw [decide_eq_false_iff_not]; omega
              obtain ⟨d, rfl⟩ : ∃ d : Nat, y = 48 + d := ⟨y - 48, by omega⟩
              have hd9 : d ≤ 9 := by omega
              have w1 : IntKind.u8.wrap (((48 + d : Nat) : Int) - 48) = (d : Int) := by
                rw [show (((48 + d : Nat) : Int) - 48) = (d : Int) by omega]
                have h2 : d = 0 ∨ d = 1 ∨ d = 2 ∨ d = 3 ∨ d = 4 ∨ d = 5 ∨ d = 6 ∨ d = 7 ∨ d = 8 ∨ d = 9 := by omega
                rcases h2 with rfl | rfl | rfl | rfl | rfl | rfl | rfl | rfl | rfl | rfl <;> decide
              have w2 : IntKind.i64.wrap (d : Int) = (d : Int) := IntWalk.i64_in _ (by omega)
              have w3 : IntKind.i64.wrap (10 * (a : Int)) = 10 * (a : Int) := IntWalk.i64_in _ (by omega)
              have w4 : IntKind.i64.wrap (10 * (a : Int) + (d : Int)) = 10 * (a : Int) + (d : Int) := IntWalk.i64_in _ (by omega)
              have hdig : isDig b = true := by unfold isDig; rw [HY.out, Bool.and_eq_true, decide_eq_true_eq, decide_eq_true_eq]; omega
              have HDG := hid hdig
              clear hdig hy1 hy2
              go_wp2
              go_roundg (s.size - (j + 1))
              case measure => have := HGK.out; omega
              case rel =>
                refine ⟨j + 1, 10 * a + d, by omega, by (try simp only [Value.int.injEq, true_and]); omega, by go_num, hid rfl, hid ?_, hid (fun x hx => ?_), rfl⟩
                · rw [HTK.out, numVal_snoc, HY.out, ← HA.out]; omega
                · rw [HTK.out] at hx
                  rcases List.mem_append.1 hx with hx | hx
                  · exact HD.out x hx
                  · rw [List.mem_singleton] at hx; rw [hx]; exact HDG.out
        · have hje : j = s.size := by omega
          have htl : l.take j = l := List.take_of_length_le (by rw [HNL.out, hje]; exact Nat.le_refl _)
          have hsome : numM l = some (a : Int) := by
            rw [numM_some (by rw [HNL.out]; exact hn1) (by rw [HNL.out]; exact hn4) HN3.out (by rw [List.all_eq_true]; have := HD.out; rw [htl] at this; exact this), HA.out, htl]
          have HSOME := hid hsome
          have dj : decide ((j : Int) < (s.size : Int)) = false := by rw [decide_eq_false_iff_not]; omega
          clear hsome htl hje
          go_wp2
          go_ret2
          exact ⟨by rw [HSOME.out]; rfl, rfl⟩)
  exact hmain

end Go.Proofs.YtmohnddglmolgaaGreatDoor
