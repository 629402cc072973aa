/- Walks: number (120), numbers (90), places (91). -/
import Derived.Test.YtmohnddglmolgaaGreatDoorKpPlayM
import Derived.Test.YtmohnddglmolgaaGreatDoorKpShelf
import Derived.Test.YtmohnddglmolgaaGreatDoorKpOps
import Derived.Lib.AppendIntMem
import Derived.Lib.AtoiErrMem
namespace Go.Proofs.YtmohnddglmolgaaGreatDoor
open Go Go.RowKit Go.Lin Go.Lin.Kp

/-- What the library's variables hold. -/
structure Lay (w : World) : Prop where
  tab : Lib.TabIs Tryz.prog w "internal/strconv.uint64pow10" .u64 Lib.pow10Tab
  max : ∃ m, w.cell? ⟨1, 0, none⟩ = some (.int .i64 m)

theorem var_keeps {P : Program} {w w' : World} {n : String} {cs : Array Value} {may : Nat → Obj → Prop} (h : w.var? P n = some cs) (hk : Keeps may w w') (hm : ∀ g, P.globalNamed n = some g → ∀ o, ¬ may g o) : w'.var? P n = some cs := by
  unfold World.var? at h ⊢
  cases hg : P.globalNamed n with
  | none => rw [hg] at h; cases h
  | some g =>
    rw [hg] at h
    simp only [Option.bind_some] at h ⊢
    cases ho : w.heap[g]? with
    | none => rw [ho] at h; cases h
    | some o => rw [hk.obj g o ho (hm g hg o)]; rw [ho] at h; exact h

theorem Lay.grew {w w' : World} (h : Lay w) (hg : Grew w w') : Lay w' := by
  obtain ⟨h1, m, h2⟩ := h
  exact ⟨var_keeps (may := fun _ _ => False) h1 hg.keeps (fun _ _ _ h => h), m, (hg.cell (p := ⟨1, 0, none⟩) (World.block_lt_of_cell? w _ h2)).trans h2⟩

theorem itoa47_any (n : Int) (h0 : -9223372036854775808 ≤ n) (h1 : n ≤ 9223372036854775807) (w : World) (h : Lay w) :
    Calls Tryz.prog 47 #[.int .i64 n] w fun e w' => e = .returned (.string ⟨(Lib.itoa n).toArray⟩) ∧ Grew w w' :=
  (Tryz.strconv_Itoa n h0 h1 w h.tab).mono fun e w' ⟨he, k, os, hw⟩ => ⟨he, by rw [hw]; exact Lib.below_grow _ w (Nat.le_refl _) k os⟩

theorem noDig145_any (r : Nat) (w : World) : Calls Tryz.prog 145 #[.int .i32 (r : Int)] w fun e w' => e = .returned (.bool (noDig r)) ∧ w = w' := by
  unfold noDig
  by_cases h1 : r < 48
  · have h1' : decide (r < 48) = true := by simpa using h1
    have h2 : ((r : Int) < 48) := by omega
    have h3 : decide ((r : Int) < 48) = true := by simpa using h2
    rw [h1']
    go_enter Tryz.func145, Tryz.ntmps145
    go_wp2
    go_ret
    exact ⟨rfl, rfl⟩
  · have h1' : decide (r < 48) = false := by simpa using h1
    have h3 : decide ((r : Int) < 48) = false := by simp; omega
    rw [h1']
    obtain ⟨b, hb⟩ : ∃ b, decide (57 < r) = b := ⟨_, rfl⟩
    have hb2 : decide ((57 : Int) < (r : Int)) = b := by rw [← hb]; rw [Bool.eq_iff_iff]; simp; omega
    rw [hb]
    have HB := hid hb
    clear hb h1
    cases b
    all_goals
      go_enter Tryz.func145, Tryz.ntmps145
      go_wp2
      go_ret
      exact ⟨rfl, rfl⟩

theorem containsFunc144_any (s : ByteArray) (w : World) : Calls Tryz.prog 144 #[.string s, .func (.func 145) #[] #[]] w fun e w' => e = .returned (.bool (!s.data.toList.all isDig)) ∧ Grew w w' := by
  rw [← contains_digits]
  refine Tryz.strings_ContainsFunc 145 #[] (fun _ _ => by kernel_rfl) noDig s w ?_
  intro W x _
  exact (noDig145_any x W).mono fun e w' ⟨a, b⟩ => ⟨a, 0, b.symm⟩

theorem atoi146_any (s : ByteArray) (hd : s.data.toList.all isDig = true) (hne : s.data.toList ≠ []) (hl : s.size ≤ 4) (w : World) :
    Calls Tryz.prog 146 #[.string s] w fun e w' => e = .returned (.tuple #[.int .i64 (numVal 0 s.data.toList : Int), .nilIface]) ∧ Grew w w' :=
  (Tryz.strconv_Atoi s _ (by omega) (atoi_digits _ hd hne) w).mono fun e w' ⟨he, t, hw⟩ => ⟨he, by rw [hw]; exact Lib.bytesWorld_below w 5 t⟩

/-- What a function says that gives a number and whether it is one. -/
abbrev numV (o : Option Int) : Value := match o with
  | some n => .tuple #[.int .i64 n, .bool true]
  | none => .tuple #[.int .i64 0, .bool false]

set_option maxHeartbeats 1000000 in
theorem number120_any (s : ByteArray) (w : World) (hs : s.size ≤ 1000000) : Calls Tryz.prog 120 #[.string s] w fun e w' => e = .returned (numV (numM s.data.toList)) ∧ Grew w w' := by
  have hlen : s.data.toList.length = s.size := by simp
  have HCF := hid (fun W => containsFunc144_any s W)
  by_cases h1 : s.size < 1
  · have e1 : decide ((s.size : Int) < 1) = true := by simp; omega
    have hn : numM s.data.toList = none := by unfold numM; rw [if_neg]; rw [hlen]; omega
    rw [hn]
    clear hn hlen
    go_enter Tryz.func120, Tryz.ntmps120
    go_wp2_with (go_at_call 144; (with_reducible refine (HCF.out _).mono ?_); rintro e w1 ⟨rfl, hg⟩; have HG := hid hg; clear hg)
    go_ret2
    exact ⟨rfl, grew_refl _⟩
  · have e1 : decide ((s.size : Int) < 1) = false := by simp; omega
    by_cases h4 : 4 < s.size
    · have e4 : decide ((4 : Int) < (s.size : Int)) = true := by simp; omega
      have hn : numM s.data.toList = none := by unfold numM; rw [if_neg]; rw [hlen]; omega
      rw [hn]
      clear hn hlen
      go_enter Tryz.func120, Tryz.ntmps120
      go_wp2_with (go_at_call 144; (with_reducible refine (HCF.out _).mono ?_); rintro e w1 ⟨rfl, hg⟩; have HG := hid hg; clear hg)
      go_ret2
      exact ⟨rfl, grew_refl _⟩
    · have e4 : decide ((4 : Int) < (s.size : Int)) = false := by simp; omega
      have h0 : 0 < s.size := by omega
      have h0I : (0 : Int) < (s.size : Int) := by omega
      have hhd : s.data.toList.head? = some s[0] := by
        rw [List.head?_eq_getElem?, List.getElem?_eq_getElem (by rw [hlen]; exact h0)]
        rfl
      obtain ⟨da, hda⟩ : ∃ da, s.data.toList.all isDig = da := ⟨_, rfl⟩
      rw [hda] at HCF
      have HDA := hid hda
      have HAT := hid (fun (h : da = true) W => atoi146_any s (hda.trans h) (fun e => by have := hlen; rw [e] at this; simp at this; omega) (by omega) W)
      clear hda
      by_cases hz : 1 < s.size
      · have ez : decide ((1 : Int) < (s.size : Int)) = true := by simp; omega
        by_cases h48 : s[0].toNat = 48
        · have e48 : (((s[0].toNat : Nat) : Int) == 48) = true := by simp [h48]
          have hn : numM s.data.toList = none := by unfold numM; rw [if_neg]; rw [hlen, hhd]; rintro ⟨_, _, h3, _⟩; exact h3 ⟨hz, by rw [show s[0] = 48 from UInt8.toNat_inj.1 h48]⟩
          rw [hn]
          clear hn hlen h48 hhd
          go_enter Tryz.func120, Tryz.ntmps120
          go_wp2_with (go_at_call 144; (with_reducible refine (HCF.out _).mono ?_); rintro e w1 ⟨rfl, hg⟩; have HG := hid hg; clear hg)
          go_ret2
          exact ⟨rfl, grew_refl _⟩
        · have e48 : (((s[0].toNat : Nat) : Int) == 48) = false := by rw [beq_eq_false_iff_ne]; omega
          have hz48 : ¬ (1 < s.size ∧ s.data.toList.head? = some 48) := by rintro ⟨_, h⟩; rw [hhd] at h; have h := Option.some.inj h; rw [h] at h48; exact h48 rfl
          clear h48
          cases da with
          | false =>
            have hn : numM s.data.toList = none := by unfold numM; rw [if_neg]; rw [hlen, HDA.out]; simp
            rw [hn]
            clear hn hlen hhd HAT
            go_enter Tryz.func120, Tryz.ntmps120
            go_wp2_with (go_at_call 144; (with_reducible refine (HCF.out _).mono ?_); rintro e w1 ⟨rfl, hg⟩; have HG := hid hg; clear hg)
            go_ret2
            exact ⟨rfl, HG.out⟩
          | true =>
            have hn : numM s.data.toList = some (numVal 0 s.data.toList : Int) := by unfold numM; rw [if_pos]; rw [hlen, HDA.out]; exact ⟨by omega, by omega, hz48, rfl⟩
            rw [hn]
            replace HAT := hid (HAT.out rfl)
            obtain ⟨v, hv⟩ : ∃ v, (numVal 0 s.data.toList : Int) = v := ⟨_, rfl⟩
            rw [hv] at HAT ⊢
            clear hn hlen hhd hv
            go_enter Tryz.func120, Tryz.ntmps120
            go_wp2_with (first
              | (go_at_call 144; (with_reducible refine (HCF.out _).mono ?_); rintro e w1 ⟨rfl, hg⟩; have HG := hid hg; clear hg)
              | (go_at_call 146; (with_reducible refine (HAT.out _).mono ?_); rintro e w2 ⟨rfl, hg⟩; have HG2 := hid hg; clear hg))
            go_quiet (fail)
            go_wp2
            go_ret2
            exact ⟨rfl, grew_drewN (grew_trans HG.out HG2.out) _⟩
      · have ez : decide ((1 : Int) < (s.size : Int)) = false := by simp; omega
        have hz48 : ¬ (1 < s.size ∧ s.data.toList.head? = some 48) := fun h => hz h.1
        cases da with
        | false =>
          have hn : numM s.data.toList = none := by unfold numM; rw [if_neg]; rw [hlen, HDA.out]; simp
          rw [hn]
          clear hn hlen hhd HAT
          go_enter Tryz.func120, Tryz.ntmps120
          go_wp2_with (go_at_call 144; (with_reducible refine (HCF.out _).mono ?_); rintro e w1 ⟨rfl, hg⟩; have HG := hid hg; clear hg)
          go_ret2
          exact ⟨rfl, HG.out⟩
        | true =>
          have hn : numM s.data.toList = some (numVal 0 s.data.toList : Int) := by unfold numM; rw [if_pos]; rw [hlen, HDA.out]; exact ⟨by omega, by omega, hz48, rfl⟩
          rw [hn]
          replace HAT := hid (HAT.out rfl)
          obtain ⟨v, hv⟩ : ∃ v, (numVal 0 s.data.toList : Int) = v := ⟨_, rfl⟩
          rw [hv] at HAT ⊢
          clear hn hlen hhd hv
          go_enter Tryz.func120, Tryz.ntmps120
          go_wp2_with (first
            | (go_at_call 144; (with_reducible refine (HCF.out _).mono ?_); rintro e w1 ⟨rfl, hg⟩; have HG := hid hg; clear hg)
            | (go_at_call 146; (with_reducible refine (HAT.out _).mono ?_); rintro e w2 ⟨rfl, hg⟩; have HG2 := hid hg; clear hg))
          go_quiet (fail)
          go_wp2
          go_ret2
          exact ⟨rfl, grew_drewN (grew_trans HG.out HG2.out) _⟩

end Go.Proofs.YtmohnddglmolgaaGreatDoor
