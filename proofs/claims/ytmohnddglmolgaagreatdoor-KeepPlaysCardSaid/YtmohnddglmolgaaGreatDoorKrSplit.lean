/- Walks of the reference: split (94). -/
import Derived.Test.YtmohnddglmolgaaGreatDoorKrPl
namespace Go.Proofs.YtmohnddglmolgaaGreatDoor
open Go Go.RowKit Go.Lin Go.Lin.Kp

theorem piece_bytes (s : ByteArray) (a b : Nat) : (s.extract a b).data.toList = (s.data.toList.take b).drop a := by
  rw [ByteArray.data_extract, Array.toList_extract, List.extract_eq_take_drop, List.drop_take]

theorem run_piece (s : ByteArray) (a b : Nat) (h : a ≤ b) (hb : b ≤ s.size) (W : World) : (Instr.slice 9 (.string s) (some (.int .i64 (a : Int))) (some (.int .i64 (b : Int))) none).run Tryz.prog W = .ok (.string (s.extract a b)) W := by
  rw [run_slice_string_if W 9 s .i64 .i64 a b (by kernel_rfl), if_pos (by omega), if_pos (by omega)]; simp

/-- How far a text has been parted. -/
def SplitAt (c : UInt8) (l : List UInt8) (n j f : Nat) (ws : List ByteArray) : Prop :=
  (j ≤ n ∧ f ≤ j ∧ NoB c l f j ∧ splitL c l = bytesOf ws ++ splitL c (l.drop f)) ∨ (j = n + 1 ∧ f ≤ n + 1 ∧ splitL c l = bytesOf ws)

set_option maxHeartbeats 2000000 in
set_option maxRecDepth 20000 in
theorem rsplit94_any (c : UInt8) (ci : Int) (hci : (c.toNat : Int) = ci) (s : ByteArray) (w : World) (hs : s.size ≤ 1000000) :
    Calls Tryz.prog 94 #[.string s, .int .u8 ci] w fun e w' => ∃ u ws, e = .returned u ∧ Seg w' w.heap.size 9 1 u ws.length (ws.map Value.string) ∧ bytesOf ws = splitL c s.data.toList ∧ (∀ x ∈ ws, x.size ≤ s.size) ∧ ws.length ≤ s.size + 1 ∧ Grew w w' := by
  obtain ⟨l, hl⟩ : ∃ l, s.data.toList = l := ⟨_, rfl⟩
  have hlen : l.length = s.size := by rw [← hl]; simp
  have HLN := hid hlen; have HL := hid hl
  have HPIE := hid (fun (a b : Nat) (h : a ≤ b) (hb : b ≤ s.size) (W : World) => run_piece s a b h hb W)
  have HBY := hid (fun (j : Nat) (hj : j < s.size) => (⟨s[j]'hj, by rw [← hl]; rw [List.getElem?_eq_getElem (by simpa using hj)]; rfl, by simp [ByteArray.getElem?_lt' s j hj], rfl⟩ : ∃ b : UInt8, l[j]? = some b ∧ s[j]? = some b ∧ s[j]'hj = b))
  have HCI := hid hci
  rw [hl]
  clear hlen hl hci
  go_enter Tryz.func94, Tryz.ntmps94
  go_wp2
  go_loopg [5, 6, 7] (s.size + 1) (fun gk ov fv iv wr => ∃ (j f : Nat) (ws : List ByteArray), j ≤ s.size + 1 ∧ iv = .int .i64 (j : Int) ∧ fv = .int .i64 (f : Int) ∧ Hid (gk = s.size + 1 - j) ∧ Hid (SplitAt c l s.size j f ws) ∧ Hid (∀ x ∈ ws, x.size ≤ s.size) ∧ Hid (ws.length ≤ j) ∧ Hid (Grew w wr) ∧ Hid (Seg wr w.heap.size 9 1 ov ws.length (ws.map Value.string)))
  case atStart => exact ⟨0, 0, [], Nat.zero_le _, rfl, rfl, hid rfl, hid (.inl ⟨Nat.zero_le _, Nat.le_refl _, fun t b h1 h2 => by omega, rfl⟩), hid (fun x h => by cases h), hid (Nat.le_refl _), hid (grew_refl _), hid (Seg.nil _ _ _ _)⟩
  case round =>
    obtain ⟨j, f, ws, hj, rfl, rfl, HGK, HSP, HSM, HWL, HG, HSG⟩ := hrel
    rename World => wr
    by_cases hlt : j ≤ s.size
    · obtain ⟨-, hf, hno, heq⟩ : j ≤ s.size ∧ f ≤ j ∧ NoB c l f j ∧ splitL c l = bytesOf ws ++ splitL c (l.drop f) := by
        rcases HSP.out with h | h
        · exact h
        · have := h.1; omega
      have HNO := hid hno; have HEQ := hid heq; have HF := hid hf
      obtain ⟨m, hm⟩ : ∃ m, ws.length = m := ⟨_, rfl⟩
      have hmj := HWL.out
      rw [hm] at hmj HSG
      have HM := hid hm
      obtain ⟨na, nc, rfl, hsh⟩ := HSG.out.shape
      have hpie := HPIE.out f j hf hlt
      have hpb := piece_bytes s f j
      rw [HL.out] at hpb
      obtain ⟨x, hx⟩ : ∃ x, s.extract f j = x := ⟨_, rfl⟩
      rw [hx] at hpie hpb
      have hxs : x.size ≤ s.size := by rw [← hx, ByteArray.size_extract]; omega
      have HPB := hid hpb; have HXS := hid hxs
      have dj : decide ((j : Int) ≤ (s.size : Int)) = true := by simp; omega
      have hbo : bytesOf (ws ++ [x]) = bytesOf ws ++ [(l.take j).drop f] := by unfold bytesOf; rw [List.map_append, List.map_cons, List.map_nil, HPB.out]
      have HBO := hid hbo
      clear hno heq hpb hx hxs hm hbo hsh
      by_cases hjn : j = s.size
      · have e1 : ((j : Int) == (s.size : Int)) = true := by rw [hjn]; simp
        have HJN := hid hjn
        clear hjn
        go_wp2_with (at_builtin; refine wpList_append_one rfl _ _ 22 rfl w.heap.size 9 Tryz.underlying22 Tryz.info9 rfl (by decide) (.slice na m nc) m _ rfl (HSG.out.alloc _) _ _ _ rfl (one_new _ _ _) rfl (by omega) ?_ ?_; (have := HG.out.size; simp only [World.size_alloc]; omega); intro v9 w9 hown9 hgrow9 hblk9; have hg9 : Grew w w9 := (HG.out.alloc HG.out.size _).grown hgrow9 (HG.out.alloc HG.out.size _).size (fun k e => (HSG.out.own k e).1); have HG9 := hid hg9; have HS9 := hid hown9; clear hown9 hgrow9 hblk9 hg9)
        go_roundg (s.size + 1 - (j + 1))
        case measure => have := HGK.out; omega
        case rel =>
          refine ⟨j + 1, j + 1, ws ++ [x], by omega, by go_num, by go_num, hid rfl, hid (.inr ⟨by rw [HJN.out], by rw [HJN.out]; exact Nat.le_refl _, ?_⟩), hid (fun y hy => ?_), hid (by rw [List.length_append, List.length_singleton, HM.out]; omega), HG9, hid ?_⟩
          · rw [HBO.out, HEQ.out, splitL_last (by rw [HLN.out, ← HJN.out]; exact HNO.out), HJN.out, ← HLN.out, List.take_length]
          · rcases List.mem_append.1 hy with hy | hy
            · exact HSM.out y hy
            · rw [List.mem_singleton] at hy; rw [hy]; exact HXS.out
          · rw [List.length_append, List.length_singleton, List.map_append, HM.out]; exact HS9.out
      · have e1 : ((j : Int) == (s.size : Int)) = false := by rw [beq_eq_false_iff_ne]; omega
        obtain ⟨b, hb1, hb2, hb3⟩ := HBY.out j (by omega)
        have hjs : j < s.size := by omega
        have hjI : (j : Int) < (s.size : Int) := by omega
        have HB1 := hid hb1
        obtain ⟨z, hz⟩ : ∃ z : Int, (b.toNat : Int) = z := ⟨_, rfl⟩
        have hidx : ∀ W, (Instr.index 9 (.string s) (.int .i64 (j : Int))).run Tryz.prog W = .ok (.int .u8 z) W := fun W => by
          rw [run_index_string W 9 s .i64 j (by kernel_rfl), dif_pos (by omega)]
          simp only [Int.toNat_natCast]
          rw [hb3, hz]
        have HZ := hid hz
        clear hb1 hb2 hb3 hz
        by_cases hbc : b = c
        · have e2 : (z == ci) = true := by rw [← HZ.out, ← HCI.out, hbc]; simp
          have HBC := hid hbc
          clear hbc
          go_wp2_with (at_builtin; refine wpList_append_one rfl _ _ 22 rfl w.heap.size 9 Tryz.underlying22 Tryz.info9 rfl (by decide) (.slice na m nc) m _ rfl (HSG.out.alloc _) _ _ _ rfl (one_new _ _ _) rfl (by omega) ?_ ?_; (have := HG.out.size; simp only [World.size_alloc]; omega); intro v9 w9 hown9 hgrow9 hblk9; have hg9 : Grew w w9 := (HG.out.alloc HG.out.size _).grown hgrow9 (HG.out.alloc HG.out.size _).size (fun k e => (HSG.out.own k e).1); have HG9 := hid hg9; have HS9 := hid hown9; clear hown9 hgrow9 hblk9 hg9)
          go_roundg (s.size + 1 - (j + 1))
          case measure => have := HGK.out; omega
          case rel =>
            refine ⟨j + 1, j + 1, ws ++ [x], by omega, by go_num, by go_num, hid rfl, hid (.inl ⟨by omega, Nat.le_refl _, fun t b h1 h2 => by omega, ?_⟩), hid (fun y hy => ?_), hid (by rw [List.length_append, List.length_singleton, HM.out]; omega), HG9, hid ?_⟩
            · rw [HBO.out, HEQ.out, splitL_atR HF.out (by rw [HLN.out]; omega) HNO.out (by rw [← HBC.out]; exact HB1.out), List.append_assoc]; rfl
            · rcases List.mem_append.1 hy with hy | hy
              · exact HSM.out y hy
              · rw [List.mem_singleton] at hy; rw [hy]; exact HXS.out
            · rw [List.length_append, List.length_singleton, List.map_append, HM.out]; exact HS9.out
        · have e2 : (z == ci) = false := by
            rw [beq_eq_false_iff_ne, ← HZ.out, ← HCI.out]
            intro e
            exact hbc (UInt8.toNat_inj.1 (by omega))
          have HBC := hid hbc
          clear hbc
          go_wp2
          go_roundg (s.size + 1 - (j + 1))
          case measure => have := HGK.out; omega
          case rel =>
            refine ⟨j + 1, f, ws, by omega, by go_num, rfl, hid rfl, hid (.inl ⟨by omega, Nat.le_succ_of_le HF.out, fun t b' h1 h2 hb' => ?_, HEQ.out⟩), HSM, hid (by rw [HM.out]; omega), HG, hid (by rw [HM.out]; exact HSG.out)⟩
            by_cases e : t = j
            · subst e
              rw [HB1.out, Option.some.injEq] at hb'
              rw [← hb']; exact HBC.out
            · exact HNO.out t b' h1 (by omega) hb'
    · obtain rfl : j = s.size + 1 := by omega
      have heq : splitL c l = bytesOf ws := by
        rcases HSP.out with h | h
        · have := h.1; omega
        · exact h.2.2
      have HEQ := hid heq
      have dj : decide (((s.size + 1 : Nat) : Int) ≤ (s.size : Int)) = false := by simp; omega
      clear heq
      go_wp2
      go_ret
      exact ⟨_, ws, rfl, HSG.out, HEQ.out.symm, HSM.out, HWL.out, HG.out⟩

end Go.Proofs.YtmohnddglmolgaaGreatDoor
