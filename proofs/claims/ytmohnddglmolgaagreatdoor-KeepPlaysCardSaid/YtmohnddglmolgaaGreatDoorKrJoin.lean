/- Walk of the reference: told (95), joined (96): numbers as a text. -/
import Derived.Test.YtmohnddglmolgaaGreatDoorKrPl
import Derived.Test.YtmohnddglmolgaaGreatDoorKpDec
namespace Go.Proofs.YtmohnddglmolgaaGreatDoor
open Go Go.RowKit Go.Lin Go.Lin.Kp

/-- A text of bytes. -/
abbrev rtx (l : List UInt8) : ByteArray := ⟨l.toArray⟩

theorem rcat_run (a b : List UInt8) (h : a.length + b.length ≤ 1000000) (W : World) : (Op.stringOp .add (rtx a) (rtx b)).run Tryz.prog W = .ok (.string (rtx (a ++ b))) W := by
  have h1 : (rtx a).size = a.length := by simp [ByteArray.size]
  have h2 : (rtx b).size = b.length := by simp [ByteArray.size]
  rw [run_string_add_sum (P := Tryz.prog) W _ _ (by rw [h1, h2]; omega)]
  exact congrArg (fun z => Result.ok (Value.string z) W) (bytes_append a b)

theorem itoa_nat (n : Nat) : Lib.itoa (n : Int) = Lib.decDigits n := by unfold Lib.itoa; rw [if_neg (by omega)]; simp

theorem joinM_snoc (c : UInt8) (l : List Int) (x : Int) : joinM c (l ++ [x]) = if l = [] then Lib.itoa x else joinM c l ++ [c] ++ Lib.itoa x := by
  unfold joinM
  rw [List.map_append, List.map_cons, List.map_nil, join_snoc]
  cases l with
  | nil => rfl
  | cons y r => rw [if_neg (by simp), if_neg (by simp)]

theorem joinM_len (c : UInt8) (l : List Int) (h : ∀ x ∈ l, 0 ≤ x ∧ x ≤ 100000) : (joinM c l).length ≤ l.length * 22 := by
  unfold joinM
  refine Nat.le_trans (join_len c 21 _ (fun x hx => ?_)) (by rw [List.length_map]; exact Nat.le_refl _)
  obtain ⟨y, hy, rfl⟩ := List.mem_map.1 hx
  have := h y hy
  exact Lib.itoa_length_le y (by omega) (by omega)

theorem told95_any (x : Int) (w : World) : Calls Tryz.prog 95 #[.int .i64 x] w fun e w' => e = .returned (.tuple #[.string ⟨(okM x).1.toArray⟩, .int .i64 (okM x).2]) ∧ w = w' := by
  unfold okM
  by_cases h : x = 0
  · subst h
    go_enter Tryz.func95, Tryz.ntmps95
    go_wp2
    go_ret2
    exact ⟨rfl, rfl⟩
  · rw [if_neg h]
    have e : (x != 0) = true := by rw [bne_iff_ne]; exact h
    clear h
    go_enter Tryz.func95, Tryz.ntmps95
    go_wp2
    go_ret2
    exact ⟨rfl, rfl⟩

set_option maxHeartbeats 2000000 in
set_option maxRecDepth 20000 in
theorem rjoined96_any (v : Value) (l : List Int) (c : UInt8) (w : World) (hv : IsInts Any w v l) (hn : l.length ≤ 1000) (hs : ∀ x ∈ l, 0 ≤ x ∧ x ≤ 100000) :
    Calls Tryz.prog 96 #[v, .string ⟨#[c]⟩] w fun e w' => e = .returned (.string ⟨(joinM c l).toArray⟩) ∧ Grew w w' := by
  obtain ⟨a, cap, rfl, hm, hc⟩ := hv
  have HC := hid hc; have HS := hid hs
  clear hc hs
  obtain ⟨n, hnn⟩ : ∃ n, l.length = n := ⟨_, rfl⟩
  rw [hnn] at HC hm hn ⊢
  have HN := hid hnn
  clear hnn
  obtain ⟨cs, hcs⟩ : ∃ t : ByteArray, (⟨#[c]⟩ : ByteArray) = t := ⟨_, rfl⟩
  have HCS := hid (show rtx [c] = cs from hcs)
  rw [hcs]
  clear hcs
  go_enter Tryz.func96, Tryz.ntmps96
  go_wp2
  go_loopg [5, 6] n (fun gk ov iv wr => ∃ (j : Nat) (t : ByteArray), j ≤ n ∧ ov = .string t ∧ iv = .int .i64 (j : Int) ∧ Hid (gk = n - j) ∧ Hid (t = rtx (joinM c (l.take j))) ∧ Hid (Grew w wr))
  case atStart => exact ⟨0, _, Nat.zero_le _, rfl, rfl, hid rfl, hid rfl, hid (grew_refl _)⟩
  case round =>
    obtain ⟨j, t, hj, rfl, rfl, HGK, HT, HG⟩ := hrel
    rename World => wr
    by_cases hlt : j < n
    · obtain ⟨b, off, o, rfl, hb, _, hcj⟩ := HC.out j hlt
      have hcj0 := (HG.out.cell (p := ⟨b, off + j, none⟩) (lt_of_obj hb)).trans hcj
      have hjl : j < l.length := by rw [HN.out]; exact hlt
      rw [nth_lt hjl] at hcj0
      obtain ⟨x, hx⟩ : ∃ x, l[j] = x := ⟨_, rfl⟩
      rw [hx] at hcj0
      have hxb := HS.out x (by rw [← hx]; exact List.getElem_mem hjl)
      obtain ⟨m, rfl⟩ : ∃ m : Nat, x = (m : Int) := ⟨x.toNat, by omega⟩
      have HDE := hid (fun W => decimal45_any m m (Nat.le_refl _) (by omega) W)
      have hdl : (Lib.decDigits m).length ≤ 21 := by rw [← itoa_nat]; exact Lib.itoa_length_le _ (by omega) (by omega)
      have htk : l.take (j + 1) = l.take j ++ [(m : Int)] := by rw [List.take_add_one, List.getElem?_eq_getElem hjl, hx]; rfl
      have hjm := joinM_len c (l.take j) (fun y hy => HS.out y (List.mem_of_mem_take hy))
      rw [List.length_take] at hjm
      have hjmj : (joinM c (l.take j)).length ≤ j * 22 := Nat.le_trans hjm (Nat.mul_le_mul_right _ (Nat.min_le_left _ _))
      have hsn := joinM_snoc c (l.take j) (m : Int)
      rw [← htk, itoa_nat] at hsn
      have hcat1 := fun W => rcat_run (joinM c (l.take j)) [c] (by simp only [List.length_singleton]; omega) W
      have hcat2 := fun W => rcat_run (joinM c (l.take j) ++ [c]) (Lib.decDigits m) (by simp only [List.length_append, List.length_singleton]; omega) W
      have hcat0 := fun W => rcat_run [] (Lib.decDigits m) (by simp only [List.length_nil]; omega) W
      rw [← HT.out, HCS.out] at hcat1
      obtain ⟨t1, ht1⟩ : ∃ t, rtx (joinM c (l.take j) ++ [c]) = t := ⟨_, rfl⟩
      rw [ht1] at hcat1 hcat2
      obtain ⟨d, hd⟩ : ∃ t, rtx (Lib.decDigits m) = t := ⟨_, rfl⟩
      rw [hd] at hcat2 hcat0
      rw [show (⟨(Lib.decDigits m).toArray⟩ : ByteArray) = d from hd] at HDE
      obtain ⟨t2, ht2⟩ : ∃ t, rtx (joinM c (l.take (j + 1))) = t := ⟨_, rfl⟩
      have HT2 := hid ht2
      have hlt2 : decide ((j : Int) < (n : Int)) = true := by rw [decide_eq_true_eq]; omega
      by_cases h0 : j = 0
      · have e2 : rtx ([] ++ Lib.decDigits m) = t2 := by rw [← ht2, hsn, h0, List.take_zero, if_pos rfl]; rfl
        have et : t = rtx [] := by rw [HT.out, h0]; rfl
        rw [e2, ← et] at hcat0
        have d0 : decide ((0 : Int) < (j : Int)) = false := by rw [decide_eq_false_iff_not]; omega
        have d0' : decide (0 < j) = false := by rw [decide_eq_false_iff_not]; omega
        clear hcat1 hcat2 hsn hjm hjmj htk hx hxb hdl ht1 ht2 hd hb hcj hjl e2 et h0
        go_wp2_with (go_at_call 45; (with_reducible refine (HDE.out _).mono ?_); rintro e w1 ⟨rfl, hg⟩; have HG1 := hid (grew_trans HG.out hg); clear hg)
        go_roundg (n - (j + 1))
        case measure => have := HGK.out; omega
        case rel => exact ⟨j + 1, t2, by omega, rfl, by go_num, hid rfl, hid HT2.out.symm, HG1⟩
      · have hne : l.take j ≠ [] := fun e => by
          have := congrArg List.length e
          rw [List.length_take, List.length_nil] at this; omega
        have e2 : rtx (joinM c (l.take j) ++ [c] ++ Lib.decDigits m) = t2 := by rw [← ht2, hsn, if_neg hne]
        rw [e2] at hcat2
        have d0 : decide ((0 : Int) < (j : Int)) = true := by rw [decide_eq_true_eq]; omega
        have d0' : decide (0 < j) = true := by rw [decide_eq_true_eq]; omega
        clear hcat0 hsn hjm hjmj htk hx hxb hdl ht1 ht2 hd hb hcj hjl e2 hne h0
        go_wp2_with (go_at_call 45; (with_reducible refine (HDE.out _).mono ?_); rintro e w1 ⟨rfl, hg⟩; have HG1 := hid (grew_trans HG.out hg); clear hg)
        go_roundg (n - (j + 1))
        case measure => have := HGK.out; omega
        case rel => exact ⟨j + 1, t2, by omega, rfl, by go_num, hid rfl, hid HT2.out.symm, HG1⟩
    · obtain rfl : j = n := by omega
      have ht : t = rtx (joinM c l) := by have := HT.out; rw [List.take_of_length_le (by rw [HN.out]; exact Nat.le_refl _)] at this; exact this
      have HTT := hid ht
      clear ht
      go_wp2
      go_ret
      exact ⟨by rw [HTT.out]; rfl, HG.out⟩

end Go.Proofs.YtmohnddglmolgaaGreatDoor
