/- Walks of the reference: SameInts, rest. -/
import Derived.Test.YtddnpooffcjhnaaWvFirst
namespace Go.Lin

theorem take_eq_succ {l m : List Int} {j : Nat} (h : l.take j = m.take j) (hj : j < l.length) (hjm : j < m.length) (he : nth l j = nth m j) : l.take (j + 1) = m.take (j + 1) := by
  rw [take_succ_nth hj, take_succ_nth hjm, h, he]

namespace Wv

theorem rest_drop {D : Int → Int → Bool} {p y : List Int} {a : Int} {j : Nat} (h : p[j]? = some a) : rest D (p.drop j) y = match free D y a with | none => none | some i => rest D (p.drop (j + 1)) (y.eraseIdx i) := by
  have : p.drop j = a :: p.drop (j + 1) := by
    obtain ⟨h1, h2⟩ := List.getElem?_eq_some_iff.1 h
    rw [← h2]
    exact List.drop_eq_getElem_cons h1
  rw [this]
  rfl

end Wv
end Go.Lin
namespace Go.Proofs.Ytddnpooffcjhnaa
open Go.RowKit Go.Lin Go.Lin.Wv

set_option maxHeartbeats 2000000 in
theorem sameInts_any (v v' : Value) (l m : List Int) (w : World) (hv : IsInts Any w v l) (hv' : IsInts Any w v' m) :
    Calls Try.prog 23 #[v, v'] w fun e w' => e = .returned (.bool (l == m)) ∧ Grew w w' := by
  obtain ⟨a, cap, rfl, hm, hc⟩ := hv
  obtain ⟨a', cap', rfl, hm', hc'⟩ := hv'
  have HC := hid hc; clear hc
  have HC' := hid hc'; clear hc'
  obtain ⟨r, hr⟩ : ∃ r, (l == m) = r := ⟨_, rfl⟩
  rw [hr]
  have HR := hid hr; clear hr
  obtain ⟨n, hn⟩ : ∃ n, l.length = n := ⟨_, rfl⟩
  obtain ⟨n', hn'⟩ : ∃ n, m.length = n := ⟨_, rfl⟩
  rw [hn] at hm HC ⊢
  rw [hn'] at hm' HC' ⊢
  have HN := hid hn
  have HN' := hid hn'
  by_cases hne : n = n'
  · subst hne
    clear hn hn'
    have hg := grew_refl w
    go_enter Try.func23, Try.ntmps23
    go_wp2
    go_loopg [5, 13] n (fun k _ i wr => ∃ j : Nat, j ≤ n ∧ i = .int .i64 j ∧ k = n - j ∧ Hid (l.take j = m.take j) ∧ Grew w wr)
    case atStart => exact ⟨0, by omega, rfl, rfl, hid (by simp), hg⟩
    case round =>
      clear hg
      obtain ⟨j, hj, rfl, hk, HT, hg⟩ := hrel
      have HK := hid hk; clear hk
      by_cases hlt : j < n
      · obtain ⟨b1, off1, o1, rfl, hb1, _, hcj1⟩ := HC.out j hlt
        obtain ⟨b2, off2, o2, rfl, hb2, _, hcj2⟩ := HC'.out j hlt
        have hbl1 := lt_of_obj hb1
        have hbl2 := lt_of_obj hb2
        have d1 := (hg.cell (p := ⟨b1, off1 + j, none⟩) hbl1).trans hcj1
        have d2 := (hg.cell (p := ⟨b2, off2 + j, none⟩) hbl2).trans hcj2
        clear hb1 hb2 hcj1 hcj2
        by_cases he : nth l j = nth m j
        · have hd : (nth l j != nth m j) = false := by simp [he]
          have HE := hid he; clear he
          go_wp2
          go_quiet (fail)
          go_wp2
          go_roundg (n - (j + 1))
          case measure => have := HK.out; omega
          case rel => exact ⟨j + 1, by omega, by go_num, rfl, hid (take_eq_succ HT.out (by rw [HN.out]; exact hlt) (by rw [HN'.out]; exact hlt) HE.out), grew_drewN hg _⟩
        · have hd : (nth l j != nth m j) = true := by simpa using he
          have HE := hid he; clear he
          go_wp2
          go_quiet (fail)
          go_wp2
          go_ret
          refine ⟨ret_bool (Eq.trans ?_ HR.out), grew_drewN hg _⟩
          symm
          rw [beq_eq_false_iff_ne]
          rintro rfl
          exact HE.out rfl
      · obtain rfl : j = n := by omega
        go_wp2
        go_ret
        refine ⟨ret_bool (Eq.trans ?_ HR.out), hg⟩
        have h1 := HT.out
        rw [List.take_of_length_le (by rw [HN.out]; omega), List.take_of_length_le (by rw [HN'.out]; omega)] at h1
        rw [h1]; simp
  · have hd : ((n : Int) != (n' : Int)) = true := by simp; omega
    have HNE := hid hne
    clear hne hn hn'
    go_enter Try.func23, Try.ntmps23
    go_wp2
    go_ret
    refine ⟨ret_bool (Eq.trans ?_ HR.out), grew_refl _⟩
    symm
    rw [beq_eq_false_iff_ne]
    rintro rfl
    exact HNE.out (HN.out.symm.trans HN'.out)

set_option maxHeartbeats 8000000 in
set_option maxRecDepth 20000 in
theorem rRest_any (v : Value) (L : Lt) (uv wv : Value) (p x : List Int) (w : World) (hlen : x.length ≤ 1000) (hv : IsLt w v L) (hp : IsInts Any w uv p) (hx : IsWd w wv x) :
    Calls Try.prog 77 #[v, uv, wv] w fun e w' => (∃ y, rest (dep L) p x = some y ∧ ∃ u, e = .returned (.tuple #[u, .bool true]) ∧ Seg w' w.heap.size 3 1 u y.length (y.map (.int .i64)) ∧ Grew w w') ∨ (rest (dep L) p x = none ∧ e = .returned (.tuple #[.slice none 0 0, .bool false]) ∧ Grew w w') := by
  have HFR := hid (fun (lv : Value) (y : List Int) (a : Int) (W : World) (hy : Grew w W) (hr : IsInts Any W lv y) => free_any v L lv y a W (hv.grew hy) hr)
  obtain ⟨s, rfl, hps⟩ := hv
  obtain ⟨W0, hW0, g0, k0, k1, hz⟩ := box2 w (.int .i64 L.n) s 24
  have hg := g0
  obtain ⟨i0, hi0, hi1, hi2, hi3⟩ := info_parts Try.info3
  obtain ⟨pa, pc, rfl, hpm, hpcell⟩ := hp
  obtain ⟨m, hmm⟩ : ∃ m, p.length = m := ⟨_, rfl⟩
  rw [hmm] at hpm hpcell ⊢
  have HM := hid hmm
  have HPC := hid hpcell
  have HSRC := hid (src_ints (Reads.grew hx.ints (grew_alloc g0 (.cells #[] 3))))
  have hseg0 : Seg (W0.alloc (.cells #[] 3)) W0.heap.size 3 1 (.slice (some ⟨W0.heap.size, 0, none⟩) 0 0) 0 [] :=
    ⟨by simp, .inr ⟨W0.heap.size, 0, 0, #[], rfl, Nat.le_refl _, heap_alloc_new W0 _, Nat.le_refl _, by unfold maxLen; omega, by simp, by simp⟩⟩
  have HSEG0 := hid hseg0
  obtain ⟨R, hR⟩ : ∃ R, rest (dep L) p x = R := ⟨_, rfl⟩
  have HR0 := hid (show R = rest (dep L) (p.drop 0) x from hR ▸ rfl)
  rw [hR]
  obtain ⟨n, hn⟩ : ∃ n, x.length = n := ⟨_, rfl⟩
  rw [hn] at HSRC hlen
  have HN := hid hn
  clear hseg0 hR hmm hpcell hps hn hx
  go_enter Try.func77, Try.ntmps77
  go_wp2_with (at_builtin; refine wpList_append_seg rfl _ _ 25 25 rfl W0.heap.size 3 i0 (.int .i64 0) 1 8 Try.underlying25 hi0 hi1 hi2 hi3 rfl _ 0 [] rfl HSEG0.out _ rfl n _ HSRC.out (by unfold maxLen; omega) (by omega) ?_ ?_; (simp only [World.size_alloc]; omega); go_loud (
    intro v1 w1 hown1 hgrow1 hblk1
    rw [Nat.zero_add, List.nil_append] at hown1
    have hg1 : Grew W0 w1 := ((grew_refl W0).alloc (Nat.le_refl _) _).grown hgrow1 (by simp) (fun k e => by cases e; exact Nat.le_refl _)
    have HG1 := hid hg1
    have HOWN1 := hid (show Seg w1 W0.heap.size 3 1 v1 x.length (x.map (.int .i64)) by rw [HN.out]; exact hown1)
    clear hown1 hgrow1 hblk1 hg1))
  go_loopg [8, 10, 11, 17] m (fun k lv _ _ i wr => ∃ (j : Nat) (y : List Int), j ≤ m ∧ i = .int .i64 j ∧ k = m - j ∧ y.length ≤ 1000 ∧ Hid (R = rest (dep L) (p.drop j) y) ∧ Hid (Seg wr W0.heap.size 3 1 lv y.length (y.map (.int .i64))) ∧ Hid (Grew W0 wr))
  case atStart => exact ⟨0, x, by omega, rfl, rfl, by rw [HN.out]; omega, HR0, HOWN1, HG1⟩
  case round =>
    obtain ⟨j, y, hj, rfl, hk, hy1, HR, HSG, HG⟩ := hrel
    have HK := hid hk; clear hk
    rename World => wr
    by_cases hlt : j < m
    · obtain ⟨b, off, o, hva, hob, -, hcc⟩ := HPC.out j hlt
      subst hva
      have hbl := lt_of_obj hob
      have hpj : p[j]? = some (nth p j) := by rw [nth_lt (by rw [HM.out]; exact hlt)]; exact List.getElem?_eq_getElem _
      replace hcc : _ = some (Value.int .i64 (nth p j)) := hcc
      have hrd := rest_drop (D := dep L) (y := y) hpj
      obtain ⟨a, ha⟩ : ∃ a, nth p j = a := ⟨_, rfl⟩
      rw [ha] at hcc hrd
      rw [← HR.out] at hrd
      have hg := grew_trans g0 HG.out
      have hcw := (hg.cell (p := ⟨b, off + j, none⟩) hbl).trans hcc
      have hbw := Nat.lt_of_lt_of_le hbl hg.size
      have kw0 := (HG.out.cell (p := ⟨w.heap.size, 0, none⟩) hz).trans k0
      have kw1 := (HG.out.cell (p := ⟨w.heap.size, 1, none⟩) hz).trans k1
      have hzw := Nat.lt_of_lt_of_le hz HG.out.size
      have hF := HFR.out _ y a wr hg (isInts_any HSG.out)
      cases hq : free (dep L) y a with
      | none =>
        rw [hq] at hF hrd
        rw [show ix none = -1 from rfl] at hF
        have HF := hid hF
        have HRD := hid hrd
        clear hF hrd hq hob hpj hcc ha
        go_wp2_with (go_at_call 98; (with_reducible refine HF.out.mono ?_); rintro e w2 ⟨rfl, hx2⟩; have HX2 := hid hx2; clear hx2)
        go_ret2
        exact .inr ⟨HRD.out, rfl, grew_trans hg HX2.out⟩
      | some i =>
        obtain ⟨hil, -⟩ := free_lt hq
        rw [hq] at hF hrd
        rw [show ix (some i) = (i : Int) from rfl] at hF
        have HF := hid hF
        have HRD := hid hrd
        have hel : (y.eraseIdx i).length ≤ 1000 := by rw [List.length_eraseIdx, if_pos hil]; omega
        have HEL := hid hel
        have HIL := hid hil
        have HY1 := hid hy1
        clear hF hrd hq hob hpj hcc ha hil hel hy1
        go_wp2_with (first
          | (go_at_call 98; (with_reducible refine HF.out.mono ?_); rintro e w2 ⟨rfl, hx2⟩; have HX2 := hid hx2; clear hx2)
          | (go_at_call 97; (with_reducible refine (rWithout_any _ y i _ HIL.out (Nat.le_trans HY1.out (by omega)) (IsWd.of_seg (HSG.out.grew HX2.out))).mono ?_); rintro e w3 ⟨v3, rfl, hs3, hx3⟩; have HS3 := hid hs3; have HX3 := hid hx3; clear hs3 hx3))
        go_roundg (m - (j + 1))
        case measure => have := HK.out; omega
        case rel => exact ⟨j + 1, y.eraseIdx i, by omega, by go_num, rfl, HEL.out, HRD, hid (HS3.out.mono (by have h1 := HG.out.size; have h2 := HX2.out.size; omega)), hid (grew_trans HG.out (grew_trans HX2.out HX3.out))⟩
    · obtain rfl : m = j := by omega
      have hre : R = some y := by rw [HR.out, List.drop_of_length_le (by rw [HM.out]; exact Nat.le_refl _)]; rfl
      have HRE := hid hre
      have hgw := grew_trans g0 HG.out
      clear hre
      go_wp2
      go_ret2
      exact .inl ⟨y, HRE.out, _, rfl, HSG.out.mono g0.size, hgw⟩

end Go.Proofs.Ytddnpooffcjhnaa
