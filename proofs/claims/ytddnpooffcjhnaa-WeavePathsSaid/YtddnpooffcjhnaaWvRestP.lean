/- Walks of the program: rest, formed. -/
import Derived.Test.YtddnpooffcjhnaaWvAsked
namespace Go.Proofs.Ytddnpooffcjhnaa
open Go.RowKit Go.Lin Go.Lin.Wv

theorem wd_nil (w : World) : IsWd w (.slice none 0 0) [] := ⟨none, 0, rfl, by simp, Reads.nil _ _ _ _ _⟩

set_option maxHeartbeats 8000000 in
set_option maxRecDepth 20000 in
theorem rest_any {D : Int → Int → Bool} (B N : Nat) (uv wv : Value) (p x : List Int) (w : World) (hN : N ≤ 6) (hlen : x.length ≤ 100) (hpw : ∀ z ∈ p, 0 ≤ z ∧ z < (N : Int)) (hxw : ∀ z ∈ x, 0 ≤ z ∧ z < (N : Int)) (hL : Loom w B D N) (hp : IsInts Any w uv p) (hx : IsWd w wv x) :
    Calls Try.prog 76 #[.pointer (some ⟨B, 0, none⟩), uv, wv] w fun e w' => (∃ y, rest D p x = some y ∧ ∃ u, e = .returned (.tuple #[u, .bool true]) ∧ IsWd w' u y ∧ Grew w w') ∨ (rest D p x = none ∧ e = .returned (.tuple #[.slice none 0 0, .bool false]) ∧ Grew w w') := by
  obtain ⟨pa, pc, rfl, hpm, hpcell⟩ := hp
  obtain ⟨m, hmm⟩ : ∃ m, p.length = m := ⟨_, rfl⟩
  rw [hmm] at hpm hpcell ⊢
  have HM := hid hmm
  have HPC := hid hpcell
  have HL := hid hL; have HPW := hid hpw; have HXW := hid hxw; have HX := hid hx
  obtain ⟨R, hR⟩ : ∃ R, rest D p x = R := ⟨_, rfl⟩
  have HR0 := hid (show R = rest D (p.drop 0) x from hR ▸ rfl)
  rw [hR]
  obtain ⟨xa, xc, rfl⟩ := isWd_slice hx
  clear hR hmm hpcell hx hL hpw hxw
  go_enter Try.func76, Try.ntmps76
  go_wp2
  go_loopg [2, 9, 10, 13] m (fun k lv _ _ i wr => ∃ (j : Nat) (y : List Int), j ≤ m ∧ i = .int .i64 j ∧ k = m - j ∧ y.length ≤ 100 ∧ Hid (R = rest D (p.drop j) y) ∧ Hid (IsWd wr lv y) ∧ Hid (∀ z ∈ y, 0 ≤ z ∧ z < (N : Int)) ∧ Hid (Grew w wr))
  case atStart => exact ⟨0, x, by omega, rfl, rfl, hlen, HR0, HX, HXW, hid (grew_refl _)⟩
  case round =>
    obtain ⟨j, y, hj, rfl, hk, hy1, HR, HSG, HYW, HG⟩ := hrel
    have HK := hid hk; clear hk
    rename World => wr
    obtain ⟨la, lc, rfl⟩ := isWd_slice HSG.out
    by_cases hlt : j < m
    · obtain ⟨b, off, o, hva, hob, -, hcc⟩ := HPC.out j hlt
      subst hva
      have hbl := lt_of_obj hob
      have hjp : j < p.length := by rw [HM.out]; exact hlt
      have hpj : p[j]? = some (nth p j) := by rw [nth_lt hjp]; exact List.getElem?_eq_getElem _
      have hzz := HPW.out (nth p j) (by rw [nth_lt hjp]; exact List.getElem_mem _)
      replace hcc : _ = some (Value.int .i64 (nth p j)) := hcc
      have hrd := rest_drop (D := D) (y := y) hpj
      obtain ⟨a, ha⟩ : ∃ a, nth p j = a := ⟨_, rfl⟩
      rw [ha] at hcc hrd hzz
      rw [← HR.out] at hrd
      obtain ⟨a', rfl⟩ : ∃ a' : Nat, a = a' := ⟨a.toNat, by omega⟩
      have hg := HG.out
      have hcw := (hg.cell (p := ⟨b, off + j, none⟩) hbl).trans hcc
      have hbw := Nat.lt_of_lt_of_le hbl hg.size
      have hF := start_any B N a' _ y wr hN (by omega) HYW.out (HL.out.grew hg) HSG.out.ints
      cases hq : free D y a' with
      | none =>
        rw [hq] at hF hrd
        rw [show ix none = -1 from rfl] at hF
        have HF := hid hF
        have HRD := hid hrd
        clear hF hrd hq hob hpj hcc ha
        go_wp2_with (go_at_call 99; (with_reducible refine HF.out.mono ?_); rintro e w2 ⟨rfl, hx2⟩; have HX2 := hid hx2; clear hx2)
        go_ret2
        exact .inr ⟨HRD.out, rfl, grew_trans hg HX2.out⟩
      | some i =>
        obtain ⟨hil, -⟩ := free_lt hq
        rw [hq] at hF hrd
        rw [show ix (some i) = (i : Int) from rfl] at hF
        have HF := hid hF
        have HRD := hid hrd
        have hel : (y.eraseIdx i).length ≤ 100 := by rw [List.length_eraseIdx, if_pos hil]; omega
        have HEL := hid hel
        have HIL := hid hil
        have HY1 := hid hy1
        clear hF hrd hq hob hpj hcc ha hil hel hy1
        go_wp2_with (first
          | (go_at_call 99; (with_reducible refine HF.out.mono ?_); rintro e w2 ⟨rfl, hx2⟩; have HX2 := hid hx2; clear hx2)
          | (go_at_call 100; (with_reducible refine (without_any _ y i _ HIL.out HY1.out (HSG.out.grew HX2.out)).mono ?_); rintro e w3 ⟨v3, rfl, hs3, hx3⟩; have HS3 := hid hs3; have HX3 := hid hx3; clear hs3 hx3))
        go_roundg (m - (j + 1))
        case measure => have := HK.out; omega
        case rel => exact ⟨j + 1, y.eraseIdx i, by omega, by go_num, rfl, HEL.out, HRD, hid (IsWd.of_seg HS3.out), hid (fun z hz => HYW.out z (List.mem_of_mem_eraseIdx hz)), hid (grew_trans HG.out (grew_trans HX2.out HX3.out))⟩
    · obtain rfl : m = j := by omega
      have hre : R = some y := by rw [HR.out, List.drop_of_length_le (by rw [HM.out]; exact Nat.le_refl _)]; rfl
      have HRE := hid hre
      clear hre
      go_wp2
      go_ret2
      exact .inl ⟨y, HRE.out, _, rfl, HSG.out, HG.out⟩

/-- A list and an error. -/
def Gives (e : Ending) (w w' : World) (a : List Int × Int) : Prop := ∃ u, e = .returned (.tuple #[u, .int .i64 a.2]) ∧ IsWd w' u a.1 ∧ Grew w w'

/-- The first form, if there are not too many letters. -/
def formedM (D : Int → Int → Bool) (N : Nat) (x : List Int) : List Int × Int := if x.length ≤ 10 then (first D N x, 0) else ([], 4)

set_option maxHeartbeats 2000000 in
theorem formed_any {D : Int → Int → Bool} (B N : Nat) (wv : Value) (x : List Int) (w : World) (hN : N ≤ 6) (hxw : ∀ z ∈ x, 0 ≤ z ∧ z < (N : Int)) (hL : Loom w B D N) (hx : IsWd w wv x) :
    Calls Try.prog 72 #[.pointer (some ⟨B, 0, none⟩), wv] w fun e w' => Gives e w w' (formedM D N x) := by
  have HF := hid (fun (h : x.length ≤ 10) => first_any D B N x wv w hN hxw (by omega) hL hx)
  have hsm : x.length ≤ 9223372036854775807 := by obtain ⟨_, _, _, _, _, _, _, h, _⟩ := hx; exact h
  obtain ⟨xa, xc, rfl⟩ := isWd_slice hx
  obtain ⟨m, hm⟩ : ∃ m, x.length = m := ⟨_, rfl⟩
  unfold formedM
  rw [hm] at HF hsm ⊢
  clear hx hm
  by_cases h10 : m ≤ 10
  · have h10' : ¬ (10 : Int) < (m : Int) := by omega
    rw [if_pos h10]
    go_enter Try.func72, Try.ntmps72
    go_wp2_with (go_at_call 67; (with_reducible refine (HF.out h10).mono ?_); rintro e w1 ⟨u, rfl, hs, hg⟩; have HS := hid hs; have HG := hid hg; clear hs hg)
    go_ret2
    exact ⟨_, rfl, IsWd.of_seg HS.out, HG.out⟩
  · have h10' : (10 : Int) < (m : Int) := by omega
    rw [if_neg h10]
    go_enter Try.func72, Try.ntmps72
    go_wp2
    go_ret2
    exact ⟨_, rfl, wd_nil _, grew_refl _⟩

set_option maxHeartbeats 2000000 in
/-- limited, of the reference. -/
theorem limited_any (v : Value) (L : Lt) (N : Nat) (wv : Value) (x : List Int) (w : World) (hN : L.n = N) (hN6 : N ≤ 6) (hxw : ∀ z ∈ x, 0 ≤ z ∧ z < (N : Int)) (hv : IsLt w v L) (hx : IsWd w wv x) :
    Calls Try.prog 75 #[v, wv] w fun e w' => Gives e w w' (formedM (dep L) N x) := by
  have hsm : x.length ≤ 9223372036854775807 := by obtain ⟨_, _, _, _, _, _, _, h, _⟩ := hx; exact h
  have HF := hid (fun (h : x.length ≤ 10) (W : World) (hW : Grew w W) => rFirst_any v L wv x N W hN hN6 hxw (by omega) (hv.grew hW) (hx.grew hW))
  obtain ⟨s, rfl, -⟩ := hv
  rw [hN] at HF ⊢
  obtain ⟨W0, hW0, g0, k0, k1, hz⟩ := box2 w (.int .i64 (N : Int)) s 24
  obtain ⟨xa, xc, rfl⟩ := isWd_slice hx
  have hfl : (first (dep L) N x).length = x.length := ((alike_first (dep_comm L) hxw).length (dep_refl L)).symm
  obtain ⟨m, hm⟩ : ∃ m, x.length = m := ⟨_, rfl⟩
  unfold formedM
  rw [hm] at HF hsm hfl ⊢
  have HFL := hid hfl
  have hg := g0
  clear hx hm hfl hN
  by_cases h10 : m ≤ 10
  · have h10' : ¬ (10 : Int) < (m : Int) := by omega
    rw [if_pos h10]
    go_enter Try.func75, Try.ntmps75
    go_wp2_with (go_at_call 69; (with_reducible refine (HF.out h10 _ hg).mono ?_); rintro e w1 ⟨u, rfl, hs, hg⟩; have HS := hid hs; have HG := hid hg; clear hs hg)
    go_ret2
    refine ⟨_, rfl, ?_, grew_trans g0 HG.out⟩
    have h := HS.out
    rw [← HFL.out] at h
    exact IsWd.of_seg h
  · have h10' : (10 : Int) < (m : Int) := by omega
    rw [if_neg h10]
    go_enter Try.func75, Try.ntmps75
    go_wp2
    go_ret2
    exact ⟨_, rfl, wd_nil _, hg⟩

end Go.Proofs.Ytddnpooffcjhnaa
