/- Walks: comparing, and the raw checks of a specification, of the reference of layer 1. -/
import Derived.Test.YtnebpcpihldllaaWRefA
import Derived.Test.YtnebpcpihldllaaT2
namespace Go.Proofs.Ytnebpcpihldllaa
open Go.RowKit Go.Lin

set_option maxHeartbeats 400000 in
theorem sameInts_any (v u : Value) (xs ys : List Int) (w : World) (hx : IsInts Any w v xs) (hy : IsInts Any w u ys) :
    Calls Try.prog 25 #[v, u] w fun e w' => e = .returned (.bool (sameL xs ys)) ∧ Grew w w' := by
  obtain ⟨a, cap, rfl, hm, hc⟩ := hx
  obtain ⟨a2, cap2, rfl, hm2, hc2⟩ := hy
  have HC := hid hc; clear hc
  have HC2 := hid hc2; clear hc2
  by_cases hl : xs.length = ys.length
  · have hne : ((xs.length : Int) != (ys.length : Int)) = false := by simp [hl]
    have HL := hid hl; clear hl
    go_enter Try.func25, Try.ntmps25
    go_wp2
    go_loopg [5, 13] (xs.length) (fun g _ i wr => ∃ k : Nat, k ≤ xs.length ∧ i = .int .i64 k ∧ g = xs.length - k ∧ Hid (∀ t, t < k → nth xs t = nth ys t) ∧ ∃ q, wr = w.drewN q)
    case atStart => exact ⟨0, Nat.zero_le _, rfl, rfl, hid (fun t ht => by omega), 0, rfl⟩
    case round =>
      obtain ⟨k, hk, rfl, hg, HT, q, rfl⟩ := hrel
      have HG := hid hg; clear hg
      by_cases hlt : k < xs.length
      · obtain ⟨b, off, o, rfl, hb, _, hcx⟩ := HC.out k hlt
        obtain ⟨b2, off2, o2, rfl, hb2, _, hcy⟩ := HC2.out k (by have := HL.out; omega)
        have hlt2 : k < ys.length := by have := HL.out; omega
        clear hb hb2
        by_cases he : nth xs k = nth ys k
        · have hb : (nth xs k != nth ys k) = false := by simp [he]
          have HE := hid he; clear he
          go_wp2
          go_quiet (fail)
          go_wp2
          go_roundg (xs.length - (k + 1))
          case measure => have := HG.out; omega
          case rel => exact ⟨k + 1, by omega, by go_num, rfl, hid (lt_succ_all HT.out HE.out), _, rfl⟩
        · have hb : (nth xs k != nth ys k) = true := by simpa using he
          have HE := hid he; clear he
          go_wp2
          go_quiet (fail)
          go_wp2
          go_ret
          exact ⟨ret_bool (sameL_ne HE.out).symm, (by repeat' (first | exact grew_refl _ | assumption | refine grew_alloc ?_ _ | refine Below.setCell ?_ (by (try simp); omega) _ | refine grew_drewN ?_ _ | refine grew_drew ?_ | refine grew_trans ?_ (by assumption)))⟩
      · obtain rfl : k = xs.length := by omega
        go_wp2
        go_ret
        exact ⟨ret_bool (sameL_eq HL.out HT.out).symm, (by repeat' (first | exact grew_refl _ | assumption | refine grew_alloc ?_ _ | refine Below.setCell ?_ (by (try simp); omega) _ | refine grew_drewN ?_ _ | refine grew_drew ?_ | refine grew_trans ?_ (by assumption)))⟩
  · have HL := hid hl
    go_enter Try.func25, Try.ntmps25
    go_wp2
    go_ret
    exact ⟨ret_bool (sameL_len HL.out).symm, (by repeat' (first | exact grew_refl _ | assumption | refine grew_alloc ?_ _ | refine Below.setCell ?_ (by (try simp); omega) _ | refine grew_drewN ?_ _ | refine grew_drew ?_ | refine grew_trans ?_ (by assumption)))⟩

set_option maxHeartbeats 400000 in
theorem sameLists_any (v u : Value) (xs ys : List (List Int)) (w : World) (hx : IsRows Any w v xs) (hy : IsRows Any w u ys) :
    Calls Try.prog 63 #[v, u] w fun e w' => e = .returned (.bool (sameLL xs ys)) ∧ Grew w w' := by
  obtain ⟨V, ⟨a, cap, rfl, hm, hc⟩, hr⟩ := hx
  obtain ⟨V2, ⟨a2, cap2, rfl, hm2, hc2⟩, hr2⟩ := hy
  have HC := hid hc; clear hc
  have HC2 := hid hc2; clear hc2
  have HR := hid hr; clear hr
  have HR2 := hid hr2; clear hr2
  by_cases hl : xs.length = ys.length
  · have hne : ((xs.length : Int) != (ys.length : Int)) = false := by simp [hl]
    have HL := hid hl; clear hl
    go_enter Try.func63, Try.ntmps63
    go_wp2
    go_loopg [5, 13] (xs.length) (fun g _ i wr => ∃ k : Nat, k ≤ xs.length ∧ i = .int .i64 k ∧ g = xs.length - k ∧ Hid (∀ t, t < k → sameL (nthL xs t) (nthL ys t) = true) ∧ Grew w wr)
    case atStart => exact ⟨0, Nat.zero_le _, rfl, rfl, hid (fun t ht => by omega), grew_refl _⟩
    case round =>
      obtain ⟨k, hk, rfl, hg, HT, hgr⟩ := hrel
      have HG := hid hg; clear hg
      by_cases hlt : k < xs.length
      · have hlt2 : k < ys.length := by have := HL.out; omega
        obtain ⟨b, off, o, rfl, hb, _, hcx⟩ := HC.out k hlt
        obtain ⟨b2, off2, o2, rfl, hb2, _, hcy⟩ := HC2.out k hlt2
        have hbl := lt_of_obj hb
        have hbl2 := lt_of_obj hb2
        clear hb hb2
        have hcx' := (hgr.cell (p := ⟨b, off + k, none⟩) hbl).trans hcx
        have hcy' := (hgr.cell (p := ⟨b2, off2 + k, none⟩) hbl2).trans hcy
        have HX := (HR.out k hlt).grew hgr
        have HY := (HR2.out k hlt2).grew hgr
        have hsz := hgr.size
        by_cases he : sameL (nthL xs k) (nthL ys k) = true
        · go_wp2
          refine wp_region_later (by kernel_rfl) (by kernel_rfl) (fun hx => ?_)
          have hbl' : b < wr.heap.size := by omega
          have hbl2' : b2 < wr.heap.size := by omega
          repeat (go_big_quiet_step ((go_at_call 25; exact calls_later (sameInts_any _ _ _ _ _ (HX.grew (Subtype.property _)) (HY.grew (Subtype.property _))))))
          refine wpQuiet_nil ?_
          rintro _ ⟨x, rfl⟩
          have hgx := grew_trans hgr x.2
          go_wp2
          go_roundg (xs.length - (k + 1))
          case measure => have := HG.out; omega
          case rel => exact ⟨k + 1, by omega, by go_num, rfl, hid (lt_succ_all HT.out he), hgx⟩
        · have he' : sameL (nthL xs k) (nthL ys k) = false := by simpa using he
          go_wp2
          refine wp_region_later (by kernel_rfl) (by kernel_rfl) (fun hx => ?_)
          have hbl' : b < wr.heap.size := by omega
          have hbl2' : b2 < wr.heap.size := by omega
          repeat (go_big_quiet_step ((go_at_call 25; exact calls_later (sameInts_any _ _ _ _ _ (HX.grew (Subtype.property _)) (HY.grew (Subtype.property _))))))
          refine wpQuiet_nil ?_
          rintro _ ⟨x, rfl⟩
          have hgx := grew_trans hgr x.2
          go_wp2
          go_ret
          exact ⟨ret_bool (sameLL_ne he').symm, hgx⟩
      · obtain rfl : k = xs.length := by omega
        go_wp2
        go_ret
        exact ⟨ret_bool (sameLL_eq HL.out HT.out).symm, (by repeat' (first | exact grew_refl _ | assumption | refine grew_alloc ?_ _ | refine Below.setCell ?_ (by (try simp); omega) _ | refine grew_drewN ?_ _ | refine grew_drew ?_ | refine grew_trans ?_ (by assumption)))⟩
  · have HL := hid hl
    go_enter Try.func63, Try.ntmps63
    go_wp2
    go_ret
    exact ⟨ret_bool (sameLL_len HL.out).symm, (by repeat' (first | exact grew_refl _ | assumption | refine grew_alloc ?_ _ | refine Below.setCell ?_ (by (try simp); omega) _ | refine grew_drewN ?_ _ | refine grew_drew ?_ | refine grew_trans ?_ (by assumption)))⟩

set_option maxHeartbeats 400000 in
theorem exchanged_any (n other : Int) (w : World) :
    Calls Try.prog 62 #[.int .i64 n, .int .i64 other] w fun e w' => e = .returned (.int .i64 (exchM n other)) ∧ w = w' := by
  by_cases h0 : n = 0
  · subst h0
    go_enter Try.func62, Try.ntmps62
    go_wp2
    all_goals (go_ret; exact ⟨ret_int (by simp [exchM]), rfl⟩)
  · have h0' : (n == 0) = false := by simpa using h0
    by_cases h1 : n = other
    · have h1' : (n == other) = true := by simpa using h1
      have H1 := hid h1; have H0 := hid h0; clear h1 h0
      go_enter Try.func62, Try.ntmps62
      go_wp2
      go_ret
      exact ⟨ret_int (by unfold exchM; rw [if_neg H0.out, if_pos H1.out]), rfl⟩
    · have h1' : (n == other) = false := by simpa using h1
      have H1 := hid h1; have H0 := hid h0; clear h1 h0
      go_enter Try.func62, Try.ntmps62
      go_wp2
      go_ret
      exact ⟨ret_int (by unfold exchM; rw [if_neg H0.out, if_neg H1.out]), rfl⟩

set_option maxHeartbeats 1000000 in
theorem refValid_any (s : RSpec) (sv : Value) (w : World) (hs : IsSpec w sv s) :
    Calls Try.prog 33 #[sv] w fun e w' => e = .returned (.bool (validM s)) ∧ Grew w w' := by
  have HS := hs
  obtain ⟨nv, yv, rfl, hn, hy⟩ := hs
  obtain ⟨W0, hW0, g0, k0, k1, k2, k3, hz⟩ := box4 w (.int .i64 s.st) (.int .i64 s.ops) nv yv 24
  go_enter Try.func33, Try.ntmps33
  have hg := grew_refl W0
  go_wp2_with (first | (go_at_call 82; with_reducible refine (isTable_any s _ nv s.next s.st _ (HS.grew (by exact grew_trans g0 hg)) (hn.grew (by exact grew_trans g0 hg))).mono ?_; rintro e w1 ⟨rfl, hx⟩; replace hg := grew_trans hg hx; have hc := (bcell hg).1) | (go_at_call 82; with_reducible refine (isTable_any s _ yv s.says 6 _ (HS.grew (by exact grew_trans g0 hg)) (hy.grew (by exact grew_trans g0 hg))).mono ?_; rintro e w1 ⟨rfl, hx⟩; replace hg := grew_trans hg hx; have hc := (bcell hg).1))
  all_goals (go_ret; refine ⟨ret_bool ?_, (by repeat' (first | exact grew_refl _ | assumption | refine grew_alloc ?_ _ | refine Below.setCell ?_ (by (try simp); omega) _ | refine grew_drewN ?_ _ | refine grew_drew ?_ | refine grew_trans ?_ (by assumption)))⟩; unfold validM; rw [Bool.eq_iff_iff]; simp; try first | omega | grind)
end Go.Proofs.Ytnebpcpihldllaa
