/- Walk: top (31) of the statements; plain laws of the longest path. -/
import Derived.Test.YtojkohpniokaaaaPgRef5
import Derived.Test.YtojkohpniokaaaaPgOuts
import Derived.Test.YtojkohpniokaaaaPgLaw0
import Derived.Test.YtojkohpniokaaaaPgEitherP
namespace Go.Lin.Pg
theorem maxI_aux : ∀ (l : List Int) (a : Int), a ≤ l.foldl max a ∧ (∀ x ∈ l, x ≤ l.foldl max a) ∧ (l.foldl max a = a ∨ l.foldl max a ∈ l)
  | [], a => ⟨Int.le_refl _, (fun x hx => by cases hx), .inl rfl⟩
  | y :: l, a => by
    obtain ⟨h1, h2, h3⟩ := maxI_aux l (max a y)
    simp only [List.foldl_cons]
    refine ⟨by omega, fun x hx => ?_, ?_⟩
    · rcases List.mem_cons.1 hx with rfl | hx
      · omega
      · exact h2 x hx
    · rcases h3 with h3 | h3
      · rw [h3]
        rcases (show max a y = a ∨ max a y = y by omega) with h | h
        · exact .inl h
        · exact .inr (by rw [h]; simp)
      · exact .inr (List.mem_cons_of_mem _ h3)
theorem maxI_nonneg (l : List Int) : 0 ≤ maxI l := (maxI_aux l 0).1
theorem maxI_le {l : List Int} {x : Int} (h : x ∈ l) : x ≤ maxI l := (maxI_aux l 0).2.1 x h
theorem maxI_mem (l : List Int) : maxI l = 0 ∨ maxI l ∈ l := (maxI_aux l 0).2.2
theorem nth_le_maxI {l : List Int} (p : Nat) : nth l p ≤ maxI l := by
  by_cases h : p < l.length
  · rw [nth_lt h]; exact maxI_le (List.getElem_mem h)
  · have : nth l p = 0 := by unfold nth; simp [List.getD, List.getElem?_eq_none (show l.length ≤ p by omega)]
    rw [this]; exact maxI_nonneg l

/-- The ranks of places. -/
def ranksAt (r there : List Int) : List Int := there.map (fun p => nth r p.toNat)
theorem maxI_at {r there : List Int} (h : ∀ p, p < r.length → nth r p ≠ 0 → (p : Int) ∈ there) : maxI (ranksAt r there) = maxI r := by
  apply Int.le_antisymm
  · rcases maxI_mem (ranksAt r there) with h1 | h1
    · rw [h1]; exact maxI_nonneg r
    · unfold ranksAt at h1 ⊢
      obtain ⟨p, _, hp⟩ := List.mem_map.1 h1
      rw [← hp]; exact nth_le_maxI _
  · rcases maxI_mem r with h1 | h1
    · rw [h1]; exact maxI_nonneg _
    · obtain ⟨i, hi, he⟩ := List.getElem_of_mem h1
      by_cases h0 : maxI r = 0
      · rw [h0]; exact maxI_nonneg _
      · have hn : nth r i = maxI r := by rw [nth_lt hi]; exact he
        have := h i hi (by rw [hn]; exact h0)
        rw [← hn]
        refine maxI_le (List.mem_map.2 ⟨(i : Int), this, by simp⟩)

theorem nth_ranksAt {r there : List Int} {j : Nat} (hj : j < there.length) : nth (ranksAt r there) j = nth r (nth there j).toNat := by
  unfold ranksAt
  rw [nth_lt (by simpa using hj), nth_lt hj]
  simp

section
variable {ms : List Mv} {N : Nat} (h1 : 1 ≤ N) (h8 : N ≤ 8) (hN : InN N ms)
include h1 h8 hN
theorem ranks_off {c t : Int} {p : Nat} (h : nth (ranksM ms N c t) p ≠ 0) : (p : Int) ∈ reachedM ms N := by
  rw [mem_reachedM h1 h8 hN]
  cases hr : reachB ms (p : Int) with
  | false => exact absurd (own_off hN hr) h
  | true => exact (reachB_iff h1 h8 hN).1 hr

/-- A path from a place that is reached weighs at most the greatest rank. -/
theorem long_le {c t : Int} (hh : holdsB ms N c t = true) {path : List Int} {m0 : Mv} (hl : linksB ms path = true) (hne : path ≠ []) (h0 : mvI ms (nth path 0) = some m0) (hr : reachB ms (fr m0) = true) (hall : allI ms (wi c t) path = true) :
    ∃ u : List Nat, path = pInts u ∧ (wsum ms (wt c t) u : Int) ≤ maxI (ranksM ms N c t) := by
  have hms : ∀ m ∈ ms, 0 ≤ tg m := fun m hm => (hN m hm).2.1
  have hf0 : 0 ≤ fr m0 := by
    unfold mvI at h0
    split at h0
    · exact (hN m0 (List.mem_of_getElem? h0)).1.1
    · cases h0
  have hp : pathI ms (fr m0) path = some (endI ms (fr m0) path) := by
    rw [pathI_eq hms, hl, begins_of hne hf0 h0]; simp
  obtain ⟨u, rfl, hu⟩ := pathI_goG path hf0 hms hp
  refine ⟨u, rfl, ?_⟩
  have := path_rank h1 h8 hN hh hr (goG_all u hu hall)
  exact Int.le_trans this (nth_le_maxI _)
end

/-- How many of the first j moves are of a thread. -/
def ownN (ms : List Mv) (t : Int) (l : List Int) : Nat := l.countP (fun i => testI ms (fun m => th m == t) i)
theorem ownN_take {ms : List Mv} {t : Int} {l : List Int} {j : Nat} (hj : j < l.length) : ownN ms t (l.take (j + 1)) = ownN ms t (l.take j) + if testI ms (fun m => th m == t) (nth l j) then 1 else 0 := by
  unfold ownN
  rw [take_succ_nth hj, List.countP_append]
  congr 1
  rw [List.countP_cons, List.countP_nil]
  simp
theorem wsum_own {ms : List Mv} {t : Int} : ∀ u : List Nat, wsum ms (wt 1 t) u = ownN ms t (pInts u)
  | [] => rfl
  | i :: u => by
    have ih := wsum_own (ms := ms) (t := t) u
    show (match ms[i]? with | some m => wt 1 t m | none => 0) + wsum ms (wt 1 t) u = ownN ms t ((i : Int) :: pInts u)
    unfold ownN
    rw [List.countP_cons, ih]
    have he : testI ms (fun m => th m == t) (i : Int) = match ms[i]? with | some m => th m == t | none => false := by unfold testI; rw [mvI_nat]; rfl
    rw [he]
    unfold ownN
    cases ms[i]? with
    | none => simp
    | some m =>
      simp only [wt, mu, if_true]
      by_cases hx : (th m == t) = true
      · rw [if_pos hx]; omega
      · rw [if_neg hx]; omega
theorem wsum_len {ms : List Mv} {t : Int} : ∀ u : List Nat, (∀ i ∈ u, (ms[i]?).isSome = true) → wsum ms (wt 0 t) u = u.length
  | [], _ => rfl
  | i :: u, h => by
    have ih := wsum_len (ms := ms) (t := t) u (fun j hj => h j (by simp [hj]))
    obtain ⟨m, hm⟩ := Option.isSome_iff_exists.1 (h i (by simp))
    simp only [wsum, hm, ih, List.length_cons]
    simp [wt, mu]
    omega
end Go.Lin.Pg
namespace Go.Proofs.Ytojkohpniokaaaa
open Go Go.RowKit Go.Lin Go.Lin.Pg

theorem top31_no (ra ta : Option Addr) (rc tn tc : Nat) (e : Int) (w : World) (he : e ≠ 0) :
    Calls Try.prog 31 #[.slice ra 0 rc, .slice ta tn tc, .int .i64 0, .int .i64 e] w fun e w' => e = .returned (.bool true) ∧ Grew w w' := by
  have h1 : (e == 0) = false := by simpa using he
  have h2 : (e != 0) = true := by simpa using he
  have hg := grew_refl w
  go_enter Try.func31, Try.ntmps31
  go_wp2
  go_ret
  exact ⟨rfl, hg⟩

set_option maxHeartbeats 2000000 in
theorem top31_yes (rv tv : Value) (r there : List Int) (w : World) (hr : IsInts Any w rv r) (ht : IsInts Any w tv there) (hin : ∀ j, j < there.length → ∃ p : Nat, nth there j = (p : Int) ∧ p < r.length) (hall : maxI (ranksAt r there) = maxI r) :
    Calls Try.prog 31 #[rv, tv, .int .i64 (maxI r), .int .i64 0] w fun e w' => e = .returned (.bool true) ∧ Grew w w' := by
  obtain ⟨n, hn⟩ : ∃ n, r.length = n := ⟨_, rfl⟩
  obtain ⟨k, hk⟩ : ∃ k, there.length = k := ⟨_, rfl⟩
  obtain ⟨ra, rc, rfl, hrm, hrc⟩ := hr
  obtain ⟨ta, tc, rfl, htm, htc⟩ := ht
  rw [hn] at hrm hrc hin ⊢
  rw [hk] at htm htc hin ⊢
  have HRC := hid hrc; have HTC := hid htc; have HIN := hid hin; have HN := hid hn; have HK := hid hk; have HALL := hid hall
  obtain ⟨mx, hmx⟩ : ∃ mx, maxI r = mx := ⟨_, rfl⟩
  have HMX := hid hmx
  rw [hmx]
  clear hrc htc hin hn hk hall hmx
  go_enter Try.func31, Try.ntmps31
  go_wp2
  go_loopg [9, 11, 23] k (fun q gx _ i wr => ∃ j : Nat, j ≤ k ∧ i = .int .i64 (j : Int) ∧ gx = .int .i64 (maxI ((ranksAt r there).take j)) ∧ Hid (q = k - j) ∧ wr = w)
  case atStart => exact ⟨0, Nat.zero_le _, rfl, rfl, hid rfl, rfl⟩
  case round =>
    obtain ⟨j, hj, rfl, rfl, HQ, rfl⟩ := hrel
    rename World => wr
    have hg := grew_refl wr
    obtain ⟨gx, hgx⟩ : ∃ gx, maxI ((ranksAt r there).take j) = gx := ⟨_, rfl⟩
    have HGX := hid hgx
    rw [hgx]
    clear hgx
    by_cases hlt : j < k
    · obtain ⟨p, hp, hpn⟩ := HIN.out j hlt
      obtain ⟨b, off, o, rfl, hb, _, hcj⟩ := HTC.out j hlt
      simp only [hp] at hcj
      have hbl := lt_of_obj hb
      obtain ⟨rb, roff, ro, rfl, hrb, _, hrj⟩ := HRC.out p hpn
      have hrbl := lt_of_obj hrb
      have hs := maxI_take (l := ranksAt r there) (j := j) (by unfold ranksAt; rw [List.length_map, HK.out]; exact hlt)
      rw [HGX.out, nth_ranksAt (by rw [HK.out]; exact hlt), hp, Int.toNat_natCast] at hs
      obtain ⟨y, hy⟩ : ∃ y, nth r p = y := ⟨_, rfl⟩
      rw [hy] at hs
      simp only [hy] at hrj
      have HS := hid hs
      have HLT := hid hlt
      have hltI : (j : Int) < (k : Int) := by omega
      have hpI : (p : Int) < (n : Int) := by omega
      have hp0 : ¬ ((p : Int) < 0) := by omega
      have hd0 : decide ((p : Int) < 0) = false := decide_eq_false hp0
      have hpg : ¬ ((p : Int) ≥ (n : Int)) := by omega
      have hdg : decide ((p : Int) ≥ (n : Int)) = false := decide_eq_false hpg
      have hdh : decide (n ≤ p) = false := decide_eq_false (by omega)
      clear hb hrb hs hy hp
      go_wp2
      go_roundg (k - (j + 1))
      case measure => have := HQ.out; have := HLT.out; omega
      case rel => exact ⟨j + 1, by have := HLT.out; omega, by go_num, by rw [HS.out], hid rfl, rfl⟩
    · obtain rfl : j = k := by omega
      have hx := HGX.out
      rw [List.take_of_length_le (by unfold ranksAt; rw [List.length_map, HK.out]; exact Nat.le_refl _), HALL.out, HMX.out] at hx
      subst hx
      have hd : (mx == mx) = true := by simp
      go_wp2
      go_ret
      exact ⟨rfl, hg⟩
end Go.Proofs.Ytojkohpniokaaaa
