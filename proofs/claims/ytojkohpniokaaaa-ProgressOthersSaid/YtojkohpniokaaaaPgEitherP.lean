/- Plain laws of either; walk: asked (36) of the statements. -/
import Derived.Test.YtojkohpniokaaaaPgRef5
import Derived.Test.YtojkohpniokaaaaPgLaw0
namespace Go.Lin.Pg
theorem prove_says {g : Gr} {c t e : Int} {r : List Int} (h : proveA g c t r = (true, e)) : hol g c t = true ∧ (r.length : Int) = g.n ∧ ∀ p, p < g.N → nth (ranksM g.ms g.N c t) p ≤ nth r p := by
  unfold proveA at h
  by_cases ha : askM g c t = 0
  · rw [if_pos ha] at h
    have hG := gOk_valid (ask_valid ha).1
    by_cases hc : (r.length : Int) = g.n ∧ smallR r = true
    · rw [if_pos hc] at h
      simp only [Prod.mk.injEq] at h
      exact ⟨holds_of_proves hG.h1 hG.inN h.1, hc.1, fun p hp => own_least hG.inN h.1 (fun q => (small_nth hc.2 q).1) hp⟩
    · rw [if_neg hc] at h; simp at h
  · rw [if_neg ha] at h; simp at h

theorem prove_err {g : Gr} {c t : Int} (ha : askM g c t = 0) (r : List Int) : (proveA g c t r).2 = 0 ∨ (proveA g c t r).2 = 2 := by
  unfold proveA
  rw [if_pos ha]
  split
  · exact .inl rfl
  · exact .inr rfl

theorem own_prove {g : Gr} {c t : Int} (ha : askM g c t = 0) (h : hol g c t = true) : proveA g c t (ranksM g.ms g.N c t) = (true, 0) := by
  have hG := gOk_valid (ask_valid ha).1
  unfold proveA
  rw [if_pos ha, if_pos, own_proves h]
  refine ⟨?_, small_all (fun j hj => ?_)⟩
  · rw [show (ranksM g.ms g.N c t).length = g.N by unfold ranksM; exact rounds_length _]; exact hG.n.symm
  · have h1 := own_nonneg (c := c) (t := t) hG.inN j
    have h2 := own_small hG.h1 hG.inN h j
    have h8 := hG.h8
    omega

theorem refute_says {g : Gr} {c t : Int} (ha : askM g c t = 0) {path circ : List Int} (h : refutesB g.ms c t path circ = true) : hol g c t = false := by
  have hG := gOk_valid (ask_valid ha).1
  obtain ⟨u, v, rfl, rfl, hl⟩ := lasso_of_refutes hG.h1 hG.inN h
  exact Bool.eq_false_iff.2 (fun hb => (holds_lasso hG.h1 hG.h8 hG.inN).1 hb u v hl)

theorem refute_ok {g : Gr} {c t : Int} (ha : askM g c t = 0) (path circ : List Int) : refuteA g c t path circ = (refutesB g.ms c t path circ, 0) := by unfold refuteA; rw [if_pos ha]
theorem holds_ok {g : Gr} {c t : Int} (ha : askM g c t = 0) : holdsA g c t = (hol g c t, 0) := by unfold holdsA; rw [if_pos ha]
theorem ranks_ok {g : Gr} {c t : Int} (ha : askM g c t = 0) (h : hol g c t = true) : ranksA g c t = (ranksM g.ms g.N c t, 0) := by unfold ranksA; rw [if_pos ha, if_pos h]
theorem ranks_no {g : Gr} {c t : Int} (ha : askM g c t = 0) (h : hol g c t = false) : ranksA g c t = ([], 5) := by unfold ranksA; rw [if_pos ha, if_neg (by rw [h]; simp)]
end Go.Lin.Pg
namespace Go.Proofs.Ytojkohpniokaaaa
open Go Go.RowKit Go.Lin Go.Lin.Pg

/-- Lasso of a claim that holds, and of one that does not. -/
theorem lasso_yes {v : Value} {g : Gr} {c t : Int} {w : World} (hn : -9223372036854775808 ≤ g.n ∧ g.n ≤ 9223372036854775807) (hv : IsGr w v g) (ha : askM g c t = 0) (h : hol g c t = true) :
    Calls Try.prog 19 #[v, .int .i64 c, .int .i64 t] w fun e w' => e = .returned (.tuple #[.slice none 0 0, .slice none 0 0, .int .i64 5]) ∧ Grew w w' :=
  (lasso19_any v g c t w hn hv).mono (by
    rintro e w' ⟨h1, ⟨h2, _⟩ | ⟨_, _, h3⟩ | ⟨_, h3, _⟩⟩
    · exact absurd ha h2
    · exact ⟨h3, h1⟩
    · rw [h] at h3; cases h3)

theorem lasso_no {v : Value} {g : Gr} {c t : Int} {w : World} (hn : -9223372036854775808 ≤ g.n ∧ g.n ≤ 9223372036854775807) (hv : IsGr w v g) (ha : askM g c t = 0) (h : hol g c t = false) :
    Calls Try.prog 19 #[v, .int .i64 c, .int .i64 t] w fun e w' => ∃ a1 n1 k1 a2 n2 k2 path circ, e = .returned (.tuple #[.slice a1 n1 k1, .slice a2 n2 k2, .int .i64 0]) ∧ Grew w w' ∧ Hid (refuteA g c t path circ = (true, 0)) ∧ Hid (IsWd w' (.slice a1 n1 k1) path) ∧ Hid (IsWd w' (.slice a2 n2 k2) circ) :=
  (lasso19_any v g c t w hn hv).mono (by
    rintro e w' ⟨h1, ⟨h2, _⟩ | ⟨_, h3, _⟩ | ⟨_, _, u, v, path, circ, rfl, h4, h5, h6, h7, h8⟩⟩
    · exact absurd ha h2
    · rw [h] at h3; cases h3
    · obtain ⟨a1, k1, rfl⟩ := isWd_slice h7
      obtain ⟨a2, k2, rfl⟩ := isWd_slice h8
      refine ⟨a1, _, k1, a2, _, k2, pInts path, pInts circ, rfl, h1, hid ?_, hid h7, hid h8⟩
      rw [refute_ok ha, refutes_of_lasso h4 (by omega) (by omega)])

theorem asked36_any (c t : Int) (w : World) (hc : 0 ≤ c ∧ c ≤ 255) (ht : 0 ≤ t ∧ t ≤ 255) : Calls Try.prog 36 #[.int .u8 c, .int .u8 t] w fun e w' => e = .returned (.tuple #[.int .i64 (askC c), .int .i64 (askT c t)]) ∧ Grew w w' := by
  have hg := grew_refl w
  have h1 : IntKind.i64.wrap c = c := IntWalk.i64_in _ (by omega)
  have h2 : IntKind.i64.wrap t = t := IntWalk.i64_in _ (by omega)
  have h3 : IntKind.i64.wrap (c.tmod 3) = c % 3 := by
    have : c.tmod 3 = c % 3 := Int.tmod_eq_emod_of_nonneg hc.1
    rw [this]; exact IntWalk.i64_in _ (by omega)
  have h4 : IntKind.i64.wrap (t.tmod 3) = t % 3 := by
    have : t.tmod 3 = t % 3 := Int.tmod_eq_emod_of_nonneg ht.1
    rw [this]; exact IntWalk.i64_in _ (by omega)
  by_cases h0 : c % 3 = 0
  · have hr : askC c = 0 ∧ askT c t = 0 := ⟨h0, by unfold askT; rw [if_pos h0]⟩
    rw [hr.1, hr.2]
    go_enter Try.func36, Try.ntmps36
    go_wp2
    go_ret2
    exact ⟨rfl, hg⟩
  · have hr : askC c = c % 3 ∧ askT c t = t % 3 := ⟨rfl, by unfold askT; rw [if_neg h0]⟩
    rw [hr.1, hr.2]
    have h5 : (c % 3 == 0) = false := by simpa using h0
    go_enter Try.func36, Try.ntmps36
    go_wp2
    go_ret2
    exact ⟨rfl, hg⟩
end Go.Proofs.Ytojkohpniokaaaa
