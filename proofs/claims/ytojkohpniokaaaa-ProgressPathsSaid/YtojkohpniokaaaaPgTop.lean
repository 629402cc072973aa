/- Walks: Holds (20), Ranks (18), Lasso (19) of the program. -/
import Derived.Test.YtojkohpniokaaaaPgRanks
namespace Go.Lin.Pg
def Gr.N (g : Gr) : Nat := g.n.toNat

theorem gOk_valid {g : Gr} (h : valid g = true) : GOk g g.N := by
  obtain ⟨N, hN⟩ := gOk_of_valid h
  have : g.N = N := by unfold Gr.N; rw [hN.n]; rfl
  rw [this]; exact hN

theorem ask_valid {g : Gr} {c t : Int} (h : askM g c t = 0) : valid g = true ∧ clOk c t = true := by
  unfold askM at h
  cases h1 : valid g with
  | false => rw [h1] at h; cases h
  | true =>
    cases h2 : clOk c t with
    | false => rw [h1, h2] at h; cases h
    | true => exact ⟨rfl, rfl⟩

/-- Whether a claim holds. -/
def hol (g : Gr) (c t : Int) : Bool := holdsB g.ms g.N c t
def holdsA (g : Gr) (c t : Int) : Bool × Int := if askM g c t = 0 then (hol g c t, 0) else (false, askM g c t)
def ranksA (g : Gr) (c t : Int) : List Int × Int := if askM g c t = 0 then (if hol g c t then (ranksM g.ms g.N c t, 0) else ([], 5)) else ([], askM g c t)
end Go.Lin.Pg
namespace Go.Proofs.Ytojkohpniokaaaa
open Go Go.RowKit Go.Lin Go.Lin.Pg
attribute [local go_sem] run_store_func run_store_nilFunc

theorem asked_bad {v : Value} {g : Gr} {c t : Int} {w : World} (hn : -9223372036854775808 ≤ g.n ∧ g.n ≤ 9223372036854775807) (hv : IsGr w v g) (ha : askM g c t ≠ 0) :
    Calls Try.prog 58 #[v, .int .i64 c, .int .i64 t] w fun e w' => e = .returned (.tuple #[.agg #[.nilFunc, .nilFunc], .int .i64 (askM g c t)]) ∧ Grew w w' :=
  (asked58_any v g c t w hn hv).mono fun e w' ⟨h1, h2⟩ => by
    rcases h2 with ⟨h, _⟩ | ⟨_, h⟩
    · exact absurd h ha
    · exact ⟨h, h1⟩

theorem asked_ok {v : Value} {g : Gr} {c t : Int} {w : World} (hn : -9223372036854775808 ≤ g.n ∧ g.n ≤ 9223372036854775807) (hv : IsGr w v g) (ha : askM g c t = 0) :
    Calls Try.prog 58 #[v, .int .i64 c, .int .i64 t] w fun e w' => ∃ f1 c1 f2 c2, e = .returned (.tuple #[.agg #[.func (.func f1) #[] c1, .func (.func f2) #[] c2], .int .i64 0]) ∧ Grew w w' ∧ IsFn w' (.func (.func f1) #[] c1) (wi c t) ∧ IsFn w' (.func (.func f2) #[] c2) (mu c t) :=
  (asked58_any v g c t w hn hv).mono fun e w' ⟨h1, h2⟩ => by
    rcases h2 with ⟨_, f1, c1, f2, c2, h, h3, h4⟩ | ⟨h, _⟩
    · exact ⟨f1, c1, f2, c2, h, h1, h3, h4⟩
    · exact absurd ha h

/-- What lasso answers of a claim's functions. -/
theorem lasso_says (g : Gr) (hv : valid g = true) (c t : Int) (gv f1v f2v : Value) (w : World) (hg : IsGr w gv g) (hf1 : IsFn w f1v (wi c t)) (hf2 : IsFn w f2v (mu c t)) :
    Calls Try.prog 60 #[.agg #[f1v, f2v], gv] w fun e w' => ∃ u v, e = .returned (.tuple #[u, v, .bool (!hol g c t)]) ∧ Grew w w' ∧
      ((hol g c t = false ∧ ∃ path circ, IsLasso g.ms (wi c t) (mu c t) path circ ∧ path.length < 8 ∧ circ.length < 9 ∧ IsWd w' u (pInts path) ∧ IsWd w' v (pInts circ)) ∨ (hol g c t = true ∧ u = .slice none 0 0 ∧ v = .slice none 0 0)) :=
  (lasso60_any g g.N (gOk_valid hv) gv f1v f2v (wi c t) (mu c t) w hg hf1 hf2).mono fun e w' ⟨u, v, r, h1, h2, h3⟩ => by
    have hG := gOk_valid hv
    rcases h3 with ⟨rfl, path, circ, hl, h4⟩ | ⟨rfl, rfl, rfl, hl⟩
    · have : hol g c t = false := Bool.eq_false_iff.2 (fun hb => (holds_lasso hG.h1 hG.h8 hG.inN).1 hb path circ hl)
      rw [this]
      exact ⟨u, v, h1, h2, .inl ⟨rfl, path, circ, hl, h4⟩⟩
    · have : hol g c t = true := (holds_lasso hG.h1 hG.h8 hG.inN).2 hl
      rw [this]
      exact ⟨_, _, h1, h2, .inr ⟨rfl, rfl, rfl⟩⟩

set_option maxHeartbeats 4000000 in
set_option maxRecDepth 20000 in
theorem holds20_any (v : Value) (g : Gr) (c t : Int) (w : World) (hn : -9223372036854775808 ≤ g.n ∧ g.n ≤ 9223372036854775807) (hv : IsGr w v g) :
    Calls Try.prog 20 #[v, .int .i64 c, .int .i64 t] w fun e w' => e = .returned (.tuple #[.bool (holdsA g c t).1, .int .i64 (holdsA g c t).2]) ∧ Grew w w' := by
  have HV := hid hv
  obtain ⟨s, rfl, -⟩ := hv
  obtain ⟨W0, hW0, g0, k0, k1, hz⟩ := box2 w (.int .i64 g.n) s 24
  have HG0 := hid g0
  by_cases ha : askM g c t = 0
  · have hval := (ask_valid ha).1
    have he : holdsA g c t = (hol g c t, 0) := by unfold holdsA; rw [if_pos ha]
    rw [he]
    simp only
    have HASK := hid (asked_ok hn (HV.out.grew g0) ha)
    obtain ⟨h, hh⟩ : ∃ h, hol g c t = h := ⟨_, rfl⟩
    have HLS := hid (fun gv f1v f2v w => lasso_says g hval c t gv f1v f2v w)
    rw [hh] at HLS ⊢
    clear he ha hh hval
    go_enter Try.func20, Try.ntmps20
    go_wp2_with (first
      | (go_at_call 58; (with_reducible refine HASK.out.mono ?_); rintro e w1 ⟨f1, c1, f2, c2, rfl, hx, hi1, hi2⟩; have HX := hid hx; obtain ⟨W2, hW2, g2, e0, e1, hz2⟩ := box2 w1 (.func (.func f1) #[] c1) (.func (.func f2) #[] c2) 72; have x0 := ((grew_trans hx g2).cell (p := ⟨w.heap.size, 0, none⟩) hz).trans k0; have x1 := ((grew_trans hx g2).cell (p := ⟨w.heap.size, 1, none⟩) hz).trans k1; have HG2 := hid (grew_trans HG0.out (grew_trans hx g2)); have hl := HLS.out _ _ _ W2 (HV.out.grew HG2.out) (hi1.grew g2) (hi2.grew g2); have HL := hid hl; clear hl hx hi1 hi2)
      | (go_at_call 60; (with_reducible refine HL.out.mono ?_); rintro e w3 ⟨u, v, rfl, hy, _⟩))
    go_ret2
    exact ⟨by simp, grew_trans HG2.out hy⟩
  · have he : holdsA g c t = (false, askM g c t) := by unfold holdsA; rw [if_neg ha]
    rw [he]
    simp only
    have HASK := hid (asked_bad hn (HV.out.grew g0) ha)
    obtain ⟨r, hr⟩ : ∃ r, askM g c t = r := ⟨_, rfl⟩
    rw [hr] at HASK ha ⊢
    clear he hr
    go_enter Try.func20, Try.ntmps20
    go_wp2_with (go_at_call 58; (with_reducible refine HASK.out.mono ?_); rintro e w1 ⟨rfl, hx⟩)
    go_ret2
    exact ⟨rfl, grew_alloc (grew_trans g0 hx) _⟩
/-- What the program's Lasso answers. -/
def LassoE (g : Gr) (c t : Int) (w : World) (e : Ending) (w' : World) : Prop := Grew w w' ∧
  ((askM g c t ≠ 0 ∧ e = .returned (.tuple #[.slice none 0 0, .slice none 0 0, .int .i64 (askM g c t)])) ∨
    (askM g c t = 0 ∧ hol g c t = true ∧ e = .returned (.tuple #[.slice none 0 0, .slice none 0 0, .int .i64 5])) ∨
    (askM g c t = 0 ∧ hol g c t = false ∧ ∃ u v path circ, e = .returned (.tuple #[u, v, .int .i64 0]) ∧ IsLasso g.ms (wi c t) (mu c t) path circ ∧ path.length < 8 ∧ circ.length < 9 ∧ IsWd w' u (pInts path) ∧ IsWd w' v (pInts circ)))

set_option maxHeartbeats 4000000 in
set_option maxRecDepth 20000 in
theorem lasso19_any (v : Value) (g : Gr) (c t : Int) (w : World) (hn : -9223372036854775808 ≤ g.n ∧ g.n ≤ 9223372036854775807) (hv : IsGr w v g) :
    Calls Try.prog 19 #[v, .int .i64 c, .int .i64 t] w fun e w' => LassoE g c t w e w' := by
  have HV := hid hv
  obtain ⟨s, rfl, -⟩ := hv
  obtain ⟨W0, hW0, g0, k0, k1, hz⟩ := box2 w (.int .i64 g.n) s 24
  have HG0 := hid g0
  by_cases ha : askM g c t = 0
  · have hval := (ask_valid ha).1
    have HASK := hid (asked_ok hn (HV.out.grew g0) ha)
    obtain ⟨h, hh⟩ : ∃ h, hol g c t = h := ⟨_, rfl⟩
    have HLS := hid (fun gv f1v f2v w => lasso_says g hval c t gv f1v f2v w)
    have HA := hid ha; have HH := hid hh
    rw [hh] at HLS
    clear ha hh hval
    cases h
    · go_enter Try.func19, Try.ntmps19
      go_wp2_with (first
        | (go_at_call 58; (with_reducible refine HASK.out.mono ?_); rintro e w1 ⟨f1, c1, f2, c2, rfl, hx, hi1, hi2⟩; have HX := hid hx; obtain ⟨W2, hW2, g2, e0, e1, hz2⟩ := box2 w1 (.func (.func f1) #[] c1) (.func (.func f2) #[] c2) 72; have x0 := ((grew_trans hx g2).cell (p := ⟨w.heap.size, 0, none⟩) hz).trans k0; have x1 := ((grew_trans hx g2).cell (p := ⟨w.heap.size, 1, none⟩) hz).trans k1; have HG2 := hid (grew_trans HG0.out (grew_trans hx g2)); have hl := HLS.out _ _ _ W2 (HV.out.grew HG2.out) (hi1.grew g2) (hi2.grew g2); have HL := hid hl; clear hl hx hi1 hi2)
        | (go_at_call 60; (with_reducible refine HL.out.mono ?_); rintro e w3 ⟨u, v, rfl, hy, hr⟩; have HR := hid hr; clear hr))
      go_ret3
      rcases HR.out with ⟨_, path, circ, h1, h2, h3, h4, h5⟩ | ⟨h, _⟩
      · exact ⟨grew_trans HG2.out hy, .inr (.inr ⟨HA.out, HH.out, u, v, path, circ, rfl, h1, h2, h3, h4, h5⟩)⟩
      · cases h
    · go_enter Try.func19, Try.ntmps19
      go_wp2_with (first
        | (go_at_call 58; (with_reducible refine HASK.out.mono ?_); rintro e w1 ⟨f1, c1, f2, c2, rfl, hx, hi1, hi2⟩; have HX := hid hx; obtain ⟨W2, hW2, g2, e0, e1, hz2⟩ := box2 w1 (.func (.func f1) #[] c1) (.func (.func f2) #[] c2) 72; have x0 := ((grew_trans hx g2).cell (p := ⟨w.heap.size, 0, none⟩) hz).trans k0; have x1 := ((grew_trans hx g2).cell (p := ⟨w.heap.size, 1, none⟩) hz).trans k1; have HG2 := hid (grew_trans HG0.out (grew_trans hx g2)); have hl := HLS.out _ _ _ W2 (HV.out.grew HG2.out) (hi1.grew g2) (hi2.grew g2); have HL := hid hl; clear hl hx hi1 hi2)
        | (go_at_call 60; (with_reducible refine HL.out.mono ?_); rintro e w3 ⟨u, v, rfl, hy, hr⟩; have HR := hid hr; clear hr))
      go_ret3
      exact ⟨grew_trans HG2.out hy, .inr (.inl ⟨HA.out, HH.out, rfl⟩)⟩
  · have HASK := hid (asked_bad hn (HV.out.grew g0) ha)
    have HA := hid ha
    obtain ⟨r, hr⟩ : ∃ r, askM g c t = r := ⟨_, rfl⟩
    have HRR := hid hr
    rw [hr] at HASK ha
    clear hr
    go_enter Try.func19, Try.ntmps19
    go_wp2_with (go_at_call 58; (with_reducible refine HASK.out.mono ?_); rintro e w1 ⟨rfl, hx⟩)
    go_ret3
    exact ⟨grew_alloc (grew_trans g0 hx) _, .inl ⟨HA.out, by rw [HRR.out]; rfl⟩⟩

set_option maxHeartbeats 4000000 in
set_option maxRecDepth 20000 in
theorem ranks18_any (v : Value) (g : Gr) (c t : Int) (w : World) (hn : -9223372036854775808 ≤ g.n ∧ g.n ≤ 9223372036854775807) (hv : IsGr w v g) :
    Calls Try.prog 18 #[v, .int .i64 c, .int .i64 t] w fun e w' => ∃ u, e = .returned (.tuple #[u, .int .i64 (ranksA g c t).2]) ∧ Grew w w' ∧ IsWd w' u (ranksA g c t).1 := by
  have HV := hid hv
  obtain ⟨s, rfl, -⟩ := hv
  obtain ⟨W0, hW0, g0, k0, k1, hz⟩ := box2 w (.int .i64 g.n) s 24
  have HG0 := hid g0
  by_cases ha : askM g c t = 0
  · have hval := (ask_valid ha).1
    have he : ranksA g c t = if hol g c t then (ranksM g.ms g.N c t, 0) else ([], 5) := by unfold ranksA; rw [if_pos ha]
    rw [he]
    have HASK := hid (asked_ok hn (HV.out.grew g0) ha)
    have HRK := hid (fun gv f1v f2v w => ranks59_any g g.N (gOk_valid hval) c t gv f1v f2v w)
    have hhh : holdsB g.ms g.N c t = hol g c t := rfl
    rw [hhh] at HRK
    obtain ⟨h, hh⟩ : ∃ h, hol g c t = h := ⟨_, rfl⟩
    rw [hh] at HRK ⊢
    clear he ha hh hval hhh
    cases h
    · simp only [Bool.false_eq_true, if_false] at HRK ⊢
      go_enter Try.func18, Try.ntmps18
      go_wp2_with (first
        | (go_at_call 58; (with_reducible refine HASK.out.mono ?_); rintro e w1 ⟨f1, c1, f2, c2, rfl, hx, hi1, hi2⟩; have HX := hid hx; obtain ⟨W2, hW2, g2, e0, e1, hz2⟩ := box2 w1 (.func (.func f1) #[] c1) (.func (.func f2) #[] c2) 72; have x0 := ((grew_trans hx g2).cell (p := ⟨w.heap.size, 0, none⟩) hz).trans k0; have x1 := ((grew_trans hx g2).cell (p := ⟨w.heap.size, 1, none⟩) hz).trans k1; have HG2 := hid (grew_trans HG0.out (grew_trans hx g2)); have hl := HRK.out _ _ _ W2 (HV.out.grew HG2.out) (hi1.grew g2) (hi2.grew g2); have HL := hid hl; clear hl hx hi1 hi2)
        | (go_at_call 59; (with_reducible refine HL.out.mono ?_); rintro e w3 ⟨u, rfl, hy, hr⟩; have HR := hid hr; clear hr))
      go_ret2
      exact ⟨_, rfl, grew_trans HG2.out hy, wd_nil _⟩
    · simp only [if_true] at HRK ⊢
      go_enter Try.func18, Try.ntmps18
      go_wp2_with (first
        | (go_at_call 58; (with_reducible refine HASK.out.mono ?_); rintro e w1 ⟨f1, c1, f2, c2, rfl, hx, hi1, hi2⟩; have HX := hid hx; obtain ⟨W2, hW2, g2, e0, e1, hz2⟩ := box2 w1 (.func (.func f1) #[] c1) (.func (.func f2) #[] c2) 72; have x0 := ((grew_trans hx g2).cell (p := ⟨w.heap.size, 0, none⟩) hz).trans k0; have x1 := ((grew_trans hx g2).cell (p := ⟨w.heap.size, 1, none⟩) hz).trans k1; have HG2 := hid (grew_trans HG0.out (grew_trans hx g2)); have hl := HRK.out _ _ _ W2 (HV.out.grew HG2.out) (hi1.grew g2) (hi2.grew g2); have HL := hid hl; clear hl hx hi1 hi2)
        | (go_at_call 59; (with_reducible refine HL.out.mono ?_); rintro e w3 ⟨u, rfl, hy, hr⟩; have HR := hid hr; clear hr))
      go_ret2
      exact ⟨u, rfl, grew_trans HG2.out hy, HR.out⟩
  · have he : ranksA g c t = ([], askM g c t) := by unfold ranksA; rw [if_neg ha]
    rw [he]
    simp only
    have HASK := hid (asked_bad hn (HV.out.grew g0) ha)
    obtain ⟨r, hr⟩ : ∃ r, askM g c t = r := ⟨_, rfl⟩
    rw [hr] at HASK ha ⊢
    clear he hr
    go_enter Try.func18, Try.ntmps18
    go_wp2_with (go_at_call 58; (with_reducible refine HASK.out.mono ?_); rintro e w1 ⟨rfl, hx⟩)
    go_ret2
    exact ⟨_, rfl, grew_alloc (grew_trans g0 hx) _, wd_nil _⟩
end Go.Proofs.Ytojkohpniokaaaa
