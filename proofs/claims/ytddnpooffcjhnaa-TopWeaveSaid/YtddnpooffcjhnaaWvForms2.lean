/- Layers and Size of the reference (55, 59). -/
import Derived.Test.YtddnpooffcjhnaaWvLw
import Derived.Test.YtddnpooffcjhnaaWvSizes95
namespace Go.Lin.Wv
theorem layersN_len (D : Int → Int → Bool) (n : Nat) : ∀ (k : Nat) (w : List Int), (layersN D n k w).length ≤ k
  | 0, w => by simp [layersN]
  | k + 1, w => by
    unfold layersN
    split
    · simp
    · have := layersN_len D n k ((rest D (starts D n w) w).getD [])
      simp; omega
def sizeA (L : Lt) (x : List Int) : Int × Int := (if wrong L [x] = 0 then ((sizeM (dep L) L.n.toNat x : Nat) : Int) else 0, wrong L [x])
end Go.Lin.Wv
namespace Go.Proofs.Ytddnpooffcjhnaa
open Go.RowKit Go.Lin Go.Lin.Wv

/-- A list of words that the call owns; the words are read alone. -/
structure LStR (W : World) (base : Nat) (v : Value) (L : List (List Int)) (vs : List Value) : Prop where
  len : vs.length = L.length
  outer : Seg W base 25 1 v L.length vs
  inner : ∀ i, i < L.length → WdOff (fun _ o => ∃ cur fr, o = .cells cur 3 fr) W (vs.getD i undef) (nthL L i)

theorem lstr_nil (W : World) (base : Nat) : LStR W base (.slice none 0 0) [] [] := ⟨rfl, Seg.nil _ _ _ _, fun i hi => by simp at hi⟩

theorem LStR.ls {W : World} {base : Nat} {v : Value} {L : List (List Int)} {vs : List Value} (h : LStR W base v L vs) : IsLs W v L :=
  ⟨fun i => vs.getD i undef, (h.outer.reads _ (fun i hi => by have : i < vs.length := by rw [h.len]; exact hi
                                                              simp [List.getD, List.getElem?_eq_getElem this])).any, fun i hi => (h.inner i hi).wd⟩

theorem LStR.push {W w' : World} {base : Nat} {v v' u : Value} {L : List (List Int)} {vs : List Value} {xs : List Int} (h : LStR W base v L vs) (ho : Seg w' base 25 1 v' (L.length + 1) (vs ++ [u])) (hk : Keeps (fun k _ => v.ownBlock = some k) W w') (hu : WdOff (fun _ o => ∃ cur fr, o = .cells cur 3 fr) w' u xs) : LStR w' base v' (L ++ [xs]) (vs ++ [u]) := by
  refine ⟨by simp [h.len], by simpa using ho, fun i hi => ?_⟩
  by_cases hil : i < L.length
  · rw [show (vs ++ [u]).getD i undef = vs.getD i undef by simp [List.getD, List.getElem?_append_left (show i < vs.length by rw [h.len]; exact hil)], show nthL (L ++ [xs]) i = nthL L i by simp [nthL, List.getD, List.getElem?_append_left hil]]
    have h1 := (h.inner i hil).re (S' := fun k o => (∃ cur fr, o = .cells cur 3 fr) ∧ ¬ v.ownBlock = some k) (fun k o ho' ⟨cur, fr, he⟩ => ⟨⟨cur, fr, he⟩, fun e => by obtain ⟨_, _, cur2, h2⟩ := h.outer.own k e; rw [h2] at ho'; subst he; cases ho'⟩)
    exact (h1.keeps hk (fun k o h2 => h2.2)).re (fun k o _ h2 => h2.1)
  · obtain rfl : i = L.length := by simp at hi; omega
    rw [show (vs ++ [u]).getD L.length undef = u by simp [List.getD, ← h.len], show nthL (L ++ [xs]) L.length = xs by simp [nthL]]
    exact hu

theorem LStR.grew {W W' : World} {base : Nat} {v : Value} {L : List (List Int)} {vs : List Value} (h : LStR W base v L vs) (hg : Grew W W') : LStR W' base v L vs :=
  ⟨h.len, h.outer.grew hg, fun i hi => (h.inner i hi).grew hg⟩

theorem wdOff_seg3 {w : World} {base n : Nat} {v : Value} {xs : List Int} (h : Seg w base 3 1 v n (xs.map (.int .i64))) : WdOff (fun _ o => ∃ cur fr, o = .cells cur 3 fr) w v xs :=
  (wdOff_of_seg h).re (fun _ _ _ h => h.1)

theorem restO_any (v : Value) (L : Lt) (uv wv : Value) (p x : List Int) (w : World) (hlen : x.length ≤ 1000) (hv : IsLt w v L) (hp : IsInts Any w uv p) (hx : IsWd w wv x) :
    Calls Try.prog 77 #[v, uv, wv] w fun e w' => ∃ u b, e = .returned (.tuple #[u, .bool b]) ∧ WdOff (fun _ o => ∃ cur fr, o = .cells cur 3 fr) w' u ((rest (dep L) p x).getD []) ∧ Grew w w' :=
  (rRest_any v L uv wv p x w hlen hv hp hx).mono fun e w' h => by
    rcases h with ⟨y, h1, u, rfl, h2, h3⟩ | ⟨h1, rfl, h3⟩
    · rw [h1]; exact ⟨u, _, rfl, wdOff_seg3 h2, h3⟩
    · rw [h1]; exact ⟨_, _, rfl, wdOff_seg3 (base := 0) (xs := []) (Seg.nil _ _ _ _), h3⟩

set_option maxHeartbeats 4000000 in
set_option maxRecDepth 20000 in
theorem rSize59_any (v : Value) (L : Lt) (uv : Value) (x : List Int) (w : World) (hv : IsLt w v L) (hx : IsWd w uv x) :
    Calls Try.prog 59 #[v, uv] w fun e w' => e = .returned (.tuple #[.int .i64 (sizeA L x).1, .int .i64 (sizeA L x).2]) ∧ Grew w w' := by
  have HV := hid hv
  obtain ⟨s, hveq, -⟩ := id hv
  subst hveq
  obtain ⟨ua, uc, rfl⟩ := isWd_slice hx
  obtain ⟨W0, hW0, g0, k0, k1, hz⟩ := box2 w (.int .i64 L.n) s 24
  have hask := asked_any _ L _ (.slice none 0 0) x [] W0 (hv.grew g0) (hx.grew g0).ints (Reads.nil _ _ _ _ _)
  rw [wrong_nil] at hask
  obtain ⟨m, hm⟩ : ∃ m, x.length = m := ⟨_, rfl⟩
  have HM := hid hm
  have HXM := hid (show IsWd w (.slice ua m uc) x by rw [← hm]; exact hx)
  
  obtain ⟨r, hr⟩ : ∃ r, wrong L [x] = r := ⟨_, rfl⟩
  rw [hr] at hask
  have HR := hid hr
  have HX := hid hx
  rw [hm] at hask
  have HASK := hid hask
  rw [hm]
  have hg := grew_refl W0
  clear hask hr hx hm hv
  by_cases hr0 : r = 0
  · subst hr0
    obtain ⟨hv1, hw1⟩ := wrong_one HR.out
    obtain ⟨⟨h1, h6⟩, -⟩ := valid_iff hv1
    obtain ⟨N, hN⟩ : ∃ N : Nat, L.n = N := ⟨L.n.toNat, by omega⟩
    have hN6 : N ≤ 6 := by omega
    obtain ⟨hl1, hlw1⟩ := isW_iff hN hw1
    have HN := hid hN; have HL1 := hid hl1; have HVN := hid (show IsLt w (.agg #[.int .i64 (N : Int), s]) L by rw [← hN]; exact HV.out)
    rw [hN] at hW0 k0 HASK ⊢
    clear hN hv1 hw1 h1 h6
    go_enter Try.func59, Try.ntmps59
    go_wp2_with (first
      | (go_at_call 64; (with_reducible refine HASK.out.mono ?_); rintro e w1 ⟨rfl, hx⟩; replace hg := grew_trans hg hx; have hc := (bcell hg).1; have HG1 := hid (grew_trans g0 hg); clear hx)
      | (go_at_call 95; (with_reducible refine (sizes95_any _ L _ x N w1 HN.out hN6 hlw1 HL1.out (HVN.out.grew HG1.out) (HXM.out.grew HG1.out)).mono ?_); rintro e w2 ⟨rfl, hg2⟩; have HG2 := hid hg2; clear hg2))
    go_ret2
    exact ⟨by unfold sizeA; rw [HR.out, if_pos rfl, HN.out, Int.toNat_natCast]; rfl, grew_trans HG1.out HG2.out⟩
  · have hne : (r != 0) = true := by simpa using hr0
    have HR0 := hid hr0
    clear hr0
    go_enter Try.func59, Try.ntmps59
    go_wp2_with (go_at_call 64; (with_reducible refine HASK.out.mono ?_); rintro e w1 ⟨rfl, hx⟩; have HG1 := hid (grew_trans g0 hx); clear hx)
    go_ret2
    exact ⟨by unfold sizeA; rw [HR.out, if_neg HR0.out]; rfl, HG1.out⟩

set_option maxHeartbeats 4000000 in
set_option maxRecDepth 20000 in
theorem rLayers55_any (v : Value) (L : Lt) (uv : Value) (x : List Int) (w : World) (hv : IsLt w v L) (hx : IsWd w uv x) :
    Calls Try.prog 55 #[v, uv] w fun e w' => GivesL e w w' (layersA L x) := by
  have HV := hid hv
  obtain ⟨s, hveq, -⟩ := id hv
  subst hveq
  obtain ⟨ua, uc, rfl⟩ := isWd_slice hx
  obtain ⟨W0, hW0, g0, k0, k1, hz⟩ := box2 w (.int .i64 L.n) s 24
  have hask := asked_any _ L _ (.slice none 0 0) x [] W0 (hv.grew g0) (hx.grew g0).ints (Reads.nil _ _ _ _ _)
  rw [wrong_nil] at hask
  obtain ⟨m, hm⟩ : ∃ m, x.length = m := ⟨_, rfl⟩
  have HM := hid hm
  have HXM := hid (show IsWd w (.slice ua m uc) x by rw [← hm]; exact hx)
  
  obtain ⟨r, hr⟩ : ∃ r, wrong L [x] = r := ⟨_, rfl⟩
  rw [hr] at hask
  have HR := hid hr
  have HX := hid hx
  rw [hm] at hask
  have HASK := hid hask
  rw [hm]
  have hg := grew_refl W0
  clear hask hr hx hm hv
  by_cases hr0 : r = 0
  · subst hr0
    obtain ⟨hv1, hw1⟩ := wrong_one HR.out
    obtain ⟨⟨h1, h6⟩, -⟩ := valid_iff hv1
    obtain ⟨N, hN⟩ : ∃ N : Nat, L.n = N := ⟨L.n.toNat, by omega⟩
    have hN6 : N ≤ 6 := by omega
    obtain ⟨hl1, hlw1⟩ := isW_iff hN hw1
    have HN := hid hN; have HL1 := hid hl1; have HVN := hid (show IsLt w (.agg #[.int .i64 (N : Int), s]) L by rw [← hN]; exact HV.out)
    rw [hN] at hW0 k0 HASK ⊢
    clear hN hv1 hw1 h1 h6
    go_enter Try.func55, Try.ntmps55
    go_wp2_with (first
      | (go_at_call 64; (with_reducible refine HASK.out.mono ?_); rintro e w1 ⟨rfl, hx⟩; replace hg := grew_trans hg hx; have hc := (bcell hg).1; have HG1 := hid (grew_trans g0 hg); clear hx)
      | (fail))
    have HG0 := hid hg
    have HZ := hid hz; have HK0 := hid k0; have HK1 := hid k1
    have hm10 : m ≤ 10 := by have := HL1.out; have := HM.out; omega
    obtain ⟨LM, hLM⟩ : ∃ LM, layersM (dep L) N x = LM := ⟨_, rfl⟩
    have HLM := hid hLM
    have HLE := hid (show LM.length ≤ 10 by rw [← hLM]; unfold layersM; exact Nat.le_trans (layersN_len _ _ _ _) HL1.out)
    have hx0 : WdOff (fun k o => k < w1.heap.size ∨ ∃ cur fr, o = .cells cur 3 fr) w1 (.slice ua m uc) x := (HXM.out.grew HG1.out).off.re (fun k o ho _ => .inl (lt_of_obj ho))
    clear hg hc hLM
    have HX0 := hid hx0
    clear hx0
    go_loopg [7, 8, 9] m (fun gk out left _ wr => ∃ (f : Nat) (y : List Int) (F : List (List Int)) (vs : List Value) (la : Option Addr) (lc q n : Nat), Hid (gk = f) ∧ left = .slice la q lc ∧ Hid (y.length = q) ∧ q ≤ f ∧ f ≤ m ∧ Hid (∀ z ∈ y, 0 ≤ z ∧ z < (N : Int)) ∧ Hid (LM = F ++ layersN (dep L) N f y) ∧ Hid (F.length = n) ∧ Hid (WdOff (fun k o => k < w1.heap.size ∨ ∃ cur fr, o = .cells cur 3 fr) wr (.slice la q lc) y) ∧ Hid (LStR wr w1.heap.size out F vs) ∧ Hid (Grew w1 wr))
    case atStart => exact ⟨m, x, [], [], ua, uc, m, 0, hid rfl, rfl, HM, by omega, by omega, hid hlw1, hid (by rw [← HLM.out]; unfold layersM; rw [HM.out]; rfl), hid rfl, HX0, hid (lstr_nil _ _), hid (grew_refl _)⟩
    case round =>
      obtain ⟨f, y, F, vs, la, lc, q, n, HGK, rfl, HY, hqg, hgm, HYW, HLF, HNL, HWD, HLS, HGW⟩ := hrel
      rename World => wr
      obtain ⟨oa, oc, hoe, -⟩ := HLS.out.outer.shape
      rw [HNL.out] at hoe
      subst hoe
      have hgw := grew_trans HG0.out HGW.out
      by_cases hq0 : 0 < q
      · have kw0 := (hgw.cell (p := ⟨w.heap.size, 0, none⟩) HZ.out).trans HK0.out
        have kw1 := (hgw.cell (p := ⟨w.heap.size, 1, none⟩) HZ.out).trans HK1.out
        have hzw := Nat.lt_of_lt_of_le HZ.out hgw.size
        obtain ⟨f', rfl⟩ : ∃ f', f = f' + 1 := ⟨f - 1, by omega⟩
        have hyne : y ≠ [] := by intro e; have := HY.out; rw [e] at this; simp at this; omega
        have hstp : layersN (dep L) N (f' + 1) y = starts (dep L) N y :: layersN (dep L) N f' ((rest (dep L) (starts (dep L) N y) y).getD []) := by
          show (if y = [] then [] else _) = _
          rw [if_neg hyne]
        have hsne := starts_ne (D := dep L) HYW.out hyne
        obtain ⟨S, hS⟩ : ∃ S, starts (dep L) N y = S := ⟨_, rfl⟩
        rw [hS] at hstp hsne
        have hshort : ((rest (dep L) S y).getD []).length < q := by
          cases hr' : rest (dep L) S y with
          | none => simpa using hq0
          | some z =>
            have h1 := (rest_alike (dep_comm L) hr').length (dep_refl L)
            rw [List.length_append, HY.out] at h1
            have h2 : S.length ≠ 0 := fun e => hsne (List.length_eq_zero_iff.1 e)
            simp only [Option.getD_some]
            omega
        have hsub : ∀ z ∈ (rest (dep L) S y).getD [], 0 ≤ z ∧ z < (N : Int) := by
          cases hr' : rest (dep L) S y with
          | none => intro z hz; simp at hz
          | some y' => intro z hz; exact HYW.out z (rest_sub hr' z (by simpa using hz))
        have HSTP := hid hstp; have HS := hid hS; have HSHORT := hid hshort; have HSUB := hid hsub
        have hn10 : n ≤ 10 := by have h1 := congrArg List.length HLF.out; rw [List.length_append, HNL.out] at h1; have := HLE.out; omega
        have hn9 : n < 1000000000 := by omega
        have hos : Seg wr w1.heap.size 25 1 (.slice oa n oc) n vs := by have h := HLS.out.outer; rw [HNL.out] at h; exact h
        have HOS := hid hos
        have HGw := hid (grew_trans g0 hgw)
        have hyl : y.length ≤ 1000 := by rw [HY.out]; omega
        clear hstp hS hn10 hos hgw hshort hsub hsne hyne
        go_wp2_with (first
          | (go_at_call 94; (with_reducible refine (rStarts_any _ L _ y N wr HN.out hN6 (HVN.out.grew HGw.out) HWD.out.wd.ints).mono ?_); rintro e w2 ⟨u2, rfl, hs2, hg2⟩; rw [HS.out] at hs2; have HS2 := hid hs2; have HG2 := hid hg2; have hg02 := grew_trans HG0.out (grew_trans HGW.out hg2); have kv0 := (hg02.cell (p := ⟨w.heap.size, 0, none⟩) HZ.out).trans HK0.out; have kv1 := (hg02.cell (p := ⟨w.heap.size, 1, none⟩) HZ.out).trans HK1.out; have hzv := Nat.lt_of_lt_of_le HZ.out hg02.size; obtain ⟨sa, sc, hu2, -⟩ := hs2.shape; subst hu2; have HOS2 := hid (HOS.out.grew hg2); clear hs2 hg2 hg02)
          | (at_builtin; go_loud (refine wpList_append_one rfl _ _ 28 rfl w1.heap.size 25 Try.underlying28 Try.info25 rfl (by decide) _ n _ rfl (HOS2.out.alloc _) _ _ _ rfl (one_new _ _ _) rfl hn9 ?_ ?_); (have := HGW.out.size; have := HG2.out.size; simp only [World.size_alloc]; omega); intro v9 w9 hown9 hgrow9 hblk9; have HOWN9 := hid hown9; obtain ⟨a9, c9, rfl, _⟩ := hown9.shape; have hk9 := ((Keeps.refl (fun i _ => (Value.slice oa n oc).ownBlock = some i) w2).alloc (.cells #[.slice sa S.length sc] 25)).trans (keeps_of_grown hgrow9); have hb9 : Below w1.heap.size w2 w9 := hk9.below (by have := HGW.out.size; have := HG2.out.size; omega) (fun k o e => (HOS2.out.own k e).1); have hg9 : Grew w1 w9 := (grew_trans HGW.out HG2.out).trans hb9; have HG9 := hid hg9; have hwg := grew_trans HG0.out hg9; have kx0 := (hwg.cell (p := ⟨w.heap.size, 0, none⟩) HZ.out).trans HK0.out; have kx1 := (hwg.cell (p := ⟨w.heap.size, 1, none⟩) HZ.out).trans HK1.out; have hzx := Nat.lt_of_lt_of_le HZ.out hwg.size; have HWG := hid (grew_trans g0 hwg); have HK9 := hid hk9; have HSU9 := hid (HS2.out.keeps hk9 (fun k o e ⟨cur, hc⟩ h => by obtain ⟨_, _, cur2, h2⟩ := HOS2.out.own k h; obtain ⟨_, _, cur3, h3⟩ := HS2.out.own k e; rw [h2] at h3; cases h3)); have hy9 := ((HWD.out.grew HG2.out).re (S' := fun k o => (k < w1.heap.size ∨ ∃ cur fr, o = .cells cur 3 fr) ∧ ¬ (Value.slice oa n oc).ownBlock = some k) (fun k o ho h => ⟨h, fun e => by obtain ⟨h1, _, cur2, h2⟩ := HOS2.out.own k e; exact h.elim (fun h => by omega) (fun ⟨cur, fr, h⟩ => by rw [h2] at ho; subst h; cases ho)⟩)).keeps hk9 (fun k o h => h.2); have HY9 := hid hy9; clear hgrow9 hblk9 hown9 hk9 hb9 hg9 hwg hy9)
          | (go_at_call 77; (with_reducible refine (restO_any _ L _ _ S y w9 hyl (HVN.out.grew HWG.out) (isInts_any HSU9.out) HY9.out.wd).mono ?_); rintro e w5 ⟨u5, b5, rfl, hu5, hg5⟩; have HU5 := hid hu5; have HG5 := hid hg5; obtain ⟨a5, c5, rfl⟩ := isWd_slice hu5.wd; clear hu5 hg5))
        have hls := ((HLS.out.grew HG2.out).push (v' := .slice a9 (n + 1) c9) (u := .slice sa S.length sc) (xs := S) (by rw [HNL.out]; exact HOWN9.out) HK9.out (wdOff_seg3 HSU9.out)).grew HG5.out
        have HLS5 := hid hls
        have HG55 := hid (grew_trans HG9.out HG5.out)
        clear hls
        go_roundg f'
        case measure => have := HGK.out; omega
        case rel => exact ⟨f', _, F ++ [S], _, a5, c5, _, n + 1, hid rfl, rfl, hid rfl, by have := HSHORT.out; omega, by omega, HSUB, hid (by rw [HLF.out, HSTP.out, List.append_assoc]; rfl), hid (by rw [List.length_append, HNL.out]; rfl), hid (HU5.out.re (fun k o _ h => .inr h)), HLS5, HG55⟩
      · obtain rfl : q = 0 := by omega
        have hy0 : y = [] := List.length_eq_zero_iff.1 HY.out
        subst hy0
        have hfin : LM = F := by
          rw [HLF.out]
          cases f with
          | zero => simp [layersN]
          | succ f => simp [layersN]
        have HFIN := hid hfin
        clear hfin
        go_wp2
        go_ret2
        refine ⟨.slice oa n oc, ?_, ?_, grew_trans HG1.out HGW.out⟩
        · unfold layersA; rw [HR.out, if_pos rfl]; rfl
        · unfold layersA; rw [HR.out, if_pos rfl, HN.out, Int.toNat_natCast, HLM.out, HFIN.out]
          have h := HLS.out.ls
          exact h
  · have hne : (r != 0) = true := by simpa using hr0
    have HR0 := hid hr0
    clear hr0
    go_enter Try.func55, Try.ntmps55
    go_wp2_with (go_at_call 64; (with_reducible refine HASK.out.mono ?_); rintro e w1 ⟨rfl, hx⟩; have HG1 := hid (grew_trans g0 hx); clear hx)
    go_ret2
    exact ⟨_, by unfold layersA; rw [HR.out, if_neg HR0.out]; rfl, by unfold layersA; rw [HR.out, if_neg HR0.out]; exact ls_nil _, HG1.out⟩

end Go.Proofs.Ytddnpooffcjhnaa
