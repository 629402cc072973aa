/- Class of the reference: class (65), Class (19). -/
import Derived.Test.YtddnpooffcjhnaaWvClass
import Derived.Test.YtddnpooffcjhnaaWvForms2
import Derived.Deep.RegionHeld3
namespace Go.Proofs.Ytddnpooffcjhnaa
open Go.RowKit Go.Lin Go.Lin.Wv

theorem nth_memJ {l : List Int} {i : Nat} (h : i < l.length) : nth l i ∈ l := by rw [nth_lt h]; exact List.getElem_mem h

theorem LStR.off {W W' : World} {base : Nat} {v o : Value} {G : List (List Int)} {vs : List Value} (h : LStR W base v G vs) (hk : Keeps (fun k _ => o.ownBlock = some k) W W') (hne : ∀ k, v.ownBlock = some k → o.ownBlock ≠ some k)
    (h25 : ∀ k, o.ownBlock = some k → ∃ cur, W.heap[k]? = some (.cells cur 25 (0, 0))) : LStR W' base v G vs := by
  refine ⟨h.len, h.outer.keeps hk (fun k _ e _ h2 => hne k e h2), fun i hi => ?_⟩
  have h1 := (h.inner i hi).re (S' := fun k o' => (∃ cur fr, o' = .cells cur 3 fr) ∧ ¬ o.ownBlock = some k) (fun k o' ho' ⟨cur, fr, he⟩ => ⟨⟨cur, fr, he⟩, fun e => by obtain ⟨cur2, h2⟩ := h25 k e; rw [h2] at ho'; subst he; cases ho'⟩)
  exact (h1.keeps hk (fun k o h2 => h2.2)).re (fun k o _ h2 => h2.1)

theorem LStR.mono {W : World} {base base' : Nat} {v : Value} {G : List (List Int)} {vs : List Value} (h : LStR W base v G vs) (hb : base' ≤ base) : LStR W base' v G vs := ⟨h.len, h.outer.mono hb, h.inner⟩

theorem later_both' {W w' : World} (h : Grew W w') : Grew W w' ∧ ∀ b o, b < W.heap.size → w'.cell? ⟨b, o, none⟩ = W.cell? ⟨b, o, none⟩ := ⟨h, (bcell h).1⟩

set_option maxHeartbeats 8000000 in
set_option maxRecDepth 20000 in
theorem rClass65_any (L : Lt) (N : Nat) (hN : L.n = (N : Int)) (hN6 : N ≤ 6) : ∀ (k : Nat) (x : List Int) (v wv : Value) (t : Nat) (w : World), x.length = k → k ≤ 10 → t ≤ 1000 → (∀ z ∈ x, 0 ≤ z ∧ z < (N : Int)) → IsLt w v L → IsWd w wv x →
    Calls Try.prog 65 #[v, wv, .int .i64 (t : Int)] w fun e w' => ∃ u vs, e = .returned u ∧ LStR w' w.heap.size u ((classM (dep L) N x).take t) vs ∧ Grew w w' := by
  intro k
  induction k with
  | zero =>
    intro x v wv t w hk hk10 ht hw hv hx
    obtain rfl : x = [] := List.length_eq_zero_iff.1 hk
    obtain ⟨xa, xc, rfl, _⟩ := hx
    obtain ⟨s, rfl, -⟩ := hv
    obtain ⟨W0, hW0, g0, k0, k1, hz⟩ := box2 w (.int .i64 L.n) s 24
    rw [classM_nil]
    clear hN
    by_cases ht0 : t = 0
    · have htz : ((t : Int) == 0) = true := by simp; omega
      have HT := hid ht0
      clear ht0
      go_enter Try.func65, Try.ntmps65
      go_wp2
      go_ret
      exact ⟨_, [], rfl, by rw [HT.out]; exact lstr_nil _ _, g0⟩
    · have htz : ((t : Int) == 0) = false := by simp; omega
      have HT := hid ht0
      have HG := hid (grew_alloc g0 (.cells #[.slice none 0 0] 25))
      have HSZ := hid g0.size
      clear ht0
      go_enter Try.func65, Try.ntmps65
      go_wp2
      go_ret
      refine ⟨_, [.slice none 0 0], rfl, ?_, HG.out⟩
      rw [List.take_of_length_le (by simp; have := HT.out; omega)]
      refine ⟨rfl, ?_, fun i hi => ?_⟩
      · exact Seg.lit W0 w.heap.size 25 1 #[.slice none 0 0] HSZ.out rfl
      · obtain rfl : i = 0 := by simpa using hi
        exact wdOff_seg3 (base := 0) (xs := []) (Seg.nil _ _ _ _)
  | succ k ih =>
    intro x v wv t w hk hk10 ht hw hv hx
    obtain ⟨m, hmk⟩ : ∃ m, m = k + 1 := ⟨_, rfl⟩
    rw [← hmk] at hk hk10
    have HMK := hid hmk
    have hmz : ((m : Int) == 0) = false := by simp; omega
    have hxne : x ≠ [] := by intro e; rw [e] at hk; simp at hk; omega
    have HV := hid hv
    obtain ⟨s, rfl, -⟩ := hv
    obtain ⟨xa, xc, rfl⟩ := isWd_slice hx
    obtain ⟨W0, hW0, g0, k0, k1, hz⟩ := box2 w (.int .i64 L.n) s 24
    have hgz : (goesTo (dep L) N x [] (starts (dep L) N x)).take t = (classM (dep L) N x).take t := by rw [goesTo_all [] hxne]; simp
    rw [← hgz]
    have HXN := hid hxne
    rw [hk] at hx ⊢
    have HX := hid hx; have HW := hid hw; have HK := hid hk; have IH := hid ih; have HNN := hid hN
    clear hgz hxne hx hw hk ih hmk hN
    by_cases ht0 : t = 0
    · have htz : ((t : Int) == 0) = true := by simp; omega
      have HT := hid ht0
      clear ht0
      go_enter Try.func65, Try.ntmps65
      go_wp2
      go_ret
      exact ⟨_, [], rfl, by rw [HT.out]; exact lstr_nil _ _, g0⟩
    · have htz : ((t : Int) == 0) = false := by simp; omega
      have HT := hid ht0
      clear ht0
      obtain ⟨S, hS⟩ : ∃ S, starts (dep L) N x = S := ⟨_, rfl⟩
      obtain ⟨n, hn⟩ : ∃ n, S.length = n := ⟨_, rfl⟩
      have hst := fun (W : World) (hW : Grew w W) => rStarts_any _ L _ x N W HNN.out hN6 (HV.out.grew hW) (HX.out.grew hW).ints
      rw [hS, hn] at hst
      rw [hS]
      have HST := hid hst; have HS := hid hS; have HN := hid hn
      have hn6 : n ≤ 6 := by rw [← hn, ← hS]; exact Nat.le_trans (starts_length _ _) hN6
      clear hst hS hn
      have hg := grew_refl W0
      go_enter Try.func65, Try.ntmps65
      go_wp2_with (go_at_call 94; (with_reducible refine (HST.out _ (grew_trans g0 hg)).mono ?_); rintro e w1 ⟨u1, rfl, hs1, hx1⟩; obtain ⟨sa, sc, rfl, -⟩ := hs1.shape; replace hg := grew_trans hg hx1; have hc := (bcell hg).1; have HS1 := hid hs1; clear hs1 hx1)
      have HG1 := hid hg
      have HW1 := hid (IsWd.of_seg (n := n) (xs := S) HS1.out)
      clear hc hg
      go_loopg [7, 9, 11, 22, 39] n (fun gk out _ _ j _ wr => ∃ (i c : Nat) (F : List (List Int)) (vs : List Value), i ≤ n ∧ j = .int .i64 (i : Int) ∧ Hid (gk = n - i) ∧ c ≤ t ∧ Hid (F.length = c) ∧ Hid (F = (goesTo (dep L) N x [] (S.take i)).take t) ∧ Hid (LStR wr w1.heap.size out F vs) ∧ Hid (Grew w1 wr))
      case atStart => exact ⟨0, 0, [], [], by omega, rfl, hid rfl, by omega, hid rfl, hid (by simp [goesTo]), hid (lstr_nil _ _), hid (grew_refl _)⟩
      case round =>
        obtain ⟨i, c, F, vs, hi, rfl, HGK, hct, HC, HF, HLS, HGR⟩ := hrel
        rename World => wr
        by_cases hin : i < n
        · have hii : (i : Int) < (n : Int) := by omega
          obtain ⟨sb, soff, so, rfl, hso, hsc⟩ := wd_cell (n := n) HW1.out i hin
          obtain ⟨a, ha⟩ : ∃ a, nth S i = a := ⟨_, rfl⟩
          have hma : a ∈ S := by rw [← ha]; exact nth_memJ (by rw [HN.out]; exact hin)
          rw [← HS.out] at hma
          have hfs := (mem_starts.1 hma).2
          obtain ⟨p, hp⟩ := Option.isSome_iff_exists.1 hfs
          obtain ⟨hpl, -⟩ := free_lt hp
          rw [ha] at hsc
          have hsl := lt_of_obj hso
          have hsc1 := (HGR.out.cell (p := ⟨sb, soff + i, none⟩) hsl).trans hsc
          have hsl1 := Nat.lt_of_lt_of_le hsl HGR.out.size
          have hg := grew_trans HG1.out HGR.out
          have HGW := hid (grew_trans g0 hg)
          have kw0 := (hg.cell (p := ⟨w.heap.size, 0, none⟩) hz).trans k0
          have kw1 := (hg.cell (p := ⟨w.heap.size, 1, none⟩) hz).trans k1
          have hzw := Nat.lt_of_lt_of_le hz hg.size
          have hrm : x.eraseIdx p = rem (dep L) x a := by unfold rem; rw [hp]
          have hrl : (x.eraseIdx p).length = k := by rw [List.length_eraseIdx, if_pos hpl, HK.out]; have := HMK.out; omega
          obtain ⟨y, hy⟩ : ∃ y, x.eraseIdx p = y := ⟨_, rfl⟩
          rw [hy] at hrm hrl
          have hyw : ∀ z ∈ y, 0 ≤ z ∧ z < (N : Int) := fun z hz => HW.out z (List.mem_of_mem_eraseIdx (hy ▸ hz))
          have HFR := hid (fun (W : World) (hW : Grew w W) => free_any _ L _ x a W (HV.out.grew hW) (HX.out.grew hW).ints)
          rw [hp, show ix (some p) = (p : Int) from rfl] at HFR
          have HWO := hid (fun (W : World) (hW : Grew w W) => rWithout_any _ x p W hpl (by rw [HK.out]; omega) (HX.out.grew hW))
          rw [hy, hrl] at HWO
          have HRC := hid (fun (W : World) (hW : Grew w W) (u : Value) (hu : IsWd W u y) => IH.out y _ u (t - c) W hrl (by have := HMK.out; omega) (by omega) hyw (HV.out.grew hW) hu)
          have HYW := hid hyw; have HRM := hid hrm; have HYL := hid hrl; have HA := hid ha
          obtain ⟨G, hG⟩ : ∃ G, (classM (dep L) N y).take (t - c) = G := ⟨_, rfl⟩
          rw [hG] at HRC
          have HGE := hid (show (classM (dep L) N (rem (dep L) x a)).take (t - c) = G by rw [← hrm]; exact hG)
          obtain ⟨l, hl⟩ : ∃ l, G.length = l := ⟨_, rfl⟩
          have hlt : l ≤ t - c := by rw [← hl, ← hG]; exact List.length_take_le _ _
          have HL := hid hl
          have hwr : IntKind.i64.wrap ((t : Int) - (c : Int)) = ((t - c : Nat) : Int) := by rw [IntWalk.i64_in _ (by omega)]; omega
          obtain ⟨oa, oc, rfl, -⟩ := HLS.out.outer.shape
          have hls0 := HLS.out
          rw [HC.out] at hls0 ⊢
          have HLSc := hid hls0
          clear hls0
          clear hsc hso hma hfs hp hpl hrm hrl hy hyw ha hG hl hg
          go_wp2
          go_region_held3 (fun w' => Grew wr w' ∧ ∀ b o, b < wr.heap.size → w'.cell? ⟨b, o, none⟩ = wr.cell? ⟨b, o, none⟩) (exact later_both' (by repeat' (first | assumption | exact grew_refl _ | refine grew_drew ?_ | refine grew_alloc ?_ _)))
            (first
              | (go_at_call 98; (with_reducible refine (HFR.out _ (grew_trans HGW.out (by repeat' (first | assumption | exact grew_refl _ | refine grew_drew ?_)))).mono ?_); rintro e w7 ⟨rfl, hx2⟩; have G2 : Grew wr w7 := grew_trans (by repeat' (first | exact grew_refl _ | refine grew_drew ?_)) hx2; clear hx2)
              | (go_at_call 97; (with_reducible refine (HWO.out _ (grew_trans HGW.out (by repeat' (first | assumption | exact grew_refl _ | refine grew_drew ?_)))).mono ?_); rintro e w8 ⟨u8, rfl, hs8, hx3⟩; have G3 : Grew wr w8 := grew_trans (by repeat' (first | assumption | exact grew_refl _ | refine grew_drew ?_)) hx3; have HS8 := hid hs8; obtain ⟨a8, c8, rfl, -⟩ := hs8.shape; clear hx3 hs8)
              | (go_at_call 65; (with_reducible refine (HRC.out _ (grew_trans HGW.out (by repeat' (first | assumption | exact grew_refl _ | refine grew_drew ?_))) _ ((IsWd.of_seg HS8.out).grew (by repeat' (first | assumption | exact grew_refl _ | refine grew_drew ?_)))).mono ?_); rintro e w9 ⟨u9, vs9, rfl, hl9, hx4⟩; have hs9 := hl9.outer.shape; rw [HL.out] at hs9; obtain ⟨a9, c9, rfl, -⟩ := hs9; have G4 : Grew wr w9 := grew_trans (by repeat' (first | assumption | exact grew_refl _ | refine grew_drew ?_)) hx4; have HL9 := hid (LStR.mono (base' := wr.heap.size) hl9 (Below.size (by repeat' (first | assumption | exact grew_refl _ | refine grew_drew ?_)))); clear hx4 hl9))
          all_goals (
            have HG9 := hid (grew_trans HGR.out G4)
            have HLS9 := hid (HLSc.out.grew G4)
            have HNE := hid (fun k (e : (Value.slice a9 l c9).ownBlock = some k) (e2 : (Value.slice oa c oc).ownBlock = some k) => (by have h1 := (HL9.out.outer.own k e).1; have h2 : (Value.slice oa c oc).ownBlock = some k := e2; have h3 := (HLS.out.outer.own k (by rw [HC.out]; exact h2)).2.1; omega : False))
            clear G2 G3 G4 kw0 kw1 hzw hsc1 hsl1 HFR HWO HRC
            go_wp2
            go_loopg [7, 11, 39] l (fun gq out _ q wq => ∃ (e c2 : Nat) (F2 : List (List Int)) (vs2 : List Value), e ≤ l ∧ q = .int .i64 (e : Int) ∧ Hid (gq = l - e) ∧ Hid (c2 = c + e) ∧ c2 ≤ t ∧ Hid (F2.length = c2) ∧ Hid (F2 = F ++ (G.take e).map (([] ++ [a]) ++ ·)) ∧ Hid (LStR wq w1.heap.size out F2 vs2) ∧ Hid (LStR wq wr.heap.size (.slice a9 l c9) G vs9) ∧ Hid (∀ k, (Value.slice a9 l c9).ownBlock = some k → out.ownBlock ≠ some k) ∧ Hid (Grew w1 wq))
            case atStart => exact ⟨0, c, F, vs, by omega, rfl, hid rfl, hid rfl, hct, HC, hid (by simp), HLS9, HL9, hid (fun k e e2 => HNE.out k e e2), HG9⟩
            case round =>
              clear HLS9 HL9 HNE HG9
              obtain ⟨e, c2, F2, vs2, hel, rfl, HGQ, HC2, hc2t, HF2, HFE, HLS2, HLR, HNE, HG9⟩ := hrel
              rename World => wq
              by_cases hel2 : e < l
              · have hei : (e : Int) < (l : Int) := by omega
                have hG1 : e < G.length := by rw [HL.out]; exact hel2
                have hor : Seg wq wr.heap.size 25 1 (.slice a9 l c9) l vs9 := by have h := HLR.out.outer; rw [HL.out] at h; exact h
                obtain ⟨rg, roff, rcap, robj, hre, hrb, hrg, -, -, hrc⟩ := hor.at (by omega)
                simp only [Value.slice.injEq, true_and] at hre
                obtain ⟨rfl, rfl⟩ := hre
                have hru := hrc e (by omega)
                have hvl : e < vs9.length := by rw [HLR.out.len]; exact hG1
                obtain ⟨u, hu⟩ : ∃ u, vs9.getD e undef = u := ⟨_, rfl⟩
                rw [show vs9[e]? = some u by rw [← hu]; simp [List.getD, List.getElem?_eq_getElem hvl]] at hru
                have hin2 := HLR.out.inner e hG1
                rw [hu] at hin2
                obtain ⟨ua, uc, hus⟩ := isWd_slice hin2.wd
                obtain ⟨z, hz9⟩ : ∃ z, nthL G e = z := ⟨_, rfl⟩
                rw [hz9] at hin2 hus
                obtain ⟨nu, hnu⟩ : ∃ n, z.length = n := ⟨_, rfl⟩
                rw [hnu] at hus
                have hzl : z.length ≤ 10 := by
                  have h0 : z ∈ G := (by rw [← hz9, nthL_lt hG1]; exact List.getElem_mem hG1)
                  have h1 : z ∈ classM (dep L) N (rem (dep L) x a) := (by rw [← HGE.out] at h0; exact List.mem_of_mem_take h0)
                  rw [← HRM.out] at h1
                  have h2 := (mem_classM (dep_refl L) (dep_comm L) HYW.out).1 h1
                  rw [← h2.length (dep_refl L), HYL.out]; have := HMK.out; omega
                subst hus
                have hsrc := src_ints (hin2.grew (grew_alloc (grew_refl wq) (.cells #[.int .i64 a] 3))).wd.ints
                rw [hnu] at hsrc
                have HSRC := hid hsrc; have HIN2 := hid hin2; have HZ := hid hz9; have HNU := hid hnu
                have hrl := lt_of_obj hrg
                have hnu10 : nu ≤ 10 := by rw [← hnu]; exact hzl
                obtain ⟨oa2, oc2, rfl, -⟩ := HLS2.out.outer.shape
                have hos : Seg wq w1.heap.size 25 1 (.slice oa2 F2.length oc2) F2.length vs2 := HLS2.out.outer
                have hc29 : c2 < 1000000000 := by omega
                rw [HF2.out] at hos ⊢
                have HOS := hid hos
                obtain ⟨i0, hi0, hi1, hi2, hi3⟩ := info_parts Try.info3
                have hseg0 := Seg.lit wq wq.heap.size 3 1 #[.int .i64 a] (Nat.le_refl _) rfl
                have HSEG0 := hid hseg0
                have hgq := HG9.out.size
                clear hor hrc hu hin2 hz9 hnu hsrc hos hseg0 hzl hvl hG1
                have hos2 := HOS.out
                have HLS2c := hid (show LStR wq w1.heap.size (.slice oa2 c2 oc2) F2 vs2 by have h := HLS2.out; rw [HF2.out] at h; exact h)
                clear hos2
                go_wp2_with (first
                  | (at_builtin; refine wpList_append_seg rfl _ _ 25 25 rfl wq.heap.size 3 i0 (.int .i64 0) 1 8 Try.underlying25 hi0 hi1 hi2 hi3 rfl _ 1 _ rfl HSEG0.out _ rfl nu _ HSRC.out (by unfold maxLen; omega) (by omega) (by simp) ?_; intro v8 w8 hown8 hgrow8 hblk8; go_loud (have hg8 : Grew wq w8 := ((grew_refl wq).alloc (Nat.le_refl _) (.cells #[.int .i64 a] 3)).grown hgrow8 (by simp) (fun k e => (HSEG0.out.own k e).1)); have HG8 := hid hg8; obtain ⟨a8, c8, rfl, _⟩ := hown8.shape; have HOWN8 := hid hown8; have HOS8 := hid (HOS.out.grew hg8); clear hown8 hgrow8 hblk8 hg8)
                  | (at_builtin; go_loud (refine wpList_append_one rfl _ _ 28 rfl w1.heap.size 25 Try.underlying28 Try.info25 rfl (by decide) _ c2 _ rfl (HOS8.out.alloc _) _ _ _ rfl (one_new _ _ _) rfl hc29 ?_ ?_; (have := HG8.out.size; simp only [World.size_alloc]; omega); intro v10 w10 hown10 hgrow10 hblk10); have HGR10 := hid hgrow10; have HOWN10 := hid hown10; have HBLK10 := hid hblk10; obtain ⟨a10, c10, rfl, _⟩ := hown10.shape; clear hown10 hgrow10 hblk10))
                have hkA := keeps_of_grown HGR10.out
                have hk10 : Keeps (fun k _ => (Value.slice oa2 c2 oc2).ownBlock = some k) wq w10 := ((HG8.out.keeps).alloc _).trans hkA
                have hu8 : WdOff (fun _ o => ∃ cur fr, o = .cells cur 3 fr) (w8.alloc (.cells #[.slice a8 (1 + nu) c8] 25)) (.slice a8 (1 + nu) c8) ([] ++ [a] ++ z) := by
                  have h1 : Seg w8 wq.heap.size 3 1 (.slice a8 (1 + nu) c8) (1 + nu) (([] ++ [a] ++ z).map (.int .i64)) := HOWN8.out
                  exact (wdOff_seg3 h1).grew (grew_alloc (grew_refl w8) _)
                have hu10 : WdOff (fun _ o => ∃ cur fr, o = .cells cur 3 fr) w10 (.slice a8 (1 + nu) c8) ([] ++ [a] ++ z) := by
                  have h1 := hu8.re (S' := fun k o => (∃ cur fr, o = .cells cur 3 fr) ∧ ¬ (Value.slice oa2 c2 oc2).ownBlock = some k) (fun k o ho' ⟨cur, fr, he⟩ => ⟨⟨cur, fr, he⟩, fun e => by obtain ⟨_, _, cur2, h2⟩ := (HOS8.out.alloc (.cells #[.slice a8 (1 + nu) c8] 25)).own k e; rw [h2] at ho'; subst he; cases ho'⟩)
                  exact (h1.keeps hkA (fun k o h2 => h2.2)).re (fun k o _ h2 => h2.1)
                have HPUSH := hid (HLS2c.out.push (v' := .slice a10 (c2 + 1) c10) (u := .slice a8 (1 + nu) c8) (xs := [] ++ [a] ++ z) (by rw [HF2.out]; exact HOWN10.out) hk10 hu10)
                have HLR10 := hid (HLR.out.off (o := .slice oa2 c2 oc2) hk10 (fun k e => by have h := HNE.out k e; rw [HF2.out] at h; exact h) (fun k e => by obtain ⟨_, _, cur, h⟩ := HOS.out.own k e; exact ⟨cur, h⟩))
                have HNE10 := hid (fun k (e : (Value.slice (some ⟨rg, roff, none⟩) l c9).ownBlock = some k) (e2 : (Value.slice a10 (c2 + 1) c10).ownBlock = some k) => (by
                  rcases HBLK10.out with h | h
                  · have h5 := HNE.out k e; rw [HF2.out] at h5; exact h5 (h.symm.trans e2)
                  · have e3 := h.symm.trans e2
                    simp at e3
                    have h6 := (HLR.out.outer.own k e).2.1
                    have := HG8.out.size
                    omega : False))
                have HG10 := hid (HG9.out.trans (hk10.below HG9.out.size (fun k o e => (HOS.out.own k e).1)))
                clear hkA hk10 hu8 hu10
                go_roundg (l - (e + 1))
                case measure => have := HGQ.out; omega
                case rel => exact ⟨e + 1, c2 + 1, _, _, by omega, by go_num, hid rfl, hid (by have := HC2.out; omega), by have := HC2.out; omega, hid (by rw [List.length_append, HF2.out]; rfl), hid (by rw [HFE.out, take_succ_nthL (by rw [HL.out]; exact hel2), HZ.out]; simp), HPUSH, HLR10, hid (fun k e e2 => HNE10.out k e e2), HG10⟩
              · obtain rfl : e = l := by omega
                have hfe := HFE.out
                rw [List.take_of_length_le (by rw [HL.out]; exact Nat.le_refl _)] at hfe
                have hnext : F2 = (goesTo (dep L) N x [] (S.take (i + 1))).take t := by
                  rw [List.take_add_one, List.getElem?_eq_getElem (by rw [HN.out]; exact hin), Option.toList_some, ← nth_lt (by rw [HN.out]; exact hin), HA.out, goesTo_snoc, take_more, ← HF.out, HC.out, ← List.map_take, HGE.out]
                  exact hfe
                have HNX := hid hnext
                clear hfe hnext
                go_wp2
                go_roundg (n - (i + 1))
                case measure => have := HGK.out; omega
                case rel => exact ⟨i + 1, c2, F2, vs2, by omega, by go_num, hid rfl, hc2t, HF2, HNX, HLS2, HG9⟩)
        · obtain rfl : i = n := by omega
          have hf := HF.out
          rw [show S.take i = S from List.take_of_length_le (by rw [HN.out]; exact Nat.le_refl _)] at hf
          have HFN := hid hf
          clear hf
          go_wp2
          go_ret
          refine ⟨_, vs, rfl, ?_, grew_trans g0 (grew_trans HG1.out HGR.out)⟩
          rw [← HFN.out]
          exact HLS.out.mono (by have := (grew_trans g0 HG1.out).size; omega)
end Go.Proofs.Ytddnpooffcjhnaa
