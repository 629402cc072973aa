/- Walk: the reference's FirstForm. -/
import Derived.Test.YtddnpooffcjhnaaWvTake
namespace Go.Lin.Wv

theorem firstN_cons {D : Int → Int → Bool} {n : Nat} {y : List Int} {a : Int} {l : List Int} {i : Nat} {m : Nat} (hs : starts D n y = a :: l) (hf : free D y a = some i) (hm : y.length = m + 1) : firstN D n y.length y = a :: firstN D n (y.eraseIdx i).length (y.eraseIdx i) := by
  obtain ⟨hl, _⟩ := free_lt hf
  rw [hm]
  unfold firstN
  rw [hs]
  simp only [rem, hf]
  congr 1
  have : (y.eraseIdx i).length = m := by rw [List.length_eraseIdx, if_pos hl]; omega
  rw [this]
  cases m <;> rfl

end Go.Lin.Wv
namespace Go.Proofs.Ytddnpooffcjhnaa
open Go.RowKit Go.Lin Go.Lin.Wv

theorem reads_re {S S' : Nat → Obj → Prop} {w : World} {v : Value} {n : Nat} {f : Nat → Value} (h : Reads S w v n f) (hS : ∀ k o, w.heap[k]? = some o → S k o → S' k o) : Reads S' w v n f := by
  obtain ⟨a, cap, hv, hm, hc⟩ := h
  exact ⟨a, cap, hv, hm, fun i hi => let ⟨b, off, o, h1, h2, h3, h4⟩ := hc i hi; ⟨b, off, o, h1, h2, hS _ _ h2 h3, h4⟩⟩

/-- A list with room, off some blocks. -/
def WdOff (S : Nat → Obj → Prop) (w : World) (v : Value) (xs : List Int) : Prop := (∃ a cap, v = .slice a xs.length cap ∧ xs.length ≤ cap) ∧ IsInts S w v xs

theorem WdOff.wd {S : Nat → Obj → Prop} {w : World} {v : Value} {xs : List Int} (h : WdOff S w v xs) : IsWd w v xs := let ⟨⟨a, c, h1, h2⟩, h3⟩ := h; ⟨a, c, h1, h2, Reads.any h3⟩
theorem WdOff.grew {S : Nat → Obj → Prop} {w w' : World} {v : Value} {xs : List Int} (h : WdOff S w v xs) (hg : Grew w w') : WdOff S w' v xs := ⟨h.1, Reads.grew h.2 hg⟩
theorem WdOff.keeps {S may : Nat → Obj → Prop} {w w' : World} {v : Value} {xs : List Int} (h : WdOff S w v xs) (hk : Keeps may w w') (hS : ∀ k o, S k o → ¬ may k o) : WdOff S w' v xs := ⟨h.1, Reads.keeps h.2 hk hS⟩
theorem WdOff.re {S S' : Nat → Obj → Prop} {w : World} {v : Value} {xs : List Int} (h : WdOff S w v xs) (hS : ∀ k o, w.heap[k]? = some o → S k o → S' k o) : WdOff S' w v xs := ⟨h.1, reads_re h.2 hS⟩
theorem IsWd.off {w : World} {v : Value} {xs : List Int} (h : IsWd w v xs) : WdOff Any w v xs := let ⟨a, c, h1, h2, h3⟩ := h; ⟨⟨a, c, h1, h2⟩, h3⟩
theorem WdOff.of_seg {w : World} {base : Nat} {v : Value} {n : Nat} {xs : List Int} (h : Seg w base 3 1 v n (xs.map (.int .i64))) : WdOff (fun k _ => base ≤ k) w v xs := by
  obtain ⟨a, c, h1, h2, _⟩ := IsWd.of_seg h
  exact ⟨⟨a, c, h1, h2⟩, Reads.mono h.isInts (fun _ _ h => h.1)⟩

set_option maxHeartbeats 8000000 in
theorem rFirst_any (v : Value) (L : Lt) (wv : Value) (x : List Int) (N : Nat) (w : World) (hN : L.n = (N : Int)) (hN6 : N ≤ 6) (hw : ∀ z ∈ x, 0 ≤ z ∧ z < (N : Int)) (hlen : x.length ≤ 1000) (hv : IsLt w v L) (hx : IsWd w wv x) :
    Calls Try.prog 69 #[v, wv] w fun e w' => ∃ u, e = .returned u ∧ Seg w' w.heap.size 3 1 u x.length ((first (dep L) N x).map (.int .i64)) ∧ Grew w w' := by
  have HST := hid (fun (lv : Value) (y : List Int) (W : World) (hy : Grew w W) (hr : IsInts Any W lv y) => rStarts_any v L lv y N W hN hN6 (hv.grew hy) hr)
  have HFR := hid (fun (lv : Value) (y : List Int) (a : Int) (W : World) (hy : Grew w W) (hr : IsInts Any W lv y) => free_any v L lv y a W (hv.grew hy) hr)
  obtain ⟨s, rfl, hps⟩ := hv
  rw [hN] at HST HFR ⊢
  obtain ⟨W0, hW0, g0, k0, k1, hz⟩ := box2 w (.int .i64 (N : Int)) s 24
  obtain ⟨m, hmm⟩ : ∃ m, x.length = m := ⟨_, rfl⟩
  obtain ⟨F, hF⟩ : ∃ F, first (dep L) N x = F := ⟨_, rfl⟩
  rw [hF]
  rw [hmm] at hlen ⊢
  have HX := hid ((hx.off.re (S' := fun k _ => (Value.slice none 0 0).ownBlock ≠ some k) (fun k o _ _ e => by simp [Value.ownBlock] at e)).grew g0)
  have HFX := hid (show F = [] ++ firstN (dep L) N x.length x from by rw [← hF]; rfl)
  have HW := hid hw
  have hg := g0
  clear hF hps hx hw
  go_enter Try.func69, Try.ntmps69
  go_wp2
  go_loopg [5, 6, 7] m (fun k out lv _ wr => ∃ (y : List Int) (c : Nat), k = y.length ∧ c + y.length = m ∧ Hid (∀ z ∈ y, 0 ≤ z ∧ z < (N : Int)) ∧ Hid (∃ pre, F = pre ++ firstN (dep L) N y.length y ∧ c = pre.length ∧ Seg wr W0.heap.size 3 1 out c (pre.map (.int .i64))) ∧ Hid (WdOff (fun k _ => out.ownBlock ≠ some k) wr lv y) ∧ Hid (Grew W0 wr))
  case atStart => exact ⟨x, 0, hmm.symm, by omega, HW, hid ⟨[], HFX.out, rfl, Seg.nil _ _ _ _⟩, HX, hid (grew_refl _)⟩
  case round =>
    obtain ⟨y, c, hk, hcy, HWY, HPRE, HLV, HG⟩ := hrel
    have HK := hid hk; clear hk
    rename World => wr
    obtain ⟨⟨la, lc, hlv, hlc⟩, -⟩ := HLV.out
    obtain ⟨n, hn⟩ : ∃ n, y.length = n := ⟨_, rfl⟩
    rw [hn] at hcy hlv
    subst hlv
    have HN := hid hn
    clear hlc
    by_cases hn0 : 0 < n
    · have hg := grew_trans g0 HG.out
      have kw0 := (HG.out.cell (p := ⟨w.heap.size, 0, none⟩) hz).trans k0
      have kw1 := (HG.out.cell (p := ⟨w.heap.size, 1, none⟩) hz).trans k1
      have hzw := Nat.lt_of_lt_of_le hz HG.out.size
      have hwr := HG.out.size
      have hne : y ≠ [] := by intro e; rw [e] at hn; simp at hn; omega
      have hst := starts_ne (D := dep L) HWY.out hne
      obtain ⟨a, l, hal⟩ := List.exists_cons_of_ne_nil hst
      have hfs := (mem_starts.1 (show a ∈ starts (dep L) N y by rw [hal]; simp)).2
      obtain ⟨i, hi⟩ := Option.isSome_iff_exists.1 hfs
      obtain ⟨hil, -⟩ := free_lt hi
      have hfc := firstN_cons (m := n - 1) hal hi (by omega)
      have hS := HST.out _ y wr hg HLV.out.wd.ints
      rw [hal] at hS
      obtain ⟨M, hM⟩ : ∃ M, (a :: l).length = M := ⟨_, rfl⟩
      have hM0 : 0 < M := by rw [← hM]; simp
      rw [hM] at hS
      have hce : ((a :: l).map (Value.int .i64))[0]? = some (.int .i64 a) := rfl
      obtain ⟨ms, hms⟩ : ∃ ms, (a :: l).map (Value.int .i64) = ms := ⟨_, rfl⟩
      rw [hms] at hS hce
      have HCE := hid hce
      have HS := hid hS
      have HFC := hid hfc
      have HI := hid hi
      have HIL := hid hil
      have hin : i < n := by omega
      have hel : (y.eraseIdx i).length = n - 1 := by rw [List.length_eraseIdx, if_pos hil]; omega
      have HEL := hid hel
      obtain ⟨pre, hp1, hp2, hp3⟩ := HPRE.out
      have HP1 := hid hp1
      have HP2 := hid hp2
      obtain ⟨vs, hvs⟩ : ∃ vs, pre.map (Value.int .i64) = vs := ⟨_, rfl⟩
      rw [hvs] at hp3
      have HP3 := hid hp3
      have HVS := hid hvs
      clear hS hst hal hfs hi hil hfc hM hne hn hce hms hel hp1 hp2 hp3 hvs
      go_wp2_with (first
        | (go_at_call 94; (with_reducible refine HS.out.mono ?_); go_loud (
            rintro e w1 ⟨u, rfl, hsg, hx1⟩
            obtain ⟨g, off, cap, cur, rfl, -, hgo, hcell⟩ := hsg.cell 0 (by omega)
            have hcell0 : w1.cell? ⟨g, off, none⟩ = some (.int .i64 a) := by have := hcell.trans HCE.out; simpa using this
            have hgl := lt_of_obj hgo
            have HX1 := hid hx1
            have hw1 := hx1.size
            have hseg := HP3.out.grew hx1
            clear hsg hx1 hcell hgo))
        | (at_builtin; refine wpList_append_one rfl _ _ 25 rfl W0.heap.size 3 Try.underlying25 Try.info3 rfl (by decide) _ c _ rfl (hseg.alloc _) _ _ _ rfl (one_new _ _ _) rfl (by omega) ?_ ?_; (simp only [World.size_alloc]; omega); go_loud (
            intro v9 w9 hown9 hgrow9 hblk9
            have hk9 := ((Keeps.refl (fun k _ => u5.ownBlock = some k) w1).alloc (.cells #[.int .i64 a] 3)).trans (keeps_of_grown hgrow9)
            have hb9 : Below W0.heap.size w1 w9 := hk9.below (by omega) (fun k o e => (hseg.own k e).1)
            have HG9 := hid (show Grew W0 w9 from (grew_trans HG.out HX1.out).trans hb9)
            have HL9 := hid (((HLV.out.grew HX1.out).re (S' := fun k _ => v9.ownBlock ≠ some k ∧ u5.ownBlock ≠ some k) (fun k o ho h => ⟨fun e => by
              rcases hblk9 with h9 | h9
              · exact h (h9 ▸ e)
              · rw [h9] at e; simp at e; have := lt_of_obj ho; omega, h⟩)).keeps hk9 (fun k o h e => h.2 e))
            have HOWN9 := hid hown9
            have hF9 := HFR.out _ y a w9 (grew_trans g0 HG9.out) HL9.out.wd.ints
            rw [HI.out, show ix (some i) = (i : Int) from rfl] at hF9
            have HF9 := hid hF9
            have kv0 := (HG9.out.cell (p := ⟨w.heap.size, 0, none⟩) hz).trans k0
            have kv1 := (HG9.out.cell (p := ⟨w.heap.size, 1, none⟩) hz).trans k1
            have hzv := Nat.lt_of_lt_of_le hz HG9.out.size
            clear hown9 hgrow9 hblk9 hk9 hb9 hseg hF9))
        | (go_at_call 98; (with_reducible refine HF9.out.mono ?_); rintro e w10 ⟨rfl, hx10⟩; have HX10 := hid hx10; clear hx10)
        | (go_at_call 97; (with_reducible refine (rWithout_any _ y i _ (by rw [HN.out]; exact hin) (by rw [HN.out]; omega) (HL9.out.grew HX10.out).wd).mono ?_); rintro e w11 ⟨v11, rfl, hs11, hx11⟩; have HS11 := hid hs11; have HX11 := hid hx11; clear hs11 hx11))
      go_roundg ((y.eraseIdx i).length)
      case measure => rw [HEL.out, HK.out, HN.out]; omega
      case rel =>
        refine ⟨y.eraseIdx i, c + 1, rfl, by rw [HEL.out]; omega, hid (fun z hz => HWY.out z (List.mem_of_mem_eraseIdx hz)), hid ⟨pre ++ [a], by rw [HP1.out, HFC.out]; simp, by rw [HP2.out]; simp, ?_⟩, hid ?_, hid (grew_trans HG9.out (grew_trans HX10.out HX11.out))⟩
        · rw [List.map_append, HVS.out]
          exact HOWN9.out.grew (grew_trans HX10.out HX11.out)
        · exact (WdOff.of_seg HS11.out).re (fun k o _ hk e => by have h1 := (HOWN9.out.own k e).2.1; have h2 := HX10.out.size; omega)
    · obtain rfl : n = 0 := by omega
      have hy0 : y = [] := List.length_eq_zero_iff.1 hn
      subst hy0
      have hgw := grew_trans g0 HG.out
      obtain ⟨pre, hp1, hp2, hp3⟩ := HPRE.out
      have hcm : c = m := by omega
      have hpF : F = pre := by rw [hp1]; simp [firstN]
      have HS := hid (show Seg wr w.heap.size 3 1 u5 m (F.map (.int .i64)) by rw [hpF, ← hcm]; exact hp3.mono g0.size)
      clear hp1 hp2 hp3 hcm hpF hn
      go_wp2
      go_ret
      exact ⟨_, rfl, HS.out, hgw⟩

end Go.Proofs.Ytddnpooffcjhnaa
