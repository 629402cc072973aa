/- Walk of the reference: cells (98): the cells of a word. -/
import Derived.Test.YtmohnddglmolgaaGreatDoorKrSplit
import Derived.Test.YtmohnddglmolgaaGreatDoorKrNum
namespace Go.Proofs.YtmohnddglmolgaaGreatDoor
open Go Go.RowKit Go.Lin Go.Lin.Kp

set_option maxHeartbeats 2000000 in
set_option maxRecDepth 20000 in
theorem rcells98_any (s : ByteArray) (w : World) (hs : s.size ≤ 100000) : Calls Tryz.prog 98 #[.string s] w (PlacesLeft w (placesM s.data.toList)) := by
  have HSP := hid (rsplit94_any 44 44 rfl s w (by omega))
  have hln := splitL_len 44 s.data.toList
  have hpl : placesM s.data.toList = if s.data.toList = [45] then some [] else numsM (splitL 44 s.data.toList) := rfl
  rw [hpl]
  have hz : s.data.toList.length = s.size := by simp
  rw [hz] at hln
  by_cases h45 : s.data.toList = [45]
  · rw [if_pos h45]
    have hse : s = ⟨#[45]⟩ := by
      cases s with | mk d => cases d with | mk l => simp at h45; rw [h45]
    subst hse
    clear hpl hz hln h45
    go_enter Tryz.func98, Tryz.ntmps98
    go_wp2
    go_ret2
    exact ⟨grew_refl _, _, w.heap.size, rfl, Seg.nil _ _ _ _, Nat.le_refl _⟩
  · rw [if_neg h45]
    have e45 : (s.toList == [45]) = false := by rw [ByteArray.toList_eq]; simpa using h45
    obtain ⟨sl, hsl⟩ : ∃ x, splitL 44 s.data.toList = x := ⟨_, rfl⟩
    rw [hsl] at HSP ⊢
    clear h45 hpl hsl hz hln
    go_enter Tryz.func98, Tryz.ntmps98
    go_wp2_with (go_at_call 94; (with_reducible refine HSP.out.mono ?_); rintro e w1 ⟨u, ws, rfl, hsg, hws, hsm, hwl, hg⟩; have HSG1 := hid hsg; have HWS := hid hws; have HSM := hid hsm; have HWL := hid hwl; have HG1 := hid hg; clear hsg hws hsm hwl hg)
    obtain ⟨n, hn⟩ : ∃ n, ws.length = n := ⟨_, rfl⟩
    have HN := hid hn
    rw [hn] at HSG1 HWL
    have hn2 := HWL.out
    obtain ⟨ua, uc, rfl, -⟩ := HSG1.out.shape
    clear hn
    go_loopg [5, 6, 7, 8, 19] n (fun gk nv iv _ _ _ wr => ∃ (j : Nat) (l : List Int), j ≤ n ∧ iv = .int .i64 (j : Int) ∧ Hid (gk = n - j) ∧ Hid (numsM ((bytesOf ws).take j) = some l) ∧ Hid (Grew w1 wr) ∧ Hid (Seg wr w1.heap.size 3 1 nv j (l.map (.int .i64))))
    case atStart => exact ⟨0, [], Nat.zero_le _, rfl, hid rfl, hid rfl, hid (grew_refl _), hid (Seg.nil _ _ _ _)⟩
    case round =>
      obtain ⟨j, l, hj, rfl, HGK, HL, HG, HSG⟩ := hrel
      rename World => wr
      by_cases hlt : j < n
      · have hjl : j < ws.length := by rw [HN.out]; exact hlt
        obtain ⟨x, hx⟩ : ∃ x, ws[j] = x := ⟨_, rfl⟩
        obtain ⟨g, off, c, cur, hv, hgb, hgo, -, -, hat⟩ := HSG1.out.at (by omega)
        simp only [Value.slice.injEq, true_and] at hv
        obtain ⟨rfl, rfl⟩ := hv
        have hc := hat j (by omega)
        rw [List.getElem?_map, List.getElem?_eq_getElem hjl, Option.map_some, hx] at hc
        have hc0 := (HG.out.cell (p := ⟨g, off + j, none⟩) (lt_of_obj hgo)).trans hc
        have hxs : x.size ≤ 1000000 := by have := HSM.out x (by rw [← hx]; exact List.getElem_mem hjl); omega
        have HX := hid (fun W => rnum97_any x W hxs)
        have hbj : (bytesOf ws)[j]'(by simpa using hjl) = x.data.toList := by simp [hx]
        have hll : l.length = j := by have := numsM_len HL.out; rw [this, List.length_take, List.length_map]; omega
        obtain ⟨q, hq⟩ : ∃ q, numM x.data.toList = q := ⟨_, rfl⟩
        rw [hq] at HX
        cases q with
        | none =>
          have hnone : numsM (bytesOf ws) = none := numsM_take_none (by simpa using hjl) HL.out (by rw [hbj]; exact hq)
          rw [HWS.out] at hnone
          have HNONE := hid hnone
          unfold rnumV at HX
          clear hnone hq hbj hx hjl hc hat hgo hgb hxs hll
          go_wp2_with (go_at_call 97; (with_reducible refine (HX.out _).mono ?_); rintro e w2 ⟨rfl, rfl⟩)
          go_ret2
          rw [HNONE.out]
          exact ⟨grew_trans HG1.out HG.out, rfl⟩
        | some m =>
          have htk : numsM ((bytesOf ws).take (j + 1)) = some (l ++ [m]) := by
            rw [List.take_add_one, List.getElem?_eq_getElem (by simpa using hjl), hbj]
            show numsM ((bytesOf ws).take j ++ [x.data.toList]) = _
            rw [numsM_snoc, HL.out, hq]
          have HTK := hid htk; have HLL := hid hll
          unfold rnumV at HX
          obtain ⟨na, nc, rfl, hsh⟩ := HSG.out.shape
          clear htk hq hbj hx hjl hc hat hgo hgb hxs hll hsh
          go_wp2_with (first
            | (go_at_call 97; (with_reducible refine (HX.out _).mono ?_); rintro e w2 ⟨rfl, rfl⟩)
            | (at_builtin; refine wpList_append_one rfl _ _ 39 rfl w1.heap.size 3 Tryz.underlying39 Tryz.info3 rfl (by decide) (.slice na j nc) j _ rfl (HSG.out.alloc _) _ _ _ rfl (one_new _ _ _) rfl (by omega) ?_ ?_; (have := HG.out.size; simp only [World.size_alloc]; omega); intro v9 w9 hown9 hgrow9 hblk9; have hg9 : Grew w1 w9 := (HG.out.alloc HG.out.size _).grown hgrow9 (HG.out.alloc HG.out.size _).size (fun k e => (HSG.out.own k e).1); have HG9 := hid hg9; have HS9 := hid hown9; clear hown9 hgrow9 hblk9 hg9))
          go_roundg (n - (j + 1))
          case measure => have := HGK.out; omega
          case rel => exact ⟨j + 1, l ++ [m], by omega, by go_num, hid rfl, HTK, HG9, hid (by simpa using HS9.out)⟩
      · obtain rfl : j = n := by omega
        have htl : numsM (bytesOf ws) = some l := by have := HL.out; rw [List.take_of_length_le (by rw [List.length_map, HN.out]; exact Nat.le_refl _)] at this; exact this
        have hll : l.length = j := by rw [numsM_len htl, List.length_map, HN.out]
        rw [HWS.out] at htl
        have HLL := hid hll
        have HTL := hid htl
        clear htl hll
        go_wp2
        go_ret2
        rw [HTL.out]
        exact ⟨grew_trans HG1.out HG.out, _, w1.heap.size, rfl, by rw [HLL.out]; exact HSG.out, HG1.out.size⟩

end Go.Proofs.YtmohnddglmolgaaGreatDoor
