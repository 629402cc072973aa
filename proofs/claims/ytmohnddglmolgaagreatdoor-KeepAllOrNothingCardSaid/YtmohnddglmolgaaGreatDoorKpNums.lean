/- Walks: numbers (90), places (91). -/
import Derived.Test.YtmohnddglmolgaaGreatDoorKpNum
namespace Go.Proofs.YtmohnddglmolgaaGreatDoor
open Go Go.RowKit Go.Lin Go.Lin.Kp

/-- A slice of words. -/
abbrev IsWds (S : Nat → Obj → Prop) (w : World) (v : Value) (ws : List ByteArray) : Prop := Reads S w v ws.length (fun i => .string (ws.getD i ByteArray.empty))

/-- The bytes of words. -/
abbrev bytesOf (ws : List ByteArray) : List (List UInt8) := ws.map (·.data.toList)

/-- What a function leaves that gives numbers and whether they are. -/
def NumsLeft (w : World) (o : Option (List Int)) (e : Ending) (w' : World) : Prop := Grew w w' ∧ match o with
  | none => e = .returned (.tuple #[.slice none 0 0, .bool false])
  | some l => ∃ u, e = .returned (.tuple #[u, .bool true]) ∧ Seg w' w.heap.size 3 1 u l.length (l.map (.int .i64))

set_option maxHeartbeats 1000000 in
theorem numbers90_any (v : Value) (ws : List ByteArray) (w : World) (hv : IsWds Any w v ws) (hn : ws.length ≤ 1000000) (hs : ∀ x ∈ ws, x.size ≤ 1000000) :
    Calls Tryz.prog 90 #[v] w (NumsLeft w (numsM (bytesOf ws))) := by
  obtain ⟨a, cap, rfl, hm, hc⟩ := hv
  have HC := hid hc; have HS := hid hs
  clear hc hs
  obtain ⟨n, hnn⟩ : ∃ n, ws.length = n := ⟨_, rfl⟩
  rw [hnn] at HC hm hn ⊢
  have HN := hid hnn
  clear hnn
  go_enter Tryz.func90, Tryz.ntmps90
  go_wp2
  go_loopg [4, 6, 7, 8, 11] n (fun gk nv _ _ _ iv wr => ∃ (j : Nat) (l : List Int), j ≤ n ∧ iv = .int .i64 (j : Int) ∧ Hid (gk = n - j) ∧ Hid (numsM ((bytesOf ws).take j) = some l) ∧ Hid (Grew w wr) ∧ Hid (Seg wr w.heap.size 3 1 nv j (l.map (.int .i64))))
  case atStart => exact ⟨0, [], Nat.zero_le _, rfl, hid rfl, hid rfl, hid (grew_refl _), hid (Seg.nil _ _ _ _)⟩
  case round =>
    obtain ⟨j, l, hj, rfl, HGK, HL, HG, HSG⟩ := hrel
    rename World => wr
    by_cases hlt : j < n
    · obtain ⟨b, off, o, rfl, hb, _, hcj⟩ := HC.out j hlt
      have hcj0 := (HG.out.cell (p := ⟨b, off + j, none⟩) (lt_of_obj hb)).trans hcj
      have hjl : j < ws.length := by rw [HN.out]; exact hlt
      obtain ⟨x, hx⟩ : ∃ x, ws[j] = x := ⟨_, rfl⟩
      rw [List.getD_eq_getElem?_getD, List.getElem?_eq_getElem hjl, Option.getD_some, hx] at hcj0
      have HX := hid (fun W => number120_any x W (HS.out x (by rw [← hx]; exact List.getElem_mem hjl)))
      have hbj : (bytesOf ws)[j]'(by simpa using hjl) = x.data.toList := by simp [hx]
      have hll : l.length = j := by have := numsM_len HL.out; rw [this, List.length_take, List.length_map]; omega
      obtain ⟨q, hq⟩ : ∃ q, numM x.data.toList = q := ⟨_, rfl⟩
      rw [hq] at HX
      cases q with
      | none =>
        have hnone : numsM (bytesOf ws) = none := numsM_take_none (by simpa using hjl) HL.out (by rw [hbj]; exact hq)
        rw [hnone]
        clear hnone hq hbj hx hjl hb hcj
        go_wp2_with (go_at_call 120; (with_reducible refine (HX.out _).mono ?_); rintro e w1 ⟨rfl, hg⟩; have HG1 := hid hg; clear hg)
        go_ret2
        exact ⟨grew_trans HG.out HG1.out, rfl⟩
      | some m =>
        have htk : numsM ((bytesOf ws).take (j + 1)) = some (l ++ [m]) := by
          rw [List.take_add_one, List.getElem?_eq_getElem (by simpa using hjl), hbj]
          show numsM ((bytesOf ws).take j ++ [x.data.toList]) = _
          rw [numsM_snoc, HL.out, hq]
        have HTK := hid htk; have HLL := hid hll
        obtain ⟨na, nc, rfl, hsh⟩ := HSG.out.shape
        clear htk hq hbj hx hjl hb hcj hll hsh
        go_wp2_with (first
          | (go_at_call 120; (with_reducible refine (HX.out _).mono ?_); rintro e w1 ⟨rfl, hg⟩; have HG1 := hid hg; clear hg)
          | (at_builtin; refine wpList_append_one rfl _ _ 39 rfl w.heap.size 3 Tryz.underlying39 Tryz.info3 rfl (by decide) (.slice na j nc) j _ rfl ((HSG.out.grew HG1.out).alloc _) _ _ _ rfl (one_new _ _ _) rfl (by omega) ?_ ?_; (have := HG.out.size; have := HG1.out.size; simp only [World.size_alloc]; omega); intro v9 w9 hown9 hgrow9 hblk9; have hg9 : Grew w w9 := ((grew_trans HG.out HG1.out).alloc (grew_trans HG.out HG1.out).size _).grown hgrow9 ((grew_trans HG.out HG1.out).alloc (grew_trans HG.out HG1.out).size _).size (fun k e => (HSG.out.own k e).1); have HG9 := hid hg9; have HS9 := hid hown9; clear hown9 hgrow9 hblk9 hg9))
        go_roundg (n - (j + 1))
        case measure => have := HGK.out; omega
        case rel => exact ⟨j + 1, l ++ [m], by omega, by go_num, hid rfl, HTK, HG9, hid (by simpa using HS9.out)⟩
    · obtain rfl : j = n := by omega
      have htl : numsM (bytesOf ws) = some l := by have := HL.out; rw [List.take_of_length_le (by rw [List.length_map, HN.out]; exact Nat.le_refl _)] at this; exact this
      have hll : l.length = j := by rw [numsM_len htl, List.length_map, HN.out]
      have HLL := hid hll
      have HTL := hid htl
      clear htl hll
      go_wp2
      go_ret2
      refine ⟨HG.out, ?_⟩
      rw [HTL.out]
      exact ⟨_, rfl, by rw [HLL.out]; exact HSG.out⟩

/-! ### places -/

/-- The words of a text. -/
def wordsB (c : UInt8) (s : ByteArray) : List ByteArray := Lib.splitB ⟨#[c]⟩ 0 (Lib.countB s ⟨#[c]⟩) s

theorem wordsB_bytes (c : UInt8) (s : ByteArray) : bytesOf (wordsB c s) = splitL c s.data.toList := splitB_one c s
theorem wordsB_len (c : UInt8) (s : ByteArray) : (wordsB c s).length = (splitL c s.data.toList).length := by rw [← wordsB_bytes, List.length_map]

theorem splitL_small (c : UInt8) : ∀ (l : List UInt8), ∀ x ∈ splitL c l, x.length ≤ l.length
  | [], x, h => by simp [splitL] at h; simp [h]
  | b :: l, x, h => by
    have ih := splitL_small c l
    unfold splitL at h
    split at h
    · rcases List.mem_cons.1 h with rfl | h
      · simp
      · have := ih x h; simp; omega
    · split at h
      · simp at h; simp [h]
      · rename_i y r hy
        rcases List.mem_cons.1 h with rfl | h
        · have := ih y (by rw [hy]; simp); simp; omega
        · have := ih x (by rw [hy]; simp [h]); simp; omega

theorem wordsB_small (c : UInt8) (s : ByteArray) : ∀ x ∈ wordsB c s, x.size ≤ s.size := fun x hx => by
  have h : x.data.toList ∈ splitL c s.data.toList := by rw [← wordsB_bytes]; exact List.mem_map_of_mem (f := fun z : ByteArray => z.data.toList) hx
  have := splitL_small c _ _ h
  simpa using this

/-- strings.Split at one byte. -/
theorem split89_any (c : UInt8) (s : ByteArray) (w : World) (hs : s.size ≤ 1000000) (hL : Lay w) :
    Calls Tryz.prog 89 #[.string s, .string ⟨#[c]⟩] w fun e w' => e = .returned (.slice (some ⟨w.heap.size, 0, none⟩) (wordsB c s).length (wordsB c s).length) ∧ Grew w w' ∧ w'.heap[w.heap.size]? = some (.cells ((wordsB c s).map Value.string).toArray 9 (0, 0)) := by
  obtain ⟨m, hm⟩ := hL.max
  refine (Tryz.strings_Split s ⟨#[c]⟩ m w (by omega) hm (Nat.le_refl 1)).mono fun e w' ⟨he, hw⟩ => ⟨?_, by rw [hw]; exact grew_alloc (grew_refl _) _, by rw [hw]; exact heap_alloc_new w _⟩
  rw [he]
  have : (wordsB c s).length = Lib.countB s ⟨#[c]⟩ + 1 := Lib.splitB_all ⟨#[c]⟩ (show 1 ≤ 1 from Nat.le_refl 1) 0 _ s rfl
  rw [this]

theorem wds_of_row {w : World} {b : Nat} {ws : List ByteArray} (hb : w.heap[b]? = some (.cells (ws.map Value.string).toArray 9 (0, 0))) (hn : ws.length ≤ 1000000) : IsWds (fun k _ => k = b) w (.slice (some ⟨b, 0, none⟩) ws.length ws.length) ws :=
  ⟨some ⟨b, 0, none⟩, _, rfl, by omega, fun i hi => ⟨b, 0, _, rfl, hb, rfl, by
    rw [Nat.zero_add, cell_of_row w b i _ _ _ hb]
    simp [List.getElem?_eq_getElem hi, List.getD_eq_getElem?_getD]⟩⟩

/-- As NumsLeft, but for where the numbers lie. -/
def PlacesLeft (w : World) (o : Option (List Int)) (e : Ending) (w' : World) : Prop := Grew w w' ∧ match o with
  | none => e = .returned (.tuple #[.slice none 0 0, .bool false])
  | some l => ∃ u base, e = .returned (.tuple #[u, .bool true]) ∧ Seg w' base 3 1 u l.length (l.map (.int .i64)) ∧ w.heap.size ≤ base

set_option maxHeartbeats 1000000 in
theorem places91_any (s : ByteArray) (w : World) (hs : s.size ≤ 100000) (hL : Lay w) :
    Calls Tryz.prog 91 #[.string s] w (PlacesLeft w (placesM s.data.toList)) := by
  have HSP := hid (split89_any 44 s w (by omega) hL)
  have hwl : (wordsB 44 s).length ≤ 100001 := by rw [wordsB_len]; have := splitL_len 44 s.data.toList; simp at this; omega
  have HNU := hid (fun (W : World) (hb : W.heap[w.heap.size]? = some (.cells ((wordsB 44 s).map Value.string).toArray 9 (0, 0))) => numbers90_any _ (wordsB 44 s) W ((wds_of_row hb (by omega)).mono fun _ _ _ => trivial) (by omega) (fun x hx => by have := wordsB_small 44 s x hx; omega))
  obtain ⟨ws, hws⟩ : ∃ ws, wordsB 44 s = ws := ⟨_, rfl⟩
  have hpl : placesM s.data.toList = if s.data.toList = [45] then some [] else numsM (bytesOf ws) := by unfold placesM; rw [← hws, wordsB_bytes]
  rw [hws] at HSP HNU hwl
  rw [hpl]
  clear hws hpl
  by_cases h45 : s.data.toList = [45]
  · rw [if_pos h45]
    have hse : s = ⟨#[45]⟩ := by
      cases s with | mk d => cases d with | mk l => simp at h45; rw [h45]
    subst hse
    go_enter Tryz.func91, Tryz.ntmps91
    go_wp2
    go_ret2
    exact ⟨grew_refl _, _, w.heap.size, rfl, Seg.nil _ _ _ _, Nat.le_refl _⟩
  · rw [if_neg h45]
    have e45 : (s.toList == [45]) = false := by rw [ByteArray.toList_eq]; simpa using h45
    clear h45
    obtain ⟨q, hq⟩ : ∃ q, numsM (bytesOf ws) = q := ⟨_, rfl⟩
    rw [hq] at HNU ⊢
    clear hq
    obtain ⟨n, hn⟩ : ∃ n, ws.length = n := ⟨_, rfl⟩
    rw [hn] at HSP HNU hwl
    clear hn
    cases q with
    | none =>
      go_enter Tryz.func91, Tryz.ntmps91
      go_wp2_with (first
        | (go_at_call 89; (with_reducible refine HSP.out.mono ?_); rintro e w1 ⟨rfl, hg, hb⟩; have HG := hid hg; have HB := hid hb; clear hg hb)
        | (go_at_call 90; (with_reducible refine (HNU.out _ HB.out).mono ?_); rintro e w2 ⟨hg, rfl⟩; have HG2 := hid hg; clear hg))
      go_ret2
      exact ⟨grew_trans HG.out HG2.out, rfl⟩
    | some l =>
      go_enter Tryz.func91, Tryz.ntmps91
      go_wp2_with (first
        | (go_at_call 89; (with_reducible refine HSP.out.mono ?_); rintro e w1 ⟨rfl, hg, hb⟩; have HG := hid hg; have HB := hid hb; clear hg hb)
        | (go_at_call 90; (with_reducible refine (HNU.out _ HB.out).mono ?_); rintro e w2 ⟨hg, u, rfl, hs⟩; have HG2 := hid hg; have HS2 := hid hs; clear hg hs))
      go_ret2
      exact ⟨grew_trans HG.out HG2.out, u, w1.heap.size, rfl, HS2.out, HG.out.size⟩

end Go.Proofs.YtmohnddglmolgaaGreatDoor
