/- Walks: number (120), numbers (90), places (91). Walks: numbers (90), places (91). Walk: parse (48). Printed by gen_kpparse.py. -/
import Derived.Test.YtmohnddglmolgaaGreatDoorKpPlayM
import Derived.Test.YtmohnddglmolgaaGreatDoorKpShelf
import Derived.Test.YtmohnddglmolgaaGreatDoorKpStA
import Derived.Lib.AppendIntMem
import Derived.Lib.AtoiErrMem
import Derived.BigQuiet
import Derived.Lib.ItoaLen
namespace Go.Proofs.YtmohnddglmolgaaGreatDoor
open Go Go.RowKit Go.Lin Go.Lin.Kp

/-- What the library's variables hold. -/
structure Lay (w : World) : Prop where
  tab : Lib.TabIs Tryz.prog w "internal/strconv.uint64pow10" .u64 Lib.pow10Tab
  max : ∃ m, w.cell? ⟨1, 0, none⟩ = some (.int .i64 m)

theorem var_keeps {P : Program} {w w' : World} {n : String} {cs : Array Value} {may : Nat → Obj → Prop} (h : w.var? P n = some cs) (hk : Keeps may w w') (hm : ∀ g, P.globalNamed n = some g → ∀ o, ¬ may g o) : w'.var? P n = some cs := by
  unfold World.var? at h ⊢
  cases hg : P.globalNamed n with
  | none => rw [hg] at h; cases h
  | some g =>
    rw [hg] at h
    simp only [Option.bind_some] at h ⊢
    cases ho : w.heap[g]? with
    | none => rw [ho] at h; cases h
    | some o => rw [hk.obj g o ho (hm g hg o)]; rw [ho] at h; exact h

theorem Lay.grew {w w' : World} (h : Lay w) (hg : Grew w w') : Lay w' := by
  obtain ⟨h1, m, h2⟩ := h
  exact ⟨var_keeps (may := fun _ _ => False) h1 hg.keeps (fun _ _ _ h => h), m, (hg.cell (p := ⟨1, 0, none⟩) (World.block_lt_of_cell? w _ h2)).trans h2⟩

theorem itoa47_any (n : Int) (h0 : -9223372036854775808 ≤ n) (h1 : n ≤ 9223372036854775807) (w : World) (h : Lay w) :
    Calls Tryz.prog 47 #[.int .i64 n] w fun e w' => e = .returned (.string ⟨(Lib.itoa n).toArray⟩) ∧ Grew w w' :=
  (Tryz.strconv_Itoa n h0 h1 w h.tab).mono fun e w' ⟨he, k, os, hw⟩ => ⟨he, by rw [hw]; exact Lib.below_grow _ w (Nat.le_refl _) k os⟩

theorem noDig145_any (r : Nat) (w : World) : Calls Tryz.prog 145 #[.int .i32 (r : Int)] w fun e w' => e = .returned (.bool (noDig r)) ∧ w = w' := by
  unfold noDig
  by_cases h1 : r < 48
  · have h1' : decide (r < 48) = true := by simpa using h1
    have h2 : ((r : Int) < 48) := by omega
    have h3 : decide ((r : Int) < 48) = true := by simpa using h2
    rw [h1']
    go_enter Tryz.func145, Tryz.ntmps145
    go_wp2
    go_ret
    exact ⟨rfl, rfl⟩
  · have h1' : decide (r < 48) = false := by simpa using h1
    have h3 : decide ((r : Int) < 48) = false := by simp; omega
    rw [h1']
    obtain ⟨b, hb⟩ : ∃ b, decide (57 < r) = b := ⟨_, rfl⟩
    have hb2 : decide ((57 : Int) < (r : Int)) = b := by rw [← hb]; rw [Bool.eq_iff_iff]; simp; omega
    rw [hb]
    have HB := hid hb
    clear hb h1
    cases b
    all_goals
      go_enter Tryz.func145, Tryz.ntmps145
      go_wp2
      go_ret
      exact ⟨rfl, rfl⟩

theorem containsFunc144_any (s : ByteArray) (w : World) : Calls Tryz.prog 144 #[.string s, .func (.func 145) #[] #[]] w fun e w' => e = .returned (.bool (!s.data.toList.all isDig)) ∧ Grew w w' := by
  rw [← contains_digits]
  refine Tryz.strings_ContainsFunc 145 #[] (fun _ _ => by kernel_rfl) noDig s w ?_
  intro W x _
  exact (noDig145_any x W).mono fun e w' ⟨a, b⟩ => ⟨a, 0, b.symm⟩

theorem atoi146_any (s : ByteArray) (hd : s.data.toList.all isDig = true) (hne : s.data.toList ≠ []) (hl : s.size ≤ 4) (w : World) :
    Calls Tryz.prog 146 #[.string s] w fun e w' => e = .returned (.tuple #[.int .i64 (numVal 0 s.data.toList : Int), .nilIface]) ∧ Grew w w' :=
  (Tryz.strconv_Atoi s _ (by omega) (atoi_digits _ hd hne) w).mono fun e w' ⟨he, t, hw⟩ => ⟨he, by rw [hw]; exact Lib.bytesWorld_below w 5 t⟩

/-- What a function says that gives a number and whether it is one. -/
abbrev numV (o : Option Int) : Value := match o with
  | some n => .tuple #[.int .i64 n, .bool true]
  | none => .tuple #[.int .i64 0, .bool false]

set_option maxHeartbeats 1000000 in
theorem number120_any (s : ByteArray) (w : World) (hs : s.size ≤ 1000000) : Calls Tryz.prog 120 #[.string s] w fun e w' => e = .returned (numV (numM s.data.toList)) ∧ Grew w w' := by
  have hlen : s.data.toList.length = s.size := by simp
  have HCF := hid (fun W => containsFunc144_any s W)
  by_cases h1 : s.size < 1
  · have e1 : decide ((s.size : Int) < 1) = true := by simp; omega
    have hn : numM s.data.toList = none := by unfold numM; rw [if_neg]; rw [hlen]; omega
    rw [hn]
    clear hn hlen
    go_enter Tryz.func120, Tryz.ntmps120
    go_wp2_with (go_at_call 144; (with_reducible refine (HCF.out _).mono ?_); rintro e w1 ⟨rfl, hg⟩; have HG := hid hg; clear hg)
    go_ret2
    exact ⟨rfl, grew_refl _⟩
  · have e1 : decide ((s.size : Int) < 1) = false := by simp; omega
    by_cases h4 : 4 < s.size
    · have e4 : decide ((4 : Int) < (s.size : Int)) = true := by simp; omega
      have hn : numM s.data.toList = none := by unfold numM; rw [if_neg]; rw [hlen]; omega
      rw [hn]
      clear hn hlen
      go_enter Tryz.func120, Tryz.ntmps120
      go_wp2_with (go_at_call 144; (with_reducible refine (HCF.out _).mono ?_); rintro e w1 ⟨rfl, hg⟩; have HG := hid hg; clear hg)
      go_ret2
      exact ⟨rfl, grew_refl _⟩
    · have e4 : decide ((4 : Int) < (s.size : Int)) = false := by simp; omega
      have h0 : 0 < s.size := by omega
      have h0I : (0 : Int) < (s.size : Int) := by omega
      have hhd : s.data.toList.head? = some s[0] := by
        rw [List.head?_eq_getElem?, List.getElem?_eq_getElem (by rw [hlen]; exact h0)]
        rfl
      obtain ⟨da, hda⟩ : ∃ da, s.data.toList.all isDig = da := ⟨_, rfl⟩
      rw [hda] at HCF
      have HDA := hid hda
      have HAT := hid (fun (h : da = true) W => atoi146_any s (hda.trans h) (fun e => by have := hlen; rw [e] at this; simp at this; omega) (by omega) W)
      clear hda
      by_cases hz : 1 < s.size
      · have ez : decide ((1 : Int) < (s.size : Int)) = true := by simp; omega
        by_cases h48 : s[0].toNat = 48
        · have e48 : (((s[0].toNat : Nat) : Int) == 48) = true := by simp [h48]
          have hn : numM s.data.toList = none := by unfold numM; rw [if_neg]; rw [hlen, hhd]; rintro ⟨_, _, h3, _⟩; exact h3 ⟨hz, by rw [show s[0] = 48 from UInt8.toNat_inj.1 h48]⟩
          rw [hn]
          clear hn hlen h48 hhd
          go_enter Tryz.func120, Tryz.ntmps120
          go_wp2_with (go_at_call 144; (with_reducible refine (HCF.out _).mono ?_); rintro e w1 ⟨rfl, hg⟩; have HG := hid hg; clear hg)
          go_ret2
          exact ⟨rfl, grew_refl _⟩
        · have e48 : (((s[0].toNat : Nat) : Int) == 48) = false := by rw [beq_eq_false_iff_ne]; omega
          have hz48 : ¬ (1 < s.size ∧ s.data.toList.head? = some 48) := by rintro ⟨_, h⟩; rw [hhd] at h; have h := Option.some.inj h; rw [h] at h48; exact h48 rfl
          clear h48
          cases da with
          | false =>
            have hn : numM s.data.toList = none := by unfold numM; rw [if_neg]; rw [hlen, HDA.out]; simp
            rw [hn]
            clear hn hlen hhd HAT
            go_enter Tryz.func120, Tryz.ntmps120
            go_wp2_with (go_at_call 144; (with_reducible refine (HCF.out _).mono ?_); rintro e w1 ⟨rfl, hg⟩; have HG := hid hg; clear hg)
            go_ret2
            exact ⟨rfl, HG.out⟩
          | true =>
            have hn : numM s.data.toList = some (numVal 0 s.data.toList : Int) := by unfold numM; rw [if_pos]; rw [hlen, HDA.out]; exact ⟨by omega, by omega, hz48, rfl⟩
            rw [hn]
            replace HAT := hid (HAT.out rfl)
            obtain ⟨v, hv⟩ : ∃ v, (numVal 0 s.data.toList : Int) = v := ⟨_, rfl⟩
            rw [hv] at HAT ⊢
            clear hn hlen hhd hv
            go_enter Tryz.func120, Tryz.ntmps120
            go_wp2_with (first
              | (go_at_call 144; (with_reducible refine (HCF.out _).mono ?_); rintro e w1 ⟨rfl, hg⟩; have HG := hid hg; clear hg)
              | (go_at_call 146; (with_reducible refine (HAT.out _).mono ?_); rintro e w2 ⟨rfl, hg⟩; have HG2 := hid hg; clear hg))
            go_quiet (fail)
            go_wp2
            go_ret2
            exact ⟨rfl, grew_drewN (grew_trans HG.out HG2.out) _⟩
      · have ez : decide ((1 : Int) < (s.size : Int)) = false := by simp; omega
        have hz48 : ¬ (1 < s.size ∧ s.data.toList.head? = some 48) := fun h => hz h.1
        cases da with
        | false =>
          have hn : numM s.data.toList = none := by unfold numM; rw [if_neg]; rw [hlen, HDA.out]; simp
          rw [hn]
          clear hn hlen hhd HAT
          go_enter Tryz.func120, Tryz.ntmps120
          go_wp2_with (go_at_call 144; (with_reducible refine (HCF.out _).mono ?_); rintro e w1 ⟨rfl, hg⟩; have HG := hid hg; clear hg)
          go_ret2
          exact ⟨rfl, HG.out⟩
        | true =>
          have hn : numM s.data.toList = some (numVal 0 s.data.toList : Int) := by unfold numM; rw [if_pos]; rw [hlen, HDA.out]; exact ⟨by omega, by omega, hz48, rfl⟩
          rw [hn]
          replace HAT := hid (HAT.out rfl)
          obtain ⟨v, hv⟩ : ∃ v, (numVal 0 s.data.toList : Int) = v := ⟨_, rfl⟩
          rw [hv] at HAT ⊢
          clear hn hlen hhd hv
          go_enter Tryz.func120, Tryz.ntmps120
          go_wp2_with (first
            | (go_at_call 144; (with_reducible refine (HCF.out _).mono ?_); rintro e w1 ⟨rfl, hg⟩; have HG := hid hg; clear hg)
            | (go_at_call 146; (with_reducible refine (HAT.out _).mono ?_); rintro e w2 ⟨rfl, hg⟩; have HG2 := hid hg; clear hg))
          go_quiet (fail)
          go_wp2
          go_ret2
          exact ⟨rfl, grew_drewN (grew_trans HG.out HG2.out) _⟩

end Go.Proofs.YtmohnddglmolgaaGreatDoor
namespace Go.Proofs.YtmohnddglmolgaaGreatDoor
open Go Go.RowKit Go.Lin Go.Lin.Kp

/-- A slice of words. -/
abbrev IsWds (S : Nat → Obj → Prop) (w : World) (v : Value) (ws : List ByteArray) : Prop := Reads S w v ws.length (fun i => .string (ws.getD i ByteArray.empty))

/-- The bytes of words. -/
abbrev bytesOf (ws : List ByteArray) : List (List UInt8) := ws.map (·.data.toList)

/-- What a function leaves that gives numbers and whether they are. -/
def NumsLeft (w : World) (o : Option (List Int)) (e : Ending) (w' : World) : Prop := Grew w w' ∧ match o with
  | none => e = .returned (.tuple #[.slice none 0 0, .bool false])
  | some l => ∃ u, e = .returned (.tuple #[u, .bool true]) ∧ Seg w' w.heap.size 3 1 u l.length (l.map (.int .i64))

set_option maxHeartbeats 1000000 in
theorem numbers90_any (v : Value) (ws : List ByteArray) (w : World) (hv : IsWds Any w v ws) (hn : ws.length ≤ 1000000) (hs : ∀ x ∈ ws, x.size ≤ 1000000) :
    Calls Tryz.prog 90 #[v] w (NumsLeft w (numsM (bytesOf ws))) := by
  obtain ⟨a, cap, rfl, hm, hc⟩ := hv
  have HC := hid hc; have HS := hid hs
  clear hc hs
  obtain ⟨n, hnn⟩ : ∃ n, ws.length = n := ⟨_, rfl⟩
  rw [hnn] at HC hm hn ⊢
  have HN := hid hnn
  clear hnn
  go_enter Tryz.func90, Tryz.ntmps90
  go_wp2
  go_loopg [4, 6, 7, 8, 11] n (fun gk nv _ _ _ iv wr => ∃ (j : Nat) (l : List Int), j ≤ n ∧ iv = .int .i64 (j : Int) ∧ Hid (gk = n - j) ∧ Hid (numsM ((bytesOf ws).take j) = some l) ∧ Hid (Grew w wr) ∧ Hid (Seg wr w.heap.size 3 1 nv j (l.map (.int .i64))))
  case atStart => exact ⟨0, [], Nat.zero_le _, rfl, hid rfl, hid rfl, hid (grew_refl _), hid (Seg.nil _ _ _ _)⟩
  case round =>
    obtain ⟨j, l, hj, rfl, HGK, HL, HG, HSG⟩ := hrel
    rename World => wr
    by_cases hlt : j < n
    · obtain ⟨b, off, o, rfl, hb, _, hcj⟩ := HC.out j hlt
      have hcj0 := (HG.out.cell (p := ⟨b, off + j, none⟩) (lt_of_obj hb)).trans hcj
      have hjl : j < ws.length := by rw [HN.out]; exact hlt
      obtain ⟨x, hx⟩ : ∃ x, ws[j] = x := ⟨_, rfl⟩
      rw [List.getD_eq_getElem?_getD, List.getElem?_eq_getElem hjl, Option.getD_some, hx] at hcj0
      have HX := hid (fun W => number120_any x W (HS.out x (by rw [← hx]; exact List.getElem_mem hjl)))
      have hbj : (bytesOf ws)[j]'(by simpa using hjl) = x.data.toList := by simp [hx]
      have hll : l.length = j := by have := numsM_len HL.out; rw [this, List.length_take, List.length_map]; omega
      obtain ⟨q, hq⟩ : ∃ q, numM x.data.toList = q := ⟨_, rfl⟩
      rw [hq] at HX
      cases q with
      | none =>
        have hnone : numsM (bytesOf ws) = none := numsM_take_none (by simpa using hjl) HL.out (by rw [hbj]; exact hq)
        rw [hnone]
        clear hnone hq hbj hx hjl hb hcj
        go_wp2_with (go_at_call 120; (with_reducible refine (HX.out _).mono ?_); rintro e w1 ⟨rfl, hg⟩; have HG1 := hid hg; clear hg)
        go_ret2
        exact ⟨grew_trans HG.out HG1.out, rfl⟩
      | some m =>
        have htk : numsM ((bytesOf ws).take (j + 1)) = some (l ++ [m]) := by
          rw [List.take_add_one, List.getElem?_eq_getElem (by simpa using hjl), hbj]
          show numsM ((bytesOf ws).take j ++ [x.data.toList]) = _
          rw [numsM_snoc, HL.out, hq]
        have HTK := hid htk; have HLL := hid hll
        obtain ⟨na, nc, rfl, hsh⟩ := HSG.out.shape
        clear htk hq hbj hx hjl hb hcj hll hsh
        go_wp2_with (first
          | (go_at_call 120; (with_reducible refine (HX.out _).mono ?_); rintro e w1 ⟨rfl, hg⟩; have HG1 := hid hg; clear hg)
          | (at_builtin; refine wpList_append_one rfl _ _ 39 rfl w.heap.size 3 Tryz.underlying39 Tryz.info3 rfl (by decide) (.slice na j nc) j _ rfl ((HSG.out.grew HG1.out).alloc _) _ _ _ rfl (one_new _ _ _) rfl (by omega) ?_ ?_; (have := HG.out.size; have := HG1.out.size; simp only [World.size_alloc]; omega); intro v9 w9 hown9 hgrow9 hblk9; have hg9 : Grew w w9 := ((grew_trans HG.out HG1.out).alloc (grew_trans HG.out HG1.out).size _).grown hgrow9 ((grew_trans HG.out HG1.out).alloc (grew_trans HG.out HG1.out).size _).size (fun k e => (HSG.out.own k e).1); have HG9 := hid hg9; have HS9 := hid hown9; clear hown9 hgrow9 hblk9 hg9))
        go_roundg (n - (j + 1))
        case measure => have := HGK.out; omega
        case rel => exact ⟨j + 1, l ++ [m], by omega, by go_num, hid rfl, HTK, HG9, hid (by simpa using HS9.out)⟩
    · obtain rfl : j = n := by omega
      have htl : numsM (bytesOf ws) = some l := by have := HL.out; rw [List.take_of_length_le (by rw [List.length_map, HN.out]; exact Nat.le_refl _)] at this; exact this
      have hll : l.length = j := by rw [numsM_len htl, List.length_map, HN.out]
      have HLL := hid hll
      have HTL := hid htl
      clear htl hll
      go_wp2
      go_ret2
      refine ⟨HG.out, ?_⟩
      rw [HTL.out]
      exact ⟨_, rfl, by rw [HLL.out]; exact HSG.out⟩

/-! ### places -/

/-- The words of a text. -/
def wordsB (c : UInt8) (s : ByteArray) : List ByteArray := Lib.splitB ⟨#[c]⟩ 0 (Lib.countB s ⟨#[c]⟩) s

theorem wordsB_bytes (c : UInt8) (s : ByteArray) : bytesOf (wordsB c s) = splitL c s.data.toList := splitB_one c s
theorem wordsB_len (c : UInt8) (s : ByteArray) : (wordsB c s).length = (splitL c s.data.toList).length := by rw [← wordsB_bytes, List.length_map]

theorem splitL_small (c : UInt8) : ∀ (l : List UInt8), ∀ x ∈ splitL c l, x.length ≤ l.length
  | [], x, h => by simp [splitL] at h; simp [h]
  | b :: l, x, h => by
    have ih := splitL_small c l
    unfold splitL at h
    split at h
    · rcases List.mem_cons.1 h with rfl | h
      · simp
      · have := ih x h; simp; omega
    · split at h
      · simp at h; simp [h]
      · rename_i y r hy
        rcases List.mem_cons.1 h with rfl | h
        · have := ih y (by rw [hy]; simp); simp; omega
        · have := ih x (by rw [hy]; simp [h]); simp; omega

theorem wordsB_small (c : UInt8) (s : ByteArray) : ∀ x ∈ wordsB c s, x.size ≤ s.size := fun x hx => by
  have h : x.data.toList ∈ splitL c s.data.toList := by rw [← wordsB_bytes]; exact List.mem_map_of_mem (f := fun z : ByteArray => z.data.toList) hx
  have := splitL_small c _ _ h
  simpa using this

/-- strings.Split at one byte. -/
theorem split89_any (c : UInt8) (s : ByteArray) (w : World) (hs : s.size ≤ 1000000) (hL : Lay w) :
    Calls Tryz.prog 89 #[.string s, .string ⟨#[c]⟩] w fun e w' => e = .returned (.slice (some ⟨w.heap.size, 0, none⟩) (wordsB c s).length (wordsB c s).length) ∧ Grew w w' ∧ w'.heap[w.heap.size]? = some (.cells ((wordsB c s).map Value.string).toArray 9 (0, 0)) := by
  obtain ⟨m, hm⟩ := hL.max
  refine (Tryz.strings_Split s ⟨#[c]⟩ m w (by omega) hm (Nat.le_refl 1)).mono fun e w' ⟨he, hw⟩ => ⟨?_, by rw [hw]; exact grew_alloc (grew_refl _) _, by rw [hw]; exact heap_alloc_new w _⟩
  rw [he]
  have : (wordsB c s).length = Lib.countB s ⟨#[c]⟩ + 1 := Lib.splitB_all ⟨#[c]⟩ (show 1 ≤ 1 from Nat.le_refl 1) 0 _ s rfl
  rw [this]

theorem wds_of_row {w : World} {b : Nat} {ws : List ByteArray} (hb : w.heap[b]? = some (.cells (ws.map Value.string).toArray 9 (0, 0))) (hn : ws.length ≤ 1000000) : IsWds (fun k _ => k = b) w (.slice (some ⟨b, 0, none⟩) ws.length ws.length) ws :=
  ⟨some ⟨b, 0, none⟩, _, rfl, by omega, fun i hi => ⟨b, 0, _, rfl, hb, rfl, by
    rw [Nat.zero_add, cell_of_row w b i _ _ _ hb]
    simp [List.getElem?_eq_getElem hi, List.getD_eq_getElem?_getD]⟩⟩

/-- As NumsLeft, but for where the numbers lie. -/
def PlacesLeft (w : World) (o : Option (List Int)) (e : Ending) (w' : World) : Prop := Grew w w' ∧ match o with
  | none => e = .returned (.tuple #[.slice none 0 0, .bool false])
  | some l => ∃ u base, e = .returned (.tuple #[u, .bool true]) ∧ Seg w' base 3 1 u l.length (l.map (.int .i64)) ∧ w.heap.size ≤ base

set_option maxHeartbeats 1000000 in
theorem places91_any (s : ByteArray) (w : World) (hs : s.size ≤ 100000) (hL : Lay w) :
    Calls Tryz.prog 91 #[.string s] w (PlacesLeft w (placesM s.data.toList)) := by
  have HSP := hid (split89_any 44 s w (by omega) hL)
  have hwl : (wordsB 44 s).length ≤ 100001 := by rw [wordsB_len]; have := splitL_len 44 s.data.toList; simp at this; omega
  have HNU := hid (fun (W : World) (hb : W.heap[w.heap.size]? = some (.cells ((wordsB 44 s).map Value.string).toArray 9 (0, 0))) => numbers90_any _ (wordsB 44 s) W ((wds_of_row hb (by omega)).mono fun _ _ _ => trivial) (by omega) (fun x hx => by have := wordsB_small 44 s x hx; omega))
  obtain ⟨ws, hws⟩ : ∃ ws, wordsB 44 s = ws := ⟨_, rfl⟩
  have hpl : placesM s.data.toList = if s.data.toList = [45] then some [] else numsM (bytesOf ws) := by unfold placesM; rw [← hws, wordsB_bytes]
  rw [hws] at HSP HNU hwl
  rw [hpl]
  clear hws hpl
  by_cases h45 : s.data.toList = [45]
  · rw [if_pos h45]
    have hse : s = ⟨#[45]⟩ := by
      cases s with | mk d => cases d with | mk l => simp at h45; rw [h45]
    subst hse
    go_enter Tryz.func91, Tryz.ntmps91
    go_wp2
    go_ret2
    exact ⟨grew_refl _, _, w.heap.size, rfl, Seg.nil _ _ _ _, Nat.le_refl _⟩
  · rw [if_neg h45]
    have e45 : (s.toList == [45]) = false := by rw [ByteArray.toList_eq]; simpa using h45
    clear h45
    obtain ⟨q, hq⟩ : ∃ q, numsM (bytesOf ws) = q := ⟨_, rfl⟩
    rw [hq] at HNU ⊢
    clear hq
    obtain ⟨n, hn⟩ : ∃ n, ws.length = n := ⟨_, rfl⟩
    rw [hn] at HSP HNU hwl
    clear hn
    cases q with
    | none =>
      go_enter Tryz.func91, Tryz.ntmps91
      go_wp2_with (first
        | (go_at_call 89; (with_reducible refine HSP.out.mono ?_); rintro e w1 ⟨rfl, hg, hb⟩; have HG := hid hg; have HB := hid hb; clear hg hb)
        | (go_at_call 90; (with_reducible refine (HNU.out _ HB.out).mono ?_); rintro e w2 ⟨hg, rfl⟩; have HG2 := hid hg; clear hg))
      go_ret2
      exact ⟨grew_trans HG.out HG2.out, rfl⟩
    | some l =>
      go_enter Tryz.func91, Tryz.ntmps91
      go_wp2_with (first
        | (go_at_call 89; (with_reducible refine HSP.out.mono ?_); rintro e w1 ⟨rfl, hg, hb⟩; have HG := hid hg; have HB := hid hb; clear hg hb)
        | (go_at_call 90; (with_reducible refine (HNU.out _ HB.out).mono ?_); rintro e w2 ⟨hg, u, rfl, hs⟩; have HG2 := hid hg; have HS2 := hid hs; clear hg hs))
      go_ret2
      exact ⟨grew_trans HG.out HG2.out, u, w1.heap.size, rfl, HS2.out, HG.out.size⟩

end Go.Proofs.YtmohnddglmolgaaGreatDoor
namespace Go.Lin.Kp
open Go Go.Lin

theorem decDigits_end (n : Nat) : ∃ B c, Lib.decDigits n = B ++ [c] ∧ isDig c = true := by
  rw [Lib.decDigits]
  split
  · rename_i h
    refine ⟨[], _, rfl, ?_⟩
    have : n = 0 ∨ n = 1 ∨ n = 2 ∨ n = 3 ∨ n = 4 ∨ n = 5 ∨ n = 6 ∨ n = 7 ∨ n = 8 ∨ n = 9 := by omega
    rcases this with rfl | rfl | rfl | rfl | rfl | rfl | rfl | rfl | rfl | rfl <;> decide
  · refine ⟨Lib.decDigits (n / 10), _, rfl, ?_⟩
    have h := Nat.mod_lt n (show 10 > 0 by decide)
    generalize n % 10 = m at h
    have : m = 0 ∨ m = 1 ∨ m = 2 ∨ m = 3 ∨ m = 4 ∨ m = 5 ∨ m = 6 ∨ m = 7 ∨ m = 8 ∨ m = 9 := by omega
    rcases this with rfl | rfl | rfl | rfl | rfl | rfl | rfl | rfl | rfl | rfl <;> decide

/-- A word and a number behind it. -/
theorem shape_eq (x0 x B : List UInt8) (c d : UInt8) (n k : Nat) (hx : x = B ++ [c]) (hc : isDig c = false) (hk : Lib.decDigits k = [d]) (h10 : k < 10) :
    (x0 ++ Lib.decDigits n == x ++ [d]) = decide (x0 = x ∧ n = k) := by
  rw [Bool.eq_iff_iff, beq_iff_eq, decide_eq_true_iff]
  constructor
  · intro h
    by_cases hn : n < 10
    · rw [Lib.decDigits_one hn] at h
      rw [Lib.decDigits_one h10] at hk
      have h2 := List.append_inj' h rfl
      refine ⟨h2.1, ?_⟩
      have e1 : UInt8.ofNat (48 + n) = d := by simpa using h2.2
      have e2 : UInt8.ofNat (48 + k) = d := by simpa using hk
      have e3 := congrArg UInt8.toNat (e1.trans e2.symm)
      simp only [UInt8.toNat_ofNat'] at e3
      omega
    · exfalso
      rw [Lib.decDigits, dif_neg hn, ← List.append_assoc] at h
      have h2 := (List.append_inj' h rfl).1
      obtain ⟨B', c', hb, hd⟩ := decDigits_end (n / 10)
      rw [hb, hx, ← List.append_assoc] at h2
      have h3 := (List.append_inj' h2 rfl).2
      simp only [List.cons.injEq, and_true] at h3
      rw [h3, hc] at hd
      cases hd
  · rintro ⟨rfl, rfl⟩
    rw [hk]

end Go.Lin.Kp
namespace Go.Proofs.YtmohnddglmolgaaGreatDoor
open Go Go.RowKit Go.Lin Go.Lin.Kp

/-- A value of the interface's type is a command. -/
def CmdIs (w : World) (v : Value) (base : Nat) : Cmd → Prop
  | .add n => v = .iface 141 (.agg #[.int .i64 n])
  | .change i n => v = .iface 143 (.agg #[.int .i64 i, .int .i64 n])
  | .fail k l => ∃ u, v = .iface 148 (.agg #[.int .i64 k, u]) ∧ Seg w base 3 1 u l.length (l.map (.int .i64))
  | .crash l => ∃ u, v = .iface 146 (.agg #[u]) ∧ Seg w base 3 1 u l.length (l.map (.int .i64))
  | .open_ => v = .iface 150 (.agg #[])
  | .list => v = .iface 151 (.agg #[])
  | .ask s => v = .iface 152 (.string ⟨s.toArray⟩)

/-- What parse leaves. -/
def ParseLeft (w : World) (o : Option Cmd) (e : Ending) (w' : World) : Prop := Grew w w' ∧ match o with
  | none => e = .returned .nilIface
  | some c => ∃ v, e = .returned v ∧ CmdIs w' v w.heap.size c

theorem shapeB (x0 : ByteArray) (x B : List UInt8) (c d : UInt8) (n k : Nat) (hx : x = B ++ [c]) (hc : isDig c = false) (hk : Lib.decDigits k = [d]) (h10 : k < 10) {S : ByteArray} (hS : x0 ++ ⟨(Lib.itoa (n : Int)).toArray⟩ = S) :
    (S.toList == x ++ [d]) = decide (x0.data.toList = x ∧ n = k) := by
  rw [← shape_eq x0.data.toList x B c d n k hx hc hk h10, ← hS, ByteArray.toList_eq]
  have : Lib.itoa (n : Int) = Lib.decDigits n := by unfold Lib.itoa; rw [if_neg (by omega)]; simp
  rw [this]
  simp

theorem wds_from {w : World} {b : Nat} {ws : List ByteArray} (hb : w.heap[b]? = some (.cells (ws.map Value.string).toArray 9 (0, 0))) (k m c : Nat) (hm : k + m ≤ ws.length) (hn : ws.length ≤ 1000000) : IsWds Any w (.slice (some ⟨b, k, none⟩) m c) ((ws.drop k).take m) := by
  have hl : ((ws.drop k).take m).length = m := by rw [List.length_take, List.length_drop]; omega
  refine ⟨some ⟨b, k, none⟩, c, by rw [hl], by rw [hl]; omega, fun i hi => ⟨b, k, _, rfl, hb, trivial, ?_⟩⟩
  rw [hl] at hi
  rw [cell_of_row w b (k + i) _ _ _ hb]
  have h1 : k + i < ws.length := by omega
  simp [List.getD_eq_getElem?_getD, hi, List.getElem?_drop, List.getElem?_eq_getElem h1]

theorem seg_cell0 {w : World} {base n : Nat} {u : Value} {l : List Int} (h : Seg w base 3 1 u n (l.map (.int .i64))) (hl : l.length = n) (i : Nat) (hi : i < n) : ∃ g off c, u = .slice (some ⟨g, off, none⟩) n c ∧ w.cell? ⟨g, off + i, none⟩ = some (.int .i64 (nth l i)) := by
  obtain ⟨g, off, c, cur, hv, _, _, _, _, hc⟩ := h.at (by omega)
  refine ⟨g, off, c, hv, ?_⟩
  have := hc i (by omega)
  rw [List.getElem?_map, List.getElem?_eq_getElem (by omega), Option.map_some, ← nth_lt (by omega)] at this
  exact this

set_option maxHeartbeats 4000000 in
set_option maxRecDepth 20000 in
theorem parse48_any (s : ByteArray) (w : World) (hs : s.size ≤ 10000) (hL : Lay w) :
    Calls Tryz.prog 48 #[.string s] w (ParseLeft w (parseM s.data.toList)) := by
  have HSP := hid (split89_any 32 s w (by omega) hL)
  have hwl : (wordsB 32 s).length ≤ 10001 := by rw [wordsB_len]; have := splitL_len 32 s.data.toList; simp at this; omega
  have hws := wordsB_small 32 s
  have hwb := wordsB_bytes 32 s
  have hne := splitL_ne 32 s.data.toList
  unfold parseM
  rw [← hwb] at hne ⊢
  obtain ⟨ws, hwe⟩ : ∃ ws, wordsB 32 s = ws := ⟨_, rfl⟩
  rw [hwe] at HSP hwl hws hne ⊢
  clear hwe hwb
  obtain ⟨x0, r, rfl⟩ : ∃ x0 r, ws = x0 :: r := by
    cases ws with
    | nil => exact absurd rfl hne
    | cons x0 r => exact ⟨x0, r, rfl⟩
  show Calls Tryz.prog 48 #[.string s] w (ParseLeft w (parseW s.data.toList x0.data.toList (bytesOf r)))
  have HLAY := hid hL
  have HIT := hid (fun (n : Int) (hn : 0 ≤ n ∧ n ≤ 100000) (W : World) (h : Grew w W) => itoa47_any n (by omega) (by omega) W (hL.grew h))
  have HNU := hid (fun (k m c : Nat) (W : World) (hb : W.heap[w.heap.size]? = some (.cells ((x0 :: r).map Value.string).toArray 9 (0, 0))) (hm : k + m ≤ (x0 :: r).length) => numbers90_any _ (((x0 :: r).drop k).take m) W (wds_from hb k m c hm (by omega)) (by rw [List.length_take, List.length_drop]; omega) (fun x hx => by have := hws x (List.mem_of_mem_drop (List.mem_of_mem_take hx)); omega))
  have HPL := hid (fun (x : ByteArray) (hx : x ∈ x0 :: r) (W : World) (h : Grew w W) => places91_any x W (by have := hws x hx; omega) (hL.grew h))
  have hrl : (bytesOf r).length = r.length := by simp
  have HADD := hid (fun (n : Int) (hn : 0 ≤ n ∧ n ≤ 100000) (W : World) => run_string_add_sum (P := Tryz.prog) W x0 ⟨(Lib.itoa n).toArray⟩ (by
    have h1 := hws x0 (by simp)
    have h2 := Lib.itoa_length_le n (by omega) (by omega)
    have h3 : (⟨(Lib.itoa n).toArray⟩ : ByteArray).size = (Lib.itoa n).length := by simp [ByteArray.size]
    omega))
  unfold parseW
  rw [hrl]
  have HWL := hid hwl
  clear hL hws hne hrl hwl
  by_cases h_add : x0.data.toList = wAdd ∧ r.length = 1
  · rw [if_pos h_add]
    obtain ⟨hw0, hrl⟩ := h_add
    obtain ⟨x1, rfl⟩ : ∃ x1, r = [x1] := by rcases r with _ | ⟨x1, _ | ⟨x2, t⟩⟩; (cases hrl); exact ⟨x1, rfl⟩; (simp at hrl)
    clear hrl
    replace HNU := hid (fun (W : World) (hb : W.heap[w.heap.size]? = _) => HNU.out 1 1 1 W hb (by simp))
    rw [show (List.take 1 (List.drop 1 [x0, x1])) = [x1] from rfl] at HNU
    obtain ⟨q, hq⟩ : ∃ q, numsM (bytesOf [x1]) = q := ⟨_, rfl⟩
    rw [hq] at HNU ⊢
    have hql := fun l (e : q = some l) => numsM_len (hq.trans e)
    clear hq
    cases q with
    | none =>
      clear hql
      have hadd := HADD.out 1 (by omega)
      go_enter Tryz.func48, Tryz.ntmps48
      go_wp2_with (go_at_call 89; (with_reducible refine HSP.out.mono ?_); rintro e w1 ⟨rfl, hg, hb⟩; have c0 := cell_of_row w1 w.heap.size 0 _ _ _ hb; simp only [List.map_cons, List.getElem?_toArray, List.getElem?_cons_zero] at c0; have HG1 := hid hg; have HB1 := hid hb; have hz1 := lt_of_obj hb; clear hg hb)
      refine wp_region_later (by kernel_rfl) (by kernel_rfl) (fun hL => ?_)
      repeat (go_big_quiet_step ((go_at_call 47; exact calls_later (HIT.out 1 (by omega) _ (grew_trans HG1.out (Subtype.property _))))))
      refine wpQuiet_nil ?_
      rintro w2 ⟨zz, hzz⟩
      have hx : Grew w1 w2 := by rw [hzz]; exact zz.2
      clear hL hzz zz
      have HG2 := hid (grew_trans HG1.out hx)
      have HB2 := hid ((hx.block _ hz1).trans HB1.out)
      clear hx
      generalize hS : (x0 ++ ({ data := (Lib.itoa 1).toArray } : ByteArray)) = S
      have f_add : (S.toList == [97, 100, 100, 49]) = true := by have h := shapeB x0 wAdd [97, 100] 100 49 1 1 rfl (by decide) (by rw [Lib.decDigits_one (by decide)]; rfl) (by decide) (by exact hS); rw [show [97, 100, 100, 49] = wAdd ++ [49] from rfl, h]; rw [decide_eq_true_iff]; exact ⟨hw0, rfl⟩
      clear hS
      go_wp2_with (go_at_call 90; (with_reducible refine (HNU.out _ HB2.out).mono ?_); rintro e w3 ⟨hg, rfl⟩; have HG3 := hid hg; clear hg)
      go_ret
      exact ⟨grew_trans HG2.out HG3.out, rfl⟩
    | some l =>
      have hll : l.length = 1 := hql l rfl
      clear hql
      unfold NumsLeft at HNU
      simp only [hll] at HNU
      have HLL := hid hll
      clear hll
      have hadd := HADD.out 1 (by omega)
      go_enter Tryz.func48, Tryz.ntmps48
      go_wp2_with (go_at_call 89; (with_reducible refine HSP.out.mono ?_); rintro e w1 ⟨rfl, hg, hb⟩; have c0 := cell_of_row w1 w.heap.size 0 _ _ _ hb; simp only [List.map_cons, List.getElem?_toArray, List.getElem?_cons_zero] at c0; have HG1 := hid hg; have HB1 := hid hb; have hz1 := lt_of_obj hb; clear hg hb)
      refine wp_region_later (by kernel_rfl) (by kernel_rfl) (fun hL => ?_)
      repeat (go_big_quiet_step ((go_at_call 47; exact calls_later (HIT.out 1 (by omega) _ (grew_trans HG1.out (Subtype.property _))))))
      refine wpQuiet_nil ?_
      rintro w2 ⟨zz, hzz⟩
      have hx : Grew w1 w2 := by rw [hzz]; exact zz.2
      clear hL hzz zz
      have HG2 := hid (grew_trans HG1.out hx)
      have HB2 := hid ((hx.block _ hz1).trans HB1.out)
      clear hx
      generalize hS : (x0 ++ ({ data := (Lib.itoa 1).toArray } : ByteArray)) = S
      have f_add : (S.toList == [97, 100, 100, 49]) = true := by have h := shapeB x0 wAdd [97, 100] 100 49 1 1 rfl (by decide) (by rw [Lib.decDigits_one (by decide)]; rfl) (by decide) (by exact hS); rw [show [97, 100, 100, 49] = wAdd ++ [49] from rfl, h]; rw [decide_eq_true_iff]; exact ⟨hw0, rfl⟩
      clear hS
      go_wp2_with (go_at_call 90; (with_reducible refine (HNU.out _ HB2.out).mono ?_); rintro e w3 ⟨hg, u, rfl, hs⟩; obtain ⟨g, off, uc, rfl, e0⟩ := seg_cell0 hs HLL.out 0 (by omega); simp only [Nat.add_zero] at e0; have HG3 := hid hg; clear hg hs)
      go_ret
      exact ⟨grew_trans HG2.out HG3.out, _, rfl, rfl⟩
  · rw [if_neg h_add]
    by_cases h_change : x0.data.toList = wChange ∧ r.length = 2
    · rw [if_pos h_change]
      obtain ⟨hw0, hrl⟩ := h_change
      obtain ⟨x1, x2, rfl⟩ : ∃ x1 x2, r = [x1, x2] := by rcases r with _ | ⟨x1, _ | ⟨x2, _ | ⟨x3, t⟩⟩⟩; (cases hrl); (simp at hrl); exact ⟨x1, x2, rfl⟩; (simp at hrl)
      clear hrl
      replace HNU := hid (fun (W : World) (hb : W.heap[w.heap.size]? = _) => HNU.out 1 2 2 W hb (by simp))
      rw [show (List.take 2 (List.drop 1 [x0, x1, x2])) = [x1, x2] from rfl] at HNU
      obtain ⟨q, hq⟩ : ∃ q, numsM (bytesOf [x1, x2]) = q := ⟨_, rfl⟩
      rw [hq] at HNU ⊢
      have hql := fun l (e : q = some l) => numsM_len (hq.trans e)
      clear hq
      cases q with
      | none =>
        clear hql
        have hadd := HADD.out 2 (by omega)
        go_enter Tryz.func48, Tryz.ntmps48
        go_wp2_with (go_at_call 89; (with_reducible refine HSP.out.mono ?_); rintro e w1 ⟨rfl, hg, hb⟩; have c0 := cell_of_row w1 w.heap.size 0 _ _ _ hb; simp only [List.map_cons, List.getElem?_toArray, List.getElem?_cons_zero] at c0; have HG1 := hid hg; have HB1 := hid hb; have hz1 := lt_of_obj hb; clear hg hb)
        refine wp_region_later (by kernel_rfl) (by kernel_rfl) (fun hL => ?_)
        repeat (go_big_quiet_step ((go_at_call 47; exact calls_later (HIT.out 2 (by omega) _ (grew_trans HG1.out (Subtype.property _))))))
        refine wpQuiet_nil ?_
        rintro w2 ⟨zz, hzz⟩
        have hx : Grew w1 w2 := by rw [hzz]; exact zz.2
        clear hL hzz zz
        have HG2 := hid (grew_trans HG1.out hx)
        have HB2 := hid ((hx.block _ hz1).trans HB1.out)
        clear hx
        generalize hS : (x0 ++ ({ data := (Lib.itoa 2).toArray } : ByteArray)) = S
        have f_add : (S.toList == [97, 100, 100, 49]) = false := by have h := shapeB x0 wAdd [97, 100] 100 49 2 1 rfl (by decide) (by rw [Lib.decDigits_one (by decide)]; rfl) (by decide) (by exact hS); rw [show [97, 100, 100, 49] = wAdd ++ [49] from rfl, h]; rw [decide_eq_false_iff_not]; rintro ⟨e, e2⟩; first | (exact absurd e2 (by decide)) | (rw [hw0] at e; exact absurd e (by decide))
        have f_change : (S.toList == [99, 104, 97, 110, 103, 101, 50]) = true := by have h := shapeB x0 wChange [99, 104, 97, 110, 103] 101 50 2 2 rfl (by decide) (by rw [Lib.decDigits_one (by decide)]; rfl) (by decide) (by exact hS); rw [show [99, 104, 97, 110, 103, 101, 50] = wChange ++ [50] from rfl, h]; rw [decide_eq_true_iff]; exact ⟨hw0, rfl⟩
        clear hS
        go_wp2_with (go_at_call 90; (with_reducible refine (HNU.out _ HB2.out).mono ?_); rintro e w3 ⟨hg, rfl⟩; have HG3 := hid hg; clear hg)
        go_ret
        exact ⟨grew_trans HG2.out HG3.out, rfl⟩
      | some l =>
        have hll : l.length = 2 := hql l rfl
        clear hql
        unfold NumsLeft at HNU
        simp only [hll] at HNU
        have HLL := hid hll
        clear hll
        have hadd := HADD.out 2 (by omega)
        go_enter Tryz.func48, Tryz.ntmps48
        go_wp2_with (go_at_call 89; (with_reducible refine HSP.out.mono ?_); rintro e w1 ⟨rfl, hg, hb⟩; have c0 := cell_of_row w1 w.heap.size 0 _ _ _ hb; simp only [List.map_cons, List.getElem?_toArray, List.getElem?_cons_zero] at c0; have HG1 := hid hg; have HB1 := hid hb; have hz1 := lt_of_obj hb; clear hg hb)
        refine wp_region_later (by kernel_rfl) (by kernel_rfl) (fun hL => ?_)
        repeat (go_big_quiet_step ((go_at_call 47; exact calls_later (HIT.out 2 (by omega) _ (grew_trans HG1.out (Subtype.property _))))))
        refine wpQuiet_nil ?_
        rintro w2 ⟨zz, hzz⟩
        have hx : Grew w1 w2 := by rw [hzz]; exact zz.2
        clear hL hzz zz
        have HG2 := hid (grew_trans HG1.out hx)
        have HB2 := hid ((hx.block _ hz1).trans HB1.out)
        clear hx
        generalize hS : (x0 ++ ({ data := (Lib.itoa 2).toArray } : ByteArray)) = S
        have f_add : (S.toList == [97, 100, 100, 49]) = false := by have h := shapeB x0 wAdd [97, 100] 100 49 2 1 rfl (by decide) (by rw [Lib.decDigits_one (by decide)]; rfl) (by decide) (by exact hS); rw [show [97, 100, 100, 49] = wAdd ++ [49] from rfl, h]; rw [decide_eq_false_iff_not]; rintro ⟨e, e2⟩; first | (exact absurd e2 (by decide)) | (rw [hw0] at e; exact absurd e (by decide))
        have f_change : (S.toList == [99, 104, 97, 110, 103, 101, 50]) = true := by have h := shapeB x0 wChange [99, 104, 97, 110, 103] 101 50 2 2 rfl (by decide) (by rw [Lib.decDigits_one (by decide)]; rfl) (by decide) (by exact hS); rw [show [99, 104, 97, 110, 103, 101, 50] = wChange ++ [50] from rfl, h]; rw [decide_eq_true_iff]; exact ⟨hw0, rfl⟩
        clear hS
        go_wp2_with (go_at_call 90; (with_reducible refine (HNU.out _ HB2.out).mono ?_); rintro e w3 ⟨hg, u, rfl, hs⟩; obtain ⟨g, off, uc, rfl, e0⟩ := seg_cell0 hs HLL.out 0 (by omega); have e1 : w3.cell? ⟨g, off + 1, none⟩ = some (.int .i64 (nth l 1)) := (by obtain ⟨g', off', uc', e', h'⟩ := seg_cell0 hs HLL.out 1 (by omega); cases e'; exact h'); simp only [Nat.add_zero] at e0; have HG3 := hid hg; clear hg hs)
        go_quiet (fail)
        go_wp2
        go_ret
        exact ⟨grew_drewN (grew_trans HG2.out HG3.out) _, _, rfl, rfl⟩
    · rw [if_neg h_change]
      by_cases h_fail : x0.data.toList = wFail ∧ r.length = 2
      · rw [if_pos h_fail]
        obtain ⟨hw0, hrl⟩ := h_fail
        obtain ⟨x1, x2, rfl⟩ : ∃ x1 x2, r = [x1, x2] := by rcases r with _ | ⟨x1, _ | ⟨x2, _ | ⟨x3, t⟩⟩⟩; (cases hrl); (simp at hrl); exact ⟨x1, x2, rfl⟩; (simp at hrl)
        clear hrl
        replace HNU := hid (fun (W : World) (hb : W.heap[w.heap.size]? = _) => HNU.out 1 1 2 W hb (by simp))
        rw [show (List.take 1 (List.drop 1 [x0, x1, x2])) = [x1] from rfl] at HNU
        replace HPL := hid (HPL.out x2 (by simp))
        rw [show (bytesOf [x1, x2]).getD 1 [] = x2.data.toList from rfl, show (bytesOf [x1, x2]).take 1 = bytesOf [x1] from rfl]
        obtain ⟨q1, hq1⟩ : ∃ q, placesM x2.data.toList = q := ⟨_, rfl⟩
        rw [hq1] at HPL ⊢
        clear hq1
        obtain ⟨q, hq⟩ : ∃ q, numsM (bytesOf [x1]) = q := ⟨_, rfl⟩
        rw [hq] at HNU ⊢
        have hql := fun l (e : q = some l) => numsM_len (hq.trans e)
        clear hq
        cases q1 with
        | none =>
          cases q with
          | none =>
            clear hql
            have hadd := HADD.out 2 (by omega)
            go_enter Tryz.func48, Tryz.ntmps48
            go_wp2_with (go_at_call 89; (with_reducible refine HSP.out.mono ?_); rintro e w1 ⟨rfl, hg, hb⟩; have c0 := cell_of_row w1 w.heap.size 0 _ _ _ hb; simp only [List.map_cons, List.getElem?_toArray, List.getElem?_cons_zero] at c0; have HG1 := hid hg; have HB1 := hid hb; have hz1 := lt_of_obj hb; clear hg hb)
            refine wp_region_later (by kernel_rfl) (by kernel_rfl) (fun hL => ?_)
            repeat (go_big_quiet_step ((go_at_call 47; exact calls_later (HIT.out 2 (by omega) _ (grew_trans HG1.out (Subtype.property _))))))
            refine wpQuiet_nil ?_
            rintro w2 ⟨zz, hzz⟩
            have hx : Grew w1 w2 := by rw [hzz]; exact zz.2
            clear hL hzz zz
            have HG2 := hid (grew_trans HG1.out hx)
            have HB2 := hid ((hx.block _ hz1).trans HB1.out)
            clear hx
            generalize hS : (x0 ++ ({ data := (Lib.itoa 2).toArray } : ByteArray)) = S
            have f_add : (S.toList == [97, 100, 100, 49]) = false := by have h := shapeB x0 wAdd [97, 100] 100 49 2 1 rfl (by decide) (by rw [Lib.decDigits_one (by decide)]; rfl) (by decide) (by exact hS); rw [show [97, 100, 100, 49] = wAdd ++ [49] from rfl, h]; rw [decide_eq_false_iff_not]; rintro ⟨e, e2⟩; first | (exact absurd e2 (by decide)) | (rw [hw0] at e; exact absurd e (by decide))
            have f_change : (S.toList == [99, 104, 97, 110, 103, 101, 50]) = false := by have h := shapeB x0 wChange [99, 104, 97, 110, 103] 101 50 2 2 rfl (by decide) (by rw [Lib.decDigits_one (by decide)]; rfl) (by decide) (by exact hS); rw [show [99, 104, 97, 110, 103, 101, 50] = wChange ++ [50] from rfl, h]; rw [decide_eq_false_iff_not]; rintro ⟨e, e2⟩; first | (exact absurd e2 (by decide)) | (rw [hw0] at e; exact absurd e (by decide))
            have f_fail : (S.toList == [102, 97, 105, 108, 50]) = true := by have h := shapeB x0 wFail [102, 97, 105] 108 50 2 2 rfl (by decide) (by rw [Lib.decDigits_one (by decide)]; rfl) (by decide) (by exact hS); rw [show [102, 97, 105, 108, 50] = wFail ++ [50] from rfl, h]; rw [decide_eq_true_iff]; exact ⟨hw0, rfl⟩
            clear hS
            have dk := cell_of_row w2 w.heap.size 2 _ _ _ HB2.out
            simp only [List.map_cons, List.map_nil, List.getElem?_toArray, List.getElem?_cons_succ, List.getElem?_cons_zero] at dk
            go_wp2_with (first
              | (go_at_call 91; (with_reducible refine (HPL.out _ HG2.out).mono ?_); rintro e w3 ⟨hg, rfl⟩; have HG3 := hid hg; have HB3 := hid ((hg.block _ (lt_of_obj HB2.out)).trans HB2.out); clear hg)
              | (go_at_call 90; (with_reducible refine (HNU.out _ HB3.out).mono ?_); rintro e w4 ⟨hg, rfl⟩; have HG4 := hid hg; clear hg))
            go_ret
            exact ⟨grew_trans HG2.out (grew_trans HG3.out HG4.out), rfl⟩
          | some l =>
            have hll : l.length = 1 := hql l rfl
            clear hql
            unfold NumsLeft at HNU
            simp only [hll] at HNU
            have HLL := hid hll
            clear hll
            have hadd := HADD.out 2 (by omega)
            go_enter Tryz.func48, Tryz.ntmps48
            go_wp2_with (go_at_call 89; (with_reducible refine HSP.out.mono ?_); rintro e w1 ⟨rfl, hg, hb⟩; have c0 := cell_of_row w1 w.heap.size 0 _ _ _ hb; simp only [List.map_cons, List.getElem?_toArray, List.getElem?_cons_zero] at c0; have HG1 := hid hg; have HB1 := hid hb; have hz1 := lt_of_obj hb; clear hg hb)
            refine wp_region_later (by kernel_rfl) (by kernel_rfl) (fun hL => ?_)
            repeat (go_big_quiet_step ((go_at_call 47; exact calls_later (HIT.out 2 (by omega) _ (grew_trans HG1.out (Subtype.property _))))))
            refine wpQuiet_nil ?_
            rintro w2 ⟨zz, hzz⟩
            have hx : Grew w1 w2 := by rw [hzz]; exact zz.2
            clear hL hzz zz
            have HG2 := hid (grew_trans HG1.out hx)
            have HB2 := hid ((hx.block _ hz1).trans HB1.out)
            clear hx
            generalize hS : (x0 ++ ({ data := (Lib.itoa 2).toArray } : ByteArray)) = S
            have f_add : (S.toList == [97, 100, 100, 49]) = false := by have h := shapeB x0 wAdd [97, 100] 100 49 2 1 rfl (by decide) (by rw [Lib.decDigits_one (by decide)]; rfl) (by decide) (by exact hS); rw [show [97, 100, 100, 49] = wAdd ++ [49] from rfl, h]; rw [decide_eq_false_iff_not]; rintro ⟨e, e2⟩; first | (exact absurd e2 (by decide)) | (rw [hw0] at e; exact absurd e (by decide))
            have f_change : (S.toList == [99, 104, 97, 110, 103, 101, 50]) = false := by have h := shapeB x0 wChange [99, 104, 97, 110, 103] 101 50 2 2 rfl (by decide) (by rw [Lib.decDigits_one (by decide)]; rfl) (by decide) (by exact hS); rw [show [99, 104, 97, 110, 103, 101, 50] = wChange ++ [50] from rfl, h]; rw [decide_eq_false_iff_not]; rintro ⟨e, e2⟩; first | (exact absurd e2 (by decide)) | (rw [hw0] at e; exact absurd e (by decide))
            have f_fail : (S.toList == [102, 97, 105, 108, 50]) = true := by have h := shapeB x0 wFail [102, 97, 105] 108 50 2 2 rfl (by decide) (by rw [Lib.decDigits_one (by decide)]; rfl) (by decide) (by exact hS); rw [show [102, 97, 105, 108, 50] = wFail ++ [50] from rfl, h]; rw [decide_eq_true_iff]; exact ⟨hw0, rfl⟩
            clear hS
            have dk := cell_of_row w2 w.heap.size 2 _ _ _ HB2.out
            simp only [List.map_cons, List.map_nil, List.getElem?_toArray, List.getElem?_cons_succ, List.getElem?_cons_zero] at dk
            go_wp2_with (first
              | (go_at_call 91; (with_reducible refine (HPL.out _ HG2.out).mono ?_); rintro e w3 ⟨hg, rfl⟩; have HG3 := hid hg; have HB3 := hid ((hg.block _ (lt_of_obj HB2.out)).trans HB2.out); clear hg)
              | (go_at_call 90; (with_reducible refine (HNU.out _ HB3.out).mono ?_); rintro e w4 ⟨hg, v, rfl, hs⟩; have HG4 := hid hg; obtain ⟨g, off, vc, rfl, e0⟩ := seg_cell0 hs HLL.out 0 (by omega); simp only [Nat.add_zero] at e0; clear hg hs))
            go_ret
            exact ⟨grew_trans HG2.out (grew_trans HG3.out HG4.out), rfl⟩
        | some ee =>
          cases q with
          | none =>
            clear hql
            have hadd := HADD.out 2 (by omega)
            go_enter Tryz.func48, Tryz.ntmps48
            go_wp2_with (go_at_call 89; (with_reducible refine HSP.out.mono ?_); rintro e w1 ⟨rfl, hg, hb⟩; have c0 := cell_of_row w1 w.heap.size 0 _ _ _ hb; simp only [List.map_cons, List.getElem?_toArray, List.getElem?_cons_zero] at c0; have HG1 := hid hg; have HB1 := hid hb; have hz1 := lt_of_obj hb; clear hg hb)
            refine wp_region_later (by kernel_rfl) (by kernel_rfl) (fun hL => ?_)
            repeat (go_big_quiet_step ((go_at_call 47; exact calls_later (HIT.out 2 (by omega) _ (grew_trans HG1.out (Subtype.property _))))))
            refine wpQuiet_nil ?_
            rintro w2 ⟨zz, hzz⟩
            have hx : Grew w1 w2 := by rw [hzz]; exact zz.2
            clear hL hzz zz
            have HG2 := hid (grew_trans HG1.out hx)
            have HB2 := hid ((hx.block _ hz1).trans HB1.out)
            clear hx
            generalize hS : (x0 ++ ({ data := (Lib.itoa 2).toArray } : ByteArray)) = S
            have f_add : (S.toList == [97, 100, 100, 49]) = false := by have h := shapeB x0 wAdd [97, 100] 100 49 2 1 rfl (by decide) (by rw [Lib.decDigits_one (by decide)]; rfl) (by decide) (by exact hS); rw [show [97, 100, 100, 49] = wAdd ++ [49] from rfl, h]; rw [decide_eq_false_iff_not]; rintro ⟨e, e2⟩; first | (exact absurd e2 (by decide)) | (rw [hw0] at e; exact absurd e (by decide))
            have f_change : (S.toList == [99, 104, 97, 110, 103, 101, 50]) = false := by have h := shapeB x0 wChange [99, 104, 97, 110, 103] 101 50 2 2 rfl (by decide) (by rw [Lib.decDigits_one (by decide)]; rfl) (by decide) (by exact hS); rw [show [99, 104, 97, 110, 103, 101, 50] = wChange ++ [50] from rfl, h]; rw [decide_eq_false_iff_not]; rintro ⟨e, e2⟩; first | (exact absurd e2 (by decide)) | (rw [hw0] at e; exact absurd e (by decide))
            have f_fail : (S.toList == [102, 97, 105, 108, 50]) = true := by have h := shapeB x0 wFail [102, 97, 105] 108 50 2 2 rfl (by decide) (by rw [Lib.decDigits_one (by decide)]; rfl) (by decide) (by exact hS); rw [show [102, 97, 105, 108, 50] = wFail ++ [50] from rfl, h]; rw [decide_eq_true_iff]; exact ⟨hw0, rfl⟩
            clear hS
            have dk := cell_of_row w2 w.heap.size 2 _ _ _ HB2.out
            simp only [List.map_cons, List.map_nil, List.getElem?_toArray, List.getElem?_cons_succ, List.getElem?_cons_zero] at dk
            go_wp2_with (first
              | (go_at_call 91; (with_reducible refine (HPL.out _ HG2.out).mono ?_); rintro e w3 ⟨hg, u, base, rfl, hs, hb⟩; have HG3 := hid hg; have HB3 := hid ((hg.block _ (lt_of_obj HB2.out)).trans HB2.out); have HS3 := hid hs; have HBS := hid hb; obtain ⟨ua, uc, rfl, hul⟩ := hs.shape; clear hg hs hb hul)
              | (go_at_call 90; (with_reducible refine (HNU.out _ HB3.out).mono ?_); rintro e w4 ⟨hg, rfl⟩; have HG4 := hid hg; clear hg))
            go_ret
            exact ⟨grew_trans HG2.out (grew_trans HG3.out HG4.out), rfl⟩
          | some l =>
            have hll : l.length = 1 := hql l rfl
            clear hql
            unfold NumsLeft at HNU
            simp only [hll] at HNU
            have HLL := hid hll
            clear hll
            have hadd := HADD.out 2 (by omega)
            go_enter Tryz.func48, Tryz.ntmps48
            go_wp2_with (go_at_call 89; (with_reducible refine HSP.out.mono ?_); rintro e w1 ⟨rfl, hg, hb⟩; have c0 := cell_of_row w1 w.heap.size 0 _ _ _ hb; simp only [List.map_cons, List.getElem?_toArray, List.getElem?_cons_zero] at c0; have HG1 := hid hg; have HB1 := hid hb; have hz1 := lt_of_obj hb; clear hg hb)
            refine wp_region_later (by kernel_rfl) (by kernel_rfl) (fun hL => ?_)
            repeat (go_big_quiet_step ((go_at_call 47; exact calls_later (HIT.out 2 (by omega) _ (grew_trans HG1.out (Subtype.property _))))))
            refine wpQuiet_nil ?_
            rintro w2 ⟨zz, hzz⟩
            have hx : Grew w1 w2 := by rw [hzz]; exact zz.2
            clear hL hzz zz
            have HG2 := hid (grew_trans HG1.out hx)
            have HB2 := hid ((hx.block _ hz1).trans HB1.out)
            clear hx
            generalize hS : (x0 ++ ({ data := (Lib.itoa 2).toArray } : ByteArray)) = S
            have f_add : (S.toList == [97, 100, 100, 49]) = false := by have h := shapeB x0 wAdd [97, 100] 100 49 2 1 rfl (by decide) (by rw [Lib.decDigits_one (by decide)]; rfl) (by decide) (by exact hS); rw [show [97, 100, 100, 49] = wAdd ++ [49] from rfl, h]; rw [decide_eq_false_iff_not]; rintro ⟨e, e2⟩; first | (exact absurd e2 (by decide)) | (rw [hw0] at e; exact absurd e (by decide))
            have f_change : (S.toList == [99, 104, 97, 110, 103, 101, 50]) = false := by have h := shapeB x0 wChange [99, 104, 97, 110, 103] 101 50 2 2 rfl (by decide) (by rw [Lib.decDigits_one (by decide)]; rfl) (by decide) (by exact hS); rw [show [99, 104, 97, 110, 103, 101, 50] = wChange ++ [50] from rfl, h]; rw [decide_eq_false_iff_not]; rintro ⟨e, e2⟩; first | (exact absurd e2 (by decide)) | (rw [hw0] at e; exact absurd e (by decide))
            have f_fail : (S.toList == [102, 97, 105, 108, 50]) = true := by have h := shapeB x0 wFail [102, 97, 105] 108 50 2 2 rfl (by decide) (by rw [Lib.decDigits_one (by decide)]; rfl) (by decide) (by exact hS); rw [show [102, 97, 105, 108, 50] = wFail ++ [50] from rfl, h]; rw [decide_eq_true_iff]; exact ⟨hw0, rfl⟩
            clear hS
            have dk := cell_of_row w2 w.heap.size 2 _ _ _ HB2.out
            simp only [List.map_cons, List.map_nil, List.getElem?_toArray, List.getElem?_cons_succ, List.getElem?_cons_zero] at dk
            go_wp2_with (first
              | (go_at_call 91; (with_reducible refine (HPL.out _ HG2.out).mono ?_); rintro e w3 ⟨hg, u, base, rfl, hs, hb⟩; have HG3 := hid hg; have HB3 := hid ((hg.block _ (lt_of_obj HB2.out)).trans HB2.out); have HS3 := hid hs; have HBS := hid hb; obtain ⟨ua, uc, rfl, hul⟩ := hs.shape; clear hg hs hb hul)
              | (go_at_call 90; (with_reducible refine (HNU.out _ HB3.out).mono ?_); rintro e w4 ⟨hg, v, rfl, hs⟩; have HG4 := hid hg; obtain ⟨g, off, vc, rfl, e0⟩ := seg_cell0 hs HLL.out 0 (by omega); simp only [Nat.add_zero] at e0; clear hg hs))
            go_ret
            exact ⟨grew_trans HG2.out (grew_trans HG3.out HG4.out), _, rfl, _, rfl, (HS3.out.grew HG4.out).mono (Nat.le_trans HG2.out.size HBS.out)⟩
      · rw [if_neg h_fail]
        by_cases h_crash : x0.data.toList = wCrash ∧ r.length = 1
        · rw [if_pos h_crash]
          obtain ⟨hw0, hrl⟩ := h_crash
          obtain ⟨x1, rfl⟩ : ∃ x1, r = [x1] := by rcases r with _ | ⟨x1, _ | ⟨x2, t⟩⟩; (cases hrl); exact ⟨x1, rfl⟩; (simp at hrl)
          clear hrl
          replace HNU := hid (fun (W : World) (hb : W.heap[w.heap.size]? = _) => HNU.out 1 0 1 W hb (by simp))
          rw [show (List.take 0 (List.drop 1 [x0, x1])) = [] from rfl] at HNU
          replace HPL := hid (HPL.out x1 (by simp))
          rw [show (bytesOf [x1]).getD 0 [] = x1.data.toList from rfl]
          obtain ⟨q1, hq1⟩ : ∃ q, placesM x1.data.toList = q := ⟨_, rfl⟩
          rw [hq1] at HPL ⊢
          clear hq1
          cases q1 with
          | none =>
            have hadd := HADD.out 1 (by omega)
            go_enter Tryz.func48, Tryz.ntmps48
            go_wp2_with (go_at_call 89; (with_reducible refine HSP.out.mono ?_); rintro e w1 ⟨rfl, hg, hb⟩; have c0 := cell_of_row w1 w.heap.size 0 _ _ _ hb; simp only [List.map_cons, List.getElem?_toArray, List.getElem?_cons_zero] at c0; have HG1 := hid hg; have HB1 := hid hb; have hz1 := lt_of_obj hb; clear hg hb)
            refine wp_region_later (by kernel_rfl) (by kernel_rfl) (fun hL => ?_)
            repeat (go_big_quiet_step ((go_at_call 47; exact calls_later (HIT.out 1 (by omega) _ (grew_trans HG1.out (Subtype.property _))))))
            refine wpQuiet_nil ?_
            rintro w2 ⟨zz, hzz⟩
            have hx : Grew w1 w2 := by rw [hzz]; exact zz.2
            clear hL hzz zz
            have HG2 := hid (grew_trans HG1.out hx)
            have HB2 := hid ((hx.block _ hz1).trans HB1.out)
            clear hx
            generalize hS : (x0 ++ ({ data := (Lib.itoa 1).toArray } : ByteArray)) = S
            have f_add : (S.toList == [97, 100, 100, 49]) = false := by have h := shapeB x0 wAdd [97, 100] 100 49 1 1 rfl (by decide) (by rw [Lib.decDigits_one (by decide)]; rfl) (by decide) (by exact hS); rw [show [97, 100, 100, 49] = wAdd ++ [49] from rfl, h]; rw [decide_eq_false_iff_not]; rintro ⟨e, e2⟩; first | (exact absurd e2 (by decide)) | (rw [hw0] at e; exact absurd e (by decide))
            have f_change : (S.toList == [99, 104, 97, 110, 103, 101, 50]) = false := by have h := shapeB x0 wChange [99, 104, 97, 110, 103] 101 50 1 2 rfl (by decide) (by rw [Lib.decDigits_one (by decide)]; rfl) (by decide) (by exact hS); rw [show [99, 104, 97, 110, 103, 101, 50] = wChange ++ [50] from rfl, h]; rw [decide_eq_false_iff_not]; rintro ⟨e, e2⟩; first | (exact absurd e2 (by decide)) | (rw [hw0] at e; exact absurd e (by decide))
            have f_fail : (S.toList == [102, 97, 105, 108, 50]) = false := by have h := shapeB x0 wFail [102, 97, 105] 108 50 1 2 rfl (by decide) (by rw [Lib.decDigits_one (by decide)]; rfl) (by decide) (by exact hS); rw [show [102, 97, 105, 108, 50] = wFail ++ [50] from rfl, h]; rw [decide_eq_false_iff_not]; rintro ⟨e, e2⟩; first | (exact absurd e2 (by decide)) | (rw [hw0] at e; exact absurd e (by decide))
            have f_crash : (S.toList == [99, 114, 97, 115, 104, 49]) = true := by have h := shapeB x0 wCrash [99, 114, 97, 115] 104 49 1 1 rfl (by decide) (by rw [Lib.decDigits_one (by decide)]; rfl) (by decide) (by exact hS); rw [show [99, 114, 97, 115, 104, 49] = wCrash ++ [49] from rfl, h]; rw [decide_eq_true_iff]; exact ⟨hw0, rfl⟩
            clear hS
            have dk := cell_of_row w2 w.heap.size 1 _ _ _ HB2.out
            simp only [List.map_cons, List.map_nil, List.getElem?_toArray, List.getElem?_cons_succ, List.getElem?_cons_zero] at dk
            go_wp2_with (first
              | (go_at_call 91; (with_reducible refine (HPL.out _ HG2.out).mono ?_); rintro e w3 ⟨hg, rfl⟩; have HG3 := hid hg; have HB3 := hid ((hg.block _ (lt_of_obj HB2.out)).trans HB2.out); clear hg)
              | (go_at_call 90; (with_reducible refine (HNU.out _ HB3.out).mono ?_); rintro e w4 ⟨hg, v, rfl, hs⟩; have HG4 := hid hg; obtain ⟨va, vc, rfl, hvl⟩ := hs.shape; clear hg hs hvl))
            go_ret
            exact ⟨grew_trans HG2.out (grew_trans HG3.out HG4.out), rfl⟩
          | some ee =>
            have hadd := HADD.out 1 (by omega)
            go_enter Tryz.func48, Tryz.ntmps48
            go_wp2_with (go_at_call 89; (with_reducible refine HSP.out.mono ?_); rintro e w1 ⟨rfl, hg, hb⟩; have c0 := cell_of_row w1 w.heap.size 0 _ _ _ hb; simp only [List.map_cons, List.getElem?_toArray, List.getElem?_cons_zero] at c0; have HG1 := hid hg; have HB1 := hid hb; have hz1 := lt_of_obj hb; clear hg hb)
            refine wp_region_later (by kernel_rfl) (by kernel_rfl) (fun hL => ?_)
            repeat (go_big_quiet_step ((go_at_call 47; exact calls_later (HIT.out 1 (by omega) _ (grew_trans HG1.out (Subtype.property _))))))
            refine wpQuiet_nil ?_
            rintro w2 ⟨zz, hzz⟩
            have hx : Grew w1 w2 := by rw [hzz]; exact zz.2
            clear hL hzz zz
            have HG2 := hid (grew_trans HG1.out hx)
            have HB2 := hid ((hx.block _ hz1).trans HB1.out)
            clear hx
            generalize hS : (x0 ++ ({ data := (Lib.itoa 1).toArray } : ByteArray)) = S
            have f_add : (S.toList == [97, 100, 100, 49]) = false := by have h := shapeB x0 wAdd [97, 100] 100 49 1 1 rfl (by decide) (by rw [Lib.decDigits_one (by decide)]; rfl) (by decide) (by exact hS); rw [show [97, 100, 100, 49] = wAdd ++ [49] from rfl, h]; rw [decide_eq_false_iff_not]; rintro ⟨e, e2⟩; first | (exact absurd e2 (by decide)) | (rw [hw0] at e; exact absurd e (by decide))
            have f_change : (S.toList == [99, 104, 97, 110, 103, 101, 50]) = false := by have h := shapeB x0 wChange [99, 104, 97, 110, 103] 101 50 1 2 rfl (by decide) (by rw [Lib.decDigits_one (by decide)]; rfl) (by decide) (by exact hS); rw [show [99, 104, 97, 110, 103, 101, 50] = wChange ++ [50] from rfl, h]; rw [decide_eq_false_iff_not]; rintro ⟨e, e2⟩; first | (exact absurd e2 (by decide)) | (rw [hw0] at e; exact absurd e (by decide))
            have f_fail : (S.toList == [102, 97, 105, 108, 50]) = false := by have h := shapeB x0 wFail [102, 97, 105] 108 50 1 2 rfl (by decide) (by rw [Lib.decDigits_one (by decide)]; rfl) (by decide) (by exact hS); rw [show [102, 97, 105, 108, 50] = wFail ++ [50] from rfl, h]; rw [decide_eq_false_iff_not]; rintro ⟨e, e2⟩; first | (exact absurd e2 (by decide)) | (rw [hw0] at e; exact absurd e (by decide))
            have f_crash : (S.toList == [99, 114, 97, 115, 104, 49]) = true := by have h := shapeB x0 wCrash [99, 114, 97, 115] 104 49 1 1 rfl (by decide) (by rw [Lib.decDigits_one (by decide)]; rfl) (by decide) (by exact hS); rw [show [99, 114, 97, 115, 104, 49] = wCrash ++ [49] from rfl, h]; rw [decide_eq_true_iff]; exact ⟨hw0, rfl⟩
            clear hS
            have dk := cell_of_row w2 w.heap.size 1 _ _ _ HB2.out
            simp only [List.map_cons, List.map_nil, List.getElem?_toArray, List.getElem?_cons_succ, List.getElem?_cons_zero] at dk
            go_wp2_with (first
              | (go_at_call 91; (with_reducible refine (HPL.out _ HG2.out).mono ?_); rintro e w3 ⟨hg, u, base, rfl, hs, hb⟩; have HG3 := hid hg; have HB3 := hid ((hg.block _ (lt_of_obj HB2.out)).trans HB2.out); have HS3 := hid hs; have HBS := hid hb; obtain ⟨ua, uc, rfl, hul⟩ := hs.shape; clear hg hs hb hul)
              | (go_at_call 90; (with_reducible refine (HNU.out _ HB3.out).mono ?_); rintro e w4 ⟨hg, v, rfl, hs⟩; have HG4 := hid hg; obtain ⟨va, vc, rfl, hvl⟩ := hs.shape; clear hg hs hvl))
            go_ret
            exact ⟨grew_trans HG2.out (grew_trans HG3.out HG4.out), _, rfl, _, rfl, (HS3.out.grew HG4.out).mono (Nat.le_trans HG2.out.size HBS.out)⟩
        · rw [if_neg h_crash]
          by_cases h_open : x0.data.toList = wOpen ∧ r.length = 0
          · rw [if_pos h_open]
            obtain ⟨hw0, hrl⟩ := h_open
            obtain rfl : r = [] := List.eq_nil_of_length_eq_zero hrl
            clear hrl
            have hadd := HADD.out 0 (by omega)
            go_enter Tryz.func48, Tryz.ntmps48
            go_wp2_with (go_at_call 89; (with_reducible refine HSP.out.mono ?_); rintro e w1 ⟨rfl, hg, hb⟩; have c0 := cell_of_row w1 w.heap.size 0 _ _ _ hb; simp only [List.map_cons, List.getElem?_toArray, List.getElem?_cons_zero] at c0; have HG1 := hid hg; have HB1 := hid hb; have hz1 := lt_of_obj hb; clear hg hb)
            refine wp_region_later (by kernel_rfl) (by kernel_rfl) (fun hL => ?_)
            repeat (go_big_quiet_step ((go_at_call 47; exact calls_later (HIT.out 0 (by omega) _ (grew_trans HG1.out (Subtype.property _))))))
            refine wpQuiet_nil ?_
            rintro w2 ⟨zz, hzz⟩
            have hx : Grew w1 w2 := by rw [hzz]; exact zz.2
            clear hL hzz zz
            have HG2 := hid (grew_trans HG1.out hx)
            have HB2 := hid ((hx.block _ hz1).trans HB1.out)
            clear hx
            generalize hS : (x0 ++ ({ data := (Lib.itoa 0).toArray } : ByteArray)) = S
            have f_add : (S.toList == [97, 100, 100, 49]) = false := by have h := shapeB x0 wAdd [97, 100] 100 49 0 1 rfl (by decide) (by rw [Lib.decDigits_one (by decide)]; rfl) (by decide) (by exact hS); rw [show [97, 100, 100, 49] = wAdd ++ [49] from rfl, h]; rw [decide_eq_false_iff_not]; rintro ⟨e, e2⟩; first | (exact absurd e2 (by decide)) | (rw [hw0] at e; exact absurd e (by decide))
            have f_change : (S.toList == [99, 104, 97, 110, 103, 101, 50]) = false := by have h := shapeB x0 wChange [99, 104, 97, 110, 103] 101 50 0 2 rfl (by decide) (by rw [Lib.decDigits_one (by decide)]; rfl) (by decide) (by exact hS); rw [show [99, 104, 97, 110, 103, 101, 50] = wChange ++ [50] from rfl, h]; rw [decide_eq_false_iff_not]; rintro ⟨e, e2⟩; first | (exact absurd e2 (by decide)) | (rw [hw0] at e; exact absurd e (by decide))
            have f_fail : (S.toList == [102, 97, 105, 108, 50]) = false := by have h := shapeB x0 wFail [102, 97, 105] 108 50 0 2 rfl (by decide) (by rw [Lib.decDigits_one (by decide)]; rfl) (by decide) (by exact hS); rw [show [102, 97, 105, 108, 50] = wFail ++ [50] from rfl, h]; rw [decide_eq_false_iff_not]; rintro ⟨e, e2⟩; first | (exact absurd e2 (by decide)) | (rw [hw0] at e; exact absurd e (by decide))
            have f_crash : (S.toList == [99, 114, 97, 115, 104, 49]) = false := by have h := shapeB x0 wCrash [99, 114, 97, 115] 104 49 0 1 rfl (by decide) (by rw [Lib.decDigits_one (by decide)]; rfl) (by decide) (by exact hS); rw [show [99, 114, 97, 115, 104, 49] = wCrash ++ [49] from rfl, h]; rw [decide_eq_false_iff_not]; rintro ⟨e, e2⟩; first | (exact absurd e2 (by decide)) | (rw [hw0] at e; exact absurd e (by decide))
            have f_open : (S.toList == [111, 112, 101, 110, 48]) = true := by have h := shapeB x0 wOpen [111, 112, 101] 110 48 0 0 rfl (by decide) (by rw [Lib.decDigits_one (by decide)]; rfl) (by decide) (by exact hS); rw [show [111, 112, 101, 110, 48] = wOpen ++ [48] from rfl, h]; rw [decide_eq_true_iff]; exact ⟨hw0, rfl⟩
            clear hS
            go_wp2
            go_ret
            exact ⟨HG2.out, _, rfl, rfl⟩
          · rw [if_neg h_open]
            by_cases h_list : x0.data.toList = wList ∧ r.length = 0
            · rw [if_pos h_list]
              obtain ⟨hw0, hrl⟩ := h_list
              obtain rfl : r = [] := List.eq_nil_of_length_eq_zero hrl
              clear hrl
              have hadd := HADD.out 0 (by omega)
              go_enter Tryz.func48, Tryz.ntmps48
              go_wp2_with (go_at_call 89; (with_reducible refine HSP.out.mono ?_); rintro e w1 ⟨rfl, hg, hb⟩; have c0 := cell_of_row w1 w.heap.size 0 _ _ _ hb; simp only [List.map_cons, List.getElem?_toArray, List.getElem?_cons_zero] at c0; have HG1 := hid hg; have HB1 := hid hb; have hz1 := lt_of_obj hb; clear hg hb)
              refine wp_region_later (by kernel_rfl) (by kernel_rfl) (fun hL => ?_)
              repeat (go_big_quiet_step ((go_at_call 47; exact calls_later (HIT.out 0 (by omega) _ (grew_trans HG1.out (Subtype.property _))))))
              refine wpQuiet_nil ?_
              rintro w2 ⟨zz, hzz⟩
              have hx : Grew w1 w2 := by rw [hzz]; exact zz.2
              clear hL hzz zz
              have HG2 := hid (grew_trans HG1.out hx)
              have HB2 := hid ((hx.block _ hz1).trans HB1.out)
              clear hx
              generalize hS : (x0 ++ ({ data := (Lib.itoa 0).toArray } : ByteArray)) = S
              have f_add : (S.toList == [97, 100, 100, 49]) = false := by have h := shapeB x0 wAdd [97, 100] 100 49 0 1 rfl (by decide) (by rw [Lib.decDigits_one (by decide)]; rfl) (by decide) (by exact hS); rw [show [97, 100, 100, 49] = wAdd ++ [49] from rfl, h]; rw [decide_eq_false_iff_not]; rintro ⟨e, e2⟩; first | (exact absurd e2 (by decide)) | (rw [hw0] at e; exact absurd e (by decide))
              have f_change : (S.toList == [99, 104, 97, 110, 103, 101, 50]) = false := by have h := shapeB x0 wChange [99, 104, 97, 110, 103] 101 50 0 2 rfl (by decide) (by rw [Lib.decDigits_one (by decide)]; rfl) (by decide) (by exact hS); rw [show [99, 104, 97, 110, 103, 101, 50] = wChange ++ [50] from rfl, h]; rw [decide_eq_false_iff_not]; rintro ⟨e, e2⟩; first | (exact absurd e2 (by decide)) | (rw [hw0] at e; exact absurd e (by decide))
              have f_fail : (S.toList == [102, 97, 105, 108, 50]) = false := by have h := shapeB x0 wFail [102, 97, 105] 108 50 0 2 rfl (by decide) (by rw [Lib.decDigits_one (by decide)]; rfl) (by decide) (by exact hS); rw [show [102, 97, 105, 108, 50] = wFail ++ [50] from rfl, h]; rw [decide_eq_false_iff_not]; rintro ⟨e, e2⟩; first | (exact absurd e2 (by decide)) | (rw [hw0] at e; exact absurd e (by decide))
              have f_crash : (S.toList == [99, 114, 97, 115, 104, 49]) = false := by have h := shapeB x0 wCrash [99, 114, 97, 115] 104 49 0 1 rfl (by decide) (by rw [Lib.decDigits_one (by decide)]; rfl) (by decide) (by exact hS); rw [show [99, 114, 97, 115, 104, 49] = wCrash ++ [49] from rfl, h]; rw [decide_eq_false_iff_not]; rintro ⟨e, e2⟩; first | (exact absurd e2 (by decide)) | (rw [hw0] at e; exact absurd e (by decide))
              have f_open : (S.toList == [111, 112, 101, 110, 48]) = false := by have h := shapeB x0 wOpen [111, 112, 101] 110 48 0 0 rfl (by decide) (by rw [Lib.decDigits_one (by decide)]; rfl) (by decide) (by exact hS); rw [show [111, 112, 101, 110, 48] = wOpen ++ [48] from rfl, h]; rw [decide_eq_false_iff_not]; rintro ⟨e, e2⟩; first | (exact absurd e2 (by decide)) | (rw [hw0] at e; exact absurd e (by decide))
              have f_list : (S.toList == [108, 105, 115, 116, 48]) = true := by have h := shapeB x0 wList [108, 105, 115] 116 48 0 0 rfl (by decide) (by rw [Lib.decDigits_one (by decide)]; rfl) (by decide) (by exact hS); rw [show [108, 105, 115, 116, 48] = wList ++ [48] from rfl, h]; rw [decide_eq_true_iff]; exact ⟨hw0, rfl⟩
              clear hS
              go_wp2
              go_ret
              exact ⟨HG2.out, _, rfl, rfl⟩
            · rw [if_neg h_list]
              obtain ⟨R, hR⟩ : ∃ R, r.length = R := ⟨_, rfl⟩
              replace HSP := hid (show Calls Tryz.prog 89 #[.string s, .string ⟨#[32]⟩] w fun e w' => e = .returned (.slice (some ⟨w.heap.size, 0, none⟩) (R + 1) (R + 1)) ∧ Grew w w' ∧ w'.heap[w.heap.size]? = some (.cells (((x0 :: r).map Value.string).toArray) 9 (0, 0)) by have := HSP.out; rw [List.length_cons, hR] at this; exact this)
              have hR9 : R ≤ 10000 := by have := HWL.out; rw [List.length_cons, hR] at this; omega
              have hwr : IntKind.i64.wrap ((R : Int) + 1 - 1) = (R : Int) := by rw [Int.add_sub_cancel]; exact IntWalk.i64_in _ (by omega)
              have hR0 : (0 : Int) < (R : Int) + 1 := by omega
              have hR00 : 0 < R + 1 := by omega
              have hadd := HADD.out (R : Int) (by omega)
              go_enter Tryz.func48, Tryz.ntmps48
              go_wp2_with (go_at_call 89; (with_reducible refine HSP.out.mono ?_); rintro e w1 ⟨rfl, hg, hb⟩; have c0 := cell_of_row w1 w.heap.size 0 _ _ _ hb; simp only [List.map_cons, List.getElem?_toArray, List.getElem?_cons_zero] at c0; have HG1 := hid hg; have HB1 := hid hb; have hz1 := lt_of_obj hb; clear hg hb)
              refine wp_region_later (by kernel_rfl) (by kernel_rfl) (fun hL => ?_)
              repeat (go_big_quiet_step ((go_at_call 47; exact calls_later (HIT.out (R : Int) (by omega) _ (grew_trans HG1.out (Subtype.property _))))))
              refine wpQuiet_nil ?_
              rintro w2 ⟨zz, hzz⟩
              have hx : Grew w1 w2 := by rw [hzz]; exact zz.2
              clear hL hzz zz
              have HG2 := hid (grew_trans HG1.out hx)
              have HB2 := hid ((hx.block _ hz1).trans HB1.out)
              clear hx
              generalize hS : (x0 ++ ({ data := (Lib.itoa (R : Int)).toArray } : ByteArray)) = S
              have f_add : (S.toList == [97, 100, 100, 49]) = false := by have h := shapeB x0 wAdd [97, 100] 100 49 R 1 rfl (by decide) (by rw [Lib.decDigits_one (by decide)]; rfl) (by decide) (by exact hS); rw [show [97, 100, 100, 49] = wAdd ++ [49] from rfl, h]; rw [decide_eq_false_iff_not]; rintro ⟨e, e2⟩; exact h_add ⟨e, hR.trans e2⟩
              have f_change : (S.toList == [99, 104, 97, 110, 103, 101, 50]) = false := by have h := shapeB x0 wChange [99, 104, 97, 110, 103] 101 50 R 2 rfl (by decide) (by rw [Lib.decDigits_one (by decide)]; rfl) (by decide) (by exact hS); rw [show [99, 104, 97, 110, 103, 101, 50] = wChange ++ [50] from rfl, h]; rw [decide_eq_false_iff_not]; rintro ⟨e, e2⟩; exact h_change ⟨e, hR.trans e2⟩
              have f_fail : (S.toList == [102, 97, 105, 108, 50]) = false := by have h := shapeB x0 wFail [102, 97, 105] 108 50 R 2 rfl (by decide) (by rw [Lib.decDigits_one (by decide)]; rfl) (by decide) (by exact hS); rw [show [102, 97, 105, 108, 50] = wFail ++ [50] from rfl, h]; rw [decide_eq_false_iff_not]; rintro ⟨e, e2⟩; exact h_fail ⟨e, hR.trans e2⟩
              have f_crash : (S.toList == [99, 114, 97, 115, 104, 49]) = false := by have h := shapeB x0 wCrash [99, 114, 97, 115] 104 49 R 1 rfl (by decide) (by rw [Lib.decDigits_one (by decide)]; rfl) (by decide) (by exact hS); rw [show [99, 114, 97, 115, 104, 49] = wCrash ++ [49] from rfl, h]; rw [decide_eq_false_iff_not]; rintro ⟨e, e2⟩; exact h_crash ⟨e, hR.trans e2⟩
              have f_open : (S.toList == [111, 112, 101, 110, 48]) = false := by have h := shapeB x0 wOpen [111, 112, 101] 110 48 R 0 rfl (by decide) (by rw [Lib.decDigits_one (by decide)]; rfl) (by decide) (by exact hS); rw [show [111, 112, 101, 110, 48] = wOpen ++ [48] from rfl, h]; rw [decide_eq_false_iff_not]; rintro ⟨e, e2⟩; exact h_open ⟨e, hR.trans e2⟩
              have f_list : (S.toList == [108, 105, 115, 116, 48]) = false := by have h := shapeB x0 wList [108, 105, 115] 116 48 R 0 rfl (by decide) (by rw [Lib.decDigits_one (by decide)]; rfl) (by decide) (by exact hS); rw [show [108, 105, 115, 116, 48] = wList ++ [48] from rfl, h]; rw [decide_eq_false_iff_not]; rintro ⟨e, e2⟩; exact h_list ⟨e, hR.trans e2⟩
              clear hS
              go_wp2
              go_ret
              exact ⟨HG2.out, _, rfl, by show _ = Value.iface 152 _; cases s; rfl⟩

end Go.Proofs.YtmohnddglmolgaaGreatDoor
