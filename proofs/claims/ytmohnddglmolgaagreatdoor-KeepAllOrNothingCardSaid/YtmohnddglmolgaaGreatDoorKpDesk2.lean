/- Walks: joined (115), what commands do: open (233), list (234), ask (235). -/
import Derived.Test.YtmohnddglmolgaaGreatDoorKpDesk
import Derived.Lib.ItoaLen
import Derived.Lib.JoinLaws
namespace Go.Proofs.YtmohnddglmolgaaGreatDoor
open Go Go.RowKit Go.Lin Go.Lin.Kp

theorem open_err {M : Mem} : (∀ b, M.open_.1 = some b → M.open_.2.1 = 0) ∧ (M.open_.1 = none → M.open_.2.1 ≠ 0) := by
  unfold Mem.open_
  split
  · exact ⟨(fun b h => by cases h), (fun _ h => by cases h)⟩
  · dsimp only
    split
    · exact ⟨(fun _ _ => rfl), (fun h => by cases h)⟩
    · rename_i h; exact ⟨(fun b h => by cases h), (fun _ => h)⟩

set_option maxHeartbeats 1000000 in
theorem open233_any (A : Bk → List UInt8 → List UInt8 × Int) (bd bm bb : Nat) (D : Dk) (F G : Nat → Prop) (w : World) (h : DeskIs w bd bm bb D F G) (hok : DkOk D) (hsz : D.M.size + 20 < 1000000000) :
    Calls Tryz.prog 233 #[.agg #[], ptr bd] w (DoneLeft w bd bm F G (doM A D .open_)) := by
  have hbd : bd < w.heap.size := lt_of_obj h.obj
  obtain ⟨w1, hw1, g1⟩ : ∃ w1, w.alloc (.cells #[] 150) = w1 ∧ Grew w w1 := ⟨_, rfl, grew_alloc (grew_refl _) _⟩
  have h1 := h.grew g1
  have HOP := hid (open41_mem bm D.M F w1 h1.mem hok.M (by omega))
  have HOK := hid (fun e W => ok229_any e W)
  have HER := hid (open_err (M := D.M))
  have d0 := h1.c0
  have HD1 := hid h1; have HG1 := hid g1
  show Calls _ _ _ _ (DoneLeft w bd bm F G ((okM D.M.open_.2.1), ⟨D.M.open_.2.2, D.M.open_.1.getD D.b⟩))
  obtain ⟨⟨ob, err, M'⟩, hop⟩ : ∃ x, D.M.open_ = x := ⟨_, rfl⟩
  rw [hop] at HOP HER ⊢
  simp only at HER ⊢
  clear hop hok hsz g1 h1
  cases ob with
  | none =>
    have her : (err != 0) = true := by rw [bne_iff_ne]; exact HER.out.2 rfl
    have her2 : (err == 0) = false := by rw [beq_eq_false_iff_ne]; exact HER.out.2 rfl
    go_enter Tryz.func233, Tryz.ntmps233
    go_wp2_with (first
      | (go_at_call 41; (with_reducible refine HOP.out.mono ?_); rintro e w2 ⟨hm, hk, rfl⟩; have HM := hid hm; have HK := hid hk; clear hm hk)
      | (go_at_call 229; (with_reducible refine (HOK.out _ _).mono ?_); rintro e w3 ⟨rfl, rfl⟩))
    go_ret2
    refine ⟨rfl, ⟨bb, F, G, ⟨HK.out.obj _ _ HD1.out.obj HD1.out.dF, HM.out, HD1.out.book.keeps HK.out (fun k _ hG hF => HD1.out.disj k hF hG), HD1.out.dF, HD1.out.dG, HD1.out.disj⟩, fun k e => .inl e, fun k e => .inl e⟩, (HG1.out.keeps).trans (HK.out.mono (fun _ _ e => .inl e))⟩
  | some b' =>
    obtain rfl : err = 0 := HER.out.1 b' rfl
    go_enter Tryz.func233, Tryz.ntmps233
    go_wp2_with (first
      | (go_at_call 41; (with_reducible refine HOP.out.mono ?_); rintro e w2 ⟨hm, hk, bb', G', rfl, hb, hG⟩; have HM := hid hm; have HK := hid hk; have HB := hid hb; have HGL := hid hG; have ho2 := hk.obj _ _ HD1.out.obj HD1.out.dF; have d2 := cell_of_row w2 bd 1 _ _ _ ho2; have f2 := frozen_of_row w2 bd 1 _ _ ho2; have HO2 := hid ho2; clear hm hk hb hG ho2)
      | (go_at_call 229; (with_reducible refine (HOK.out _ _).mono ?_); rintro e w3 ⟨rfl, rfl⟩))
    go_ret2
    have hbd1 := lt_of_obj HD1.out.obj
    have hkd : Keeps (fun k _ => k = bd) w2 (w2.setCell ⟨bd, 1, none⟩ (ptr bb')) := keeps_set1 _ _ (fun _ => rfl)
    have hGw : ∀ k, G' k → k ≠ bd := fun k e e2 => by have := HGL.out k e; omega
    refine ⟨rfl, ⟨bb', F, G', ⟨by rw [heap_setCell_same w2 bd 1 _ _ _ HO2.out]; rfl, HM.out.keeps hkd (fun k _ hF e => HD1.out.dF (e ▸ hF)), HB.out.keeps hkd (fun k _ hG e => hGw k hG e), HD1.out.dF, fun e => hGw _ e rfl, fun k hF hG => by have := HD1.out.ltF k hF; have := HGL.out k hG; omega⟩, fun k e => .inl e, fun k e => .inr (Nat.le_trans HG1.out.size (HGL.out k e))⟩, ((HG1.out.keeps).trans (HK.out.mono (fun _ _ e => .inl e))).trans (hkd.mono (fun _ _ e => .inr (.inr e)))⟩

/-! ### joined -/

theorem Tryz.info9 : (Tryz.prog.info? 9).map (fun i => (i.zero, i.size, i.bytes)) = some (some (.string ByteArray.empty), 1, 16) := by kernel_rfl

theorem joinTail_len (c : UInt8) (B : Nat) : ∀ r : List (List UInt8), (∀ x ∈ r, x.length ≤ B) → (Lib.joinTail [c] r).length ≤ r.length * (B + 1)
  | [], _ => by simp [Lib.joinTail]
  | x :: r, h => by
    have ih := joinTail_len c B r (fun y hy => h y (by simp [hy]))
    have hx := h x (by simp)
    have : (Lib.joinTail [c] (x :: r)).length = 1 + x.length + (Lib.joinTail [c] r).length := by simp [Lib.joinTail]; omega
    rw [this, List.length_cons, Nat.succ_mul]; omega

theorem join_len (c : UInt8) (B : Nat) (xs : List (List UInt8)) (h : ∀ x ∈ xs, x.length ≤ B) : (Lib.join xs [c]).length ≤ xs.length * (B + 1) := by
  cases xs with
  | nil => simp [Lib.join_nil]
  | cons x r =>
    rw [Lib.join_cons, List.length_append]
    have h1 := joinTail_len c B r (fun y hy => h y (by simp [hy]))
    have h2 := h x (by simp)
    rw [List.length_cons, Nat.succ_mul]; omega

/-- The texts of numbers. -/
def textsOf (l : List Int) : List ByteArray := l.map fun n => ⟨(Lib.itoa n).toArray⟩

set_option maxHeartbeats 1000000 in
theorem joined115_any (v : Value) (l : List Int) (c : UInt8) (w : World) (hv : IsInts Any w v l) (hn : l.length ≤ 1000) (hs : ∀ x ∈ l, 0 ≤ x ∧ x ≤ 100000) (hL : Lay w) :
    Calls Tryz.prog 115 #[v, .string ⟨#[c]⟩] w fun e w' => e = .returned (.string ⟨(joinM c l).toArray⟩) ∧ Grew w w' := by
  obtain ⟨a, cap, rfl, hm, hc⟩ := hv
  have HC := hid hc; have HS := hid hs; have HLA := hid hL
  clear hc hs hL
  obtain ⟨n, hnn⟩ : ∃ n, l.length = n := ⟨_, rfl⟩
  rw [hnn] at HC hm hn ⊢
  have HN := hid hnn
  clear hnn
  go_enter Tryz.func115, Tryz.ntmps115
  go_wp2
  go_loopg [5, 7, 10] n (fun gk nv _ iv wr => ∃ (j : Nat), j ≤ n ∧ iv = .int .i64 (j : Int) ∧ Hid (gk = n - j) ∧ Hid (Grew w wr) ∧ Hid (Seg wr w.heap.size 9 1 nv j ((textsOf (l.take j)).map .string)))
  case atStart => exact ⟨0, Nat.zero_le _, rfl, hid rfl, hid (grew_refl _), hid (Seg.nil _ _ _ _)⟩
  case round =>
    obtain ⟨j, hj, rfl, HGK, HG, HSG⟩ := hrel
    rename World => wr
    by_cases hlt : j < n
    · obtain ⟨b, off, o, rfl, hb, _, hcj⟩ := HC.out j hlt
      have hcj0 := (HG.out.cell (p := ⟨b, off + j, none⟩) (lt_of_obj hb)).trans hcj
      have hjl : j < l.length := by rw [HN.out]; exact hlt
      rw [nth_lt hjl] at hcj0
      obtain ⟨x, hx⟩ : ∃ x, l[j] = x := ⟨_, rfl⟩
      rw [hx] at hcj0
      have hxb := HS.out x (by rw [← hx]; exact List.getElem_mem hjl)
      have HIT := hid (fun (W : World) (h : Grew w W) => itoa47_any x (by omega) (by omega) W (HLA.out.grew h))
      have htk : (textsOf (l.take (j + 1))).map Value.string = (textsOf (l.take j)).map Value.string ++ [.string ⟨(Lib.itoa x).toArray⟩] := by
        rw [List.take_add_one, List.getElem?_eq_getElem hjl, hx]
        simp [textsOf]
      have HTK := hid htk
      obtain ⟨na, nc, rfl, hsh⟩ := HSG.out.shape
      clear htk hx hjl hb hcj hsh hxb
      go_wp2_with (first
        | (go_at_call 47; (with_reducible refine (HIT.out _ HG.out).mono ?_); rintro e w1 ⟨rfl, hg⟩; have HG1 := hid hg; clear hg)
        | (at_builtin; refine wpList_append_one rfl _ _ 22 rfl w.heap.size 9 Tryz.underlying22 Tryz.info9 rfl (by decide) (.slice na j nc) j _ rfl ((HSG.out.grew HG1.out).alloc _) _ _ _ rfl (one_new _ _ _) rfl (by omega) ?_ ?_; (have := HG.out.size; have := HG1.out.size; simp only [World.size_alloc]; omega); intro v9 w9 hown9 hgrow9 hblk9; have hg9 : Grew w w9 := ((grew_trans HG.out HG1.out).alloc (grew_trans HG.out HG1.out).size _).grown hgrow9 ((grew_trans HG.out HG1.out).alloc (grew_trans HG.out HG1.out).size _).size (fun k e => (HSG.out.own k e).1); have HG9 := hid hg9; have HS9 := hid hown9; clear hown9 hgrow9 hblk9 hg9))
      go_roundg (n - (j + 1))
      case measure => have := HGK.out; omega
      case rel => exact ⟨j + 1, by omega, by go_num, hid rfl, HG9, hid (by rw [HTK.out]; exact HS9.out)⟩
    · obtain rfl : j = n := by omega
      have hS := HSG.out
      rw [List.take_of_length_le (by rw [HN.out]; exact Nat.le_refl _)] at hS
      have hjm : joinM c l = Lib.join ((textsOf l).map (·.data.toList)) [c] := by unfold joinM textsOf; rw [List.map_map]; rfl
      have hlen : (textsOf l).length = j := by unfold textsOf; rw [List.length_map, HN.out]
      by_cases h0 : j = 0
      · subst h0
        obtain ⟨na, nc, rfl, _⟩ := hS.shape
        have hl0 : l = [] := List.eq_nil_of_length_eq_zero HN.out
        have HJ := hid (Tryz.strings_Join_none na nc ⟨#[c]⟩ wr)
        have HJM := hid (show joinM c l = [] by rw [hl0]; rfl)
        clear hS hjm hlen hl0
        go_wp2_with (go_at_call 136; (with_reducible refine HJ.out.mono ?_); rintro e w1 ⟨rfl, rfl⟩)
        go_ret
        exact ⟨by rw [HJM.out]; rfl, HG.out⟩
      · obtain ⟨g, off, gc, cur, rfl, hbg, hgo, hcap, hcapm, hcells⟩ := hS.at (by omega)
        have hbk : g < wr.heap.size := lt_of_obj hgo
        have hj := Tryz.strings_Join g off gc (textsOf l) ⟨#[c]⟩ wr (fun i x hx => by
            have hi : i < (textsOf l).length := (List.getElem?_eq_some_iff.1 hx).1
            have := hcells i (by omega)
            rw [List.getElem?_map, hx] at this
            exact this) hbk (by omega) (by omega) (by
            refine Nat.le_trans (join_len c 21 _ (fun x hx => ?_)) (by rw [List.length_map, hlen]; omega)
            obtain ⟨y, hy, rfl⟩ := List.mem_map.1 hx
            unfold textsOf at hy
            obtain ⟨z, hz, rfl⟩ := List.mem_map.1 hy
            have := HS.out z hz
            exact Lib.itoa_length_le z (by omega) (by omega))
        rw [hlen] at hj
        have HJ := hid hj
        have HJM := hid hjm
        clear hS hjm hlen hj hcells hgo hcap hcapm hbg
        go_wp2_with (go_at_call 136; (with_reducible refine HJ.out.mono ?_); rintro e w1 ⟨rfl, hg⟩; have HG1 := hid hg; clear hg)
        go_ret
        exact ⟨by rw [HJM.out]; rfl, grew_trans HG.out HG1.out⟩

set_option maxHeartbeats 1000000 in
theorem list234_any (A : Bk → List UInt8 → List UInt8 × Int) (bd bm bb : Nat) (D : Dk) (F G : Nat → Prop) (w : World) (h : DeskIs w bd bm bb D F G) (hok : DkOk D) (hL : Lay w) :
    Calls Tryz.prog 234 #[.agg #[], ptr bd] w (DoneLeft w bd bm F G (doM A D .list)) := by
  have hbd : bd < w.heap.size := lt_of_obj h.obj
  obtain ⟨w1, hw1, g1⟩ : ∃ w1, w.alloc (.cells #[] 151) = w1 ∧ Grew w w1 := ⟨_, rfl, grew_alloc (grew_refl _) _⟩
  have h1 := h.grew g1
  have hbo := hok.b
  have HEN := hid (entries19_any bb bm D.b G w1 h1.book (by have := hbo.1; omega))
  have d0 := h1.c1
  have HD1 := hid h1; have HG1 := hid g1
  have HJ := hid (fun (W : World) (u : Value) (hg : Grew w W) (hu : IsInts Any W u D.b.list) => joined115_any u D.b.list 44 W hu (by have := hbo.1; omega) (fun x hx => by have := isNum_iff.1 (hbo.2 x hx); omega) (hL.grew hg))
  show Calls _ _ _ _ (DoneLeft w bd bm F G (((if D.b.list.length = 0 then [45] else joinM 44 D.b.list), 0), D))
  obtain ⟨n, hn⟩ : ∃ n, D.b.list.length = n := ⟨_, rfl⟩
  rw [hn] at HEN ⊢
  clear hok h1 g1 hbo hL hn
  by_cases h0 : n = 0
  · subst h0
    rw [if_pos rfl]
    go_enter Tryz.func234, Tryz.ntmps234
    go_wp2_with (go_at_call 19; (with_reducible refine HEN.out.mono ?_); rintro e w2 ⟨u, rfl, hs, hg⟩; obtain ⟨ua, uc, rfl, _⟩ := hs.shape; have HG2 := hid hg; clear hg hs)
    go_ret2
    have hg := grew_trans HG1.out HG2.out
    exact ⟨rfl, ⟨bb, F, G, h.grew hg, fun k e => .inl e, fun k e => .inl e⟩, hg.keeps⟩
  · rw [if_neg h0]
    have e0 : ((n : Int) == 0) = false := by rw [beq_eq_false_iff_ne]; omega
    have e0' : (n == 0) = false := by rw [beq_eq_false_iff_ne]; exact h0
    clear h0
    go_enter Tryz.func234, Tryz.ntmps234
    go_wp2_with (first
      | (go_at_call 19; (with_reducible refine HEN.out.mono ?_); rintro e w2 ⟨u, rfl, hs, hg⟩; obtain ⟨ua, uc, rfl, _⟩ := hs.shape; have HG2 := hid hg; have HI := hid hs.isInts.any; clear hg hs)
      | (go_at_call 115; (with_reducible refine (HJ.out _ _ (grew_trans HG1.out HG2.out) HI.out).mono ?_); rintro e w3 ⟨rfl, hg⟩; have HG3 := hid hg; clear hg))
    go_ret2
    have hg := grew_trans HG1.out (grew_trans HG2.out HG3.out)
    exact ⟨rfl, ⟨bb, F, G, h.grew hg, fun k e => .inl e, fun k e => .inl e⟩, hg.keeps⟩

/-- What a book's Ask returns. -/
def AskOk (A : Bk → List UInt8 → List UInt8 × Int) : Prop := ∀ (bb bm : Nat) (b : Bk) (G : Nat → Prop) (s : ByteArray) (w : World), IsBook w bb bm b G → BkOk b → s.size ≤ 10000 → Lay w →
  Calls Tryz.prog 44 #[ptr bb, .string s] w fun e w' => e = .returned (.tuple #[.string ⟨(A b s.data.toList).1.toArray⟩, .int .i64 (A b s.data.toList).2]) ∧ Grew w w'

set_option maxHeartbeats 1000000 in
theorem ask235_any (A : Bk → List UInt8 → List UInt8 × Int) (hA : AskOk A) (bd bm bb : Nat) (D : Dk) (F G : Nat → Prop) (s : ByteArray) (hs : s.size ≤ 10000) (w : World) (h : DeskIs w bd bm bb D F G) (hok : DkOk D) (hL : Lay w) :
    Calls Tryz.prog 235 #[.string s, ptr bd] w (DoneLeft w bd bm F G (doM A D (.ask s.data.toList))) := by
  have HC := hid (hA bb bm D.b G s w h.book hok.b hs hL)
  have d1 := h.c1
  have HD := hid h
  show Calls _ _ _ _ (DoneLeft w bd bm F G (A D.b s.data.toList, D))
  clear h hok hL hA
  go_enter Tryz.func235, Tryz.ntmps235
  go_wp2_with (go_at_call 44; (with_reducible refine HC.out.mono ?_); rintro e w2 ⟨rfl, hg⟩; have HG := hid hg; clear hg)
  go_ret2
  exact ⟨rfl, ⟨bb, F, G, HD.out.grew HG.out, fun k e => .inl e, fun k e => .inl e⟩, HG.out.keeps⟩

end Go.Proofs.YtmohnddglmolgaaGreatDoor
