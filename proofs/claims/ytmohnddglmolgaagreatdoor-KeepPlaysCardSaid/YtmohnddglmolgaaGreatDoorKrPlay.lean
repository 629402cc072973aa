/- Walk of the reference: a script (14). -/
import Derived.Test.YtmohnddglmolgaaGreatDoorKrScript2
import Derived.Test.YtmohnddglmolgaaGreatDoorKpSane
import Derived.Test.YtmohnddglmolgaaGreatDoorKpCounts
namespace Go.Lin.Kp
open Go Go.Lin

theorem rsm_ask (b : Bk) (s : List UInt8) : Sm (askA b s).2 := by
  unfold askA sizeA saysA Sm
  split
  · split
    · exact ⟨show (0 : Int) ≤ 4 by decide, show (4 : Int) ≤ 1000 by decide⟩
    · exact ⟨show (0 : Int) ≤ 0 by decide, show (0 : Int) ≤ 1000 by decide⟩
  · split
    · exact ⟨show (0 : Int) ≤ 0 by decide, show (0 : Int) ≤ 1000 by decide⟩
    · split
      · exact ⟨show (0 : Int) ≤ 0 by decide, show (0 : Int) ≤ 1000 by decide⟩
      · exact ⟨show (0 : Int) ≤ 100 by decide, show (100 : Int) ≤ 1000 by decide⟩

theorem sm_script (D : Dk) (x : List UInt8) : Sm (scriptM askA D x).1.2 := by
  unfold scriptM
  cases parseM x with
  | none => exact ⟨show (0 : Int) ≤ 100 by decide, show (100 : Int) ≤ 1000 by decide⟩
  | some c => exact sm_do c (fun s _ => rsm_ask _ _)
theorem script_snd (D : Dk) (x : List UInt8) : (lineM askA D x).2 = (scriptM askA D x).2 := by rw [lineM_script]
theorem size_script (D : Dk) (x : List UInt8) : (scriptM askA D x).2.M.size ≤ D.M.size + 14 := by rw [← script_snd]; exact size_play askA D x
theorem ok_script {D : Dk} (h : DkOk D) (x : List UInt8) : DkOk (scriptM askA D x).2 := by rw [← script_snd]; exact dkOk_line h x

theorem le_do {D : Dk} (h : Le D.M D.b) (c : Cmd) : Le (doM askA D c).2.M (doM askA D c).2.b := by
  cases c with
  | add n => exact le_add h n
  | change i n => exact le_change h i n
  | fail k l => exact h.mo (mo_planned _ _ _)
  | crash l => exact h.mo (mo_crash _ _)
  | open_ =>
    show Le D.M.open_.2.2 (D.M.open_.1.getD D.b)
    cases e : D.M.open_.1 with
    | none => exact h.mo (mo_open _)
    | some b => have := le_open e; exact ⟨Nat.le_of_eq this.1, Nat.le_of_eq this.2⟩
  | list => exact h
  | ask s => exact h
theorem le_script {D : Dk} (h : Le D.M D.b) (x : List UInt8) : Le (scriptM askA D x).2.M (scriptM askA D x).2.b := by
  unfold scriptM
  cases parseM x with
  | none => exact h
  | some c => exact le_do h c

end Go.Lin.Kp
namespace Go.Proofs.YtmohnddglmolgaaGreatDoor
open Go Go.RowKit Go.Lin Go.Lin.Kp

/-- A script of the reference under way: its desk, and the answers so far. -/
structure RPl (w wr : World) (bs bm bb : Nat) (D : Dk) (F G : Nat → Prop) (u : Value) (ans : List (List UInt8)) : Prop where
  grew : Grew w wr
  desk : RDeskS 117 wr bs bm (ptr bb) ⟨D.M, some D.b⟩ F G
  new : ∀ k, F k ∨ G k ∨ k = bs → w.heap.size ≤ k
  out : Seg wr w.heap.size 9 1 u ans.length ((ans.map bA).map Value.string)
  own : ∀ k, u.ownBlock = some k → ¬ (F k ∨ G k ∨ k = bs)

section
variable {w wr w' : World} {bs bm bb bb' : Nat} {D D' : Dk} {F G F' G' : Nat → Prop} {u v' : Value} {ans : List (List UInt8)}

theorem RPl.ltAll (h : RPl w wr bs bm bb D F G u ans) : ∀ k, F k ∨ G k ∨ k = bs → k < wr.heap.size := by
  rintro k (e | e | rfl)
  · exact h.desk.mem.ltF k e
  · exact h.desk.ltG k e
  · exact lt_of_obj h.desk.obj

theorem RPl.grown (h : RPl w wr bs bm bb D F G u ans) (hg : Grew wr w') : RPl w w' bs bm bb D F G u ans := ⟨grew_trans h.grew hg, h.desk.grew hg, h.new, h.out.grew hg, h.own⟩

theorem RPl.done (h : RPl w wr bs bm bb D F G u ans) (hd : RDeskS 117 w' bs bm (ptr bb') ⟨D'.M, some D'.b⟩ F' G') (hF : Wider wr F F') (hG : Wider wr G G') (hk : Keeps (fun k _ => F k ∨ G k ∨ k = bs) wr w') : RPl w w' bs bm bb' D' F' G' u ans := by
  have hz := h.grew.size
  refine ⟨grew_b h.grew (hk.below hz (fun k _ e => h.new k e)), hd, ?_, h.out.keeps hk (fun k _ e _ hm => h.own k e hm), fun k e => ?_⟩
  · rintro k (e | e | e)
    · exact (hF k e).elim (fun e => h.new k (.inl e)) (fun e => Nat.le_trans hz e)
    · exact (hG k e).elim (fun e => h.new k (.inr (.inl e))) (fun e => Nat.le_trans hz e)
    · exact h.new k (.inr (.inr e))
  · have hlt := (h.out.own k e).2.1
    have ho := h.own k e
    rintro (e2 | e2 | e2)
    · exact (hF k e2).elim (fun e => ho (.inl e)) (fun e => by omega)
    · exact (hG k e2).elim (fun e => ho (.inr (.inl e))) (fun e => by omega)
    · exact ho (.inr (.inr e2))

theorem RPl.append {j : Nat} {x : List UInt8} (h : RPl w wr bs bm bb D F G u ans) (hj : ans.length = j) (hs : Seg w' w.heap.size 9 1 v' (j + 1) ((ans.map bA).map Value.string ++ [.string (bA x)])) (hg : wr.grownBy w' u.ownBlock)
    (hb : v'.ownBlock = u.ownBlock ∨ v'.ownBlock = some wr.heap.size) : RPl w w' bs bm bb D F G v' (ans ++ [x]) := by
  have hk : Keeps (fun k _ => u.ownBlock = some k) wr w' := (Keeps.refl _ wr).grown hg (fun k o e _ => e)
  have hd := h.desk
  have hlt := h.ltAll
  refine ⟨grew_b h.grew (hk.below h.grew.size (fun k _ e => (h.out.own k e).1)), ⟨hk.obj _ _ hd.obj (fun e => h.own _ e (.inr (.inr rfl))), hd.mem.keeps hk (fun k _ e e2 => h.own k e2 (.inl e)), hd.book.keeps hk (fun k _ e e2 => h.own k e2 (.inr (.inl e))), hd.disj, hd.nF, hd.nG, fun k e => Nat.lt_of_lt_of_le (hd.ltG k e) hk.size⟩, h.new, ?_, fun k e => ?_⟩
  · rw [List.length_append, List.length_singleton, hj]
    simpa using hs
  · rcases hb with hb | hb
    · exact h.own k (by rw [← hb]; exact e)
    · rw [hb, Option.some.injEq] at e
      subst e
      exact fun e => Nat.lt_irrefl _ (hlt _ e)
end

theorem rerr_run (er : Int) (h : Sm er) (W : World) : (Op.stringOp .add ⟨#[101, 114, 114, 111, 114, 32]⟩ (rtx (Lib.decDigits er.toNat))).run Tryz.prog W = .ok (.string (bA (errT er))) W := by
  obtain ⟨m, rfl⟩ : ∃ m : Nat, er = (m : Int) := ⟨er.toNat, by have := h.1; omega⟩
  have hl : (Lib.decDigits m).length ≤ 21 := by rw [← itoa_nat]; exact Lib.itoa_length_le _ (by omega) (by have := h.2; omega)
  have := rcat_run [101, 114, 114, 111, 114, 32] (Lib.decDigits m) (by simp only [List.length_cons, List.length_nil]; omega) W
  unfold errT bA
  rw [itoa_nat]
  exact this

set_option maxHeartbeats 8000000 in
set_option maxRecDepth 20000 in
theorem rplay14_any (v : Value) (ls : List ByteArray) (w : World) (hv : IsWds Any w v ls) (hn : ls.length ≤ 100) (hs : ∀ x ∈ ls, x.size ≤ 10000) :
    Calls Tryz.prog 14 #[v] w fun e w' => ∃ u, e = .returned (.tuple #[u, .int .i64 0]) ∧ Seg w' w.heap.size 9 1 u ls.length (((playM askA (bytesOf ls)).map bA).map Value.string) ∧ Grew w w' := by
  obtain ⟨a, cap, rfl, hm, hc⟩ := hv
  have HC := hid hc; have HS := hid hs
  clear hc hs
  obtain ⟨n, hnn⟩ : ∃ n, ls.length = n := ⟨_, rfl⟩
  rw [hnn] at HC hm hn ⊢
  have HN := hid hnn
  clear hnn
  have HNEW := hid (fun W => rnew36_any W)
  have HOPEN := hid (fun (W : World) (bm : Nat) (F : Nat → Prop) (h : IsRMem W bm Mem.new F) => (by have := ropen49_any bm Mem.new F W h Ok.new (by decide); rw [open_new] at this; exact this : Calls Tryz.prog 49 #[ptr bm] W (ROpen W bm F (some ⟨0, 1, []⟩, 0, { Mem.new with opened := 1 }))))
  have hn100 : decide ((100 : Int) < (n : Int)) = false := by rw [decide_eq_false_iff_not]; omega
  have hn100' : decide (100 < n) = false := by rw [decide_eq_false_iff_not]; omega
  go_enter Tryz.func14, Tryz.ntmps14
  go_wp2_with (first
    | (go_at_call 36; (with_reducible refine (HNEW.out _).mono ?_); rintro e w1 ⟨rfl, hm1, hg1⟩; have HM1 := hid hm1; have HG1 := hid hg1; clear hm1 hg1)
    | (go_at_call 49; (with_reducible refine (HOPEN.out _ _ _ HM1.out).mono ?_); rintro e w2 ⟨hm2, hk2, bb, G, rfl, hb2, hG2⟩; obtain ⟨W3, hW3, g3, o3, z3⟩ := block_new w2 #[ptr w.heap.size, ptr bb] 117; have HW3 := hid (And.intro g3 (And.intro o3 z3)); have HM2 := hid hm2; have HK2 := hid hk2; have HB2 := hid hb2; have HGL := hid hG2; clear hm2 hk2 hb2 hG2 g3 o3 z3))
  have hP0 : RPl w W3 w2.heap.size w.heap.size bb Dk.new (fun k => k = w.heap.size) G (.slice none 0 0) [] := by
    obtain ⟨g3, o3, z3⟩ := HW3.out
    have hm1 := HM1.out.lt
    have hk1 := HK2.out.size
    have hgs := HG1.out.size
    have hgA : Grew w w2 := grew_b HG1.out (HK2.out.below HG1.out.size (fun k _ e => by rw [show k = w.heap.size from e]; exact Nat.le_refl _))
    have hGlt := HB2.out.ltG
    refine ⟨grew_trans hgA g3, ⟨o3, HM2.out.grew g3, ⟨bb, rfl, HB2.out.grew g3⟩, ?_, fun e => by omega, fun e => by have := hGlt _ e; omega, fun k e => by have := hGlt k e; omega⟩, ?_, Seg.nil _ _ _ _, fun k e => by cases e⟩
    · intro k e e2; have := HGL.out k e2; omega
    · rintro k (e | e | e)
      · omega
      · have := HGL.out k e; omega
      · omega
  have HP0 := hid hP0
  obtain ⟨bs, hbs⟩ : ∃ x, w2.heap.size = x := ⟨_, rfl⟩
  obtain ⟨bm, hbm⟩ : ∃ x, w.heap.size = x := ⟨_, rfl⟩
  obtain ⟨F0, hF⟩ : ∃ F : Nat → Prop, (fun k => k = w.heap.size) = F := ⟨_, rfl⟩
  rw [hF] at HP0
  have HP1 : Hid (RPl w W3 bs bm bb Dk.new F0 G (.slice none 0 0) []) := by rw [← hbs, ← hbm]; exact HP0
  (try rw [hbs])
  clear hP0 HP0 hbs hbm hF HM1 HG1 HM2 HK2 HB2 HGL HNEW HOPEN HW3 hn100 hn100' hW3
  go_loopg [8, 9, 10, 11, 31] n (fun gk ov iv _ _ _ wr => ∃ (j : Nat) (ans : List (List UInt8)) (D : Dk) (bb : Nat) (F G : Nat → Prop), j ≤ n ∧ iv = .int .i64 (j : Int) ∧ Hid (gk = n - j) ∧ Hid (playR askA ((bytesOf ls).take j) Dk.new = (ans, D)) ∧ Hid (DkOk D) ∧ Hid (Le D.M D.b) ∧ Hid (D.M.size ≤ 100 + 14 * j) ∧ Hid (RPl w wr bs bm bb D F G ov ans))
  case atStart => exact ⟨0, [], Dk.new, bb, F0, G, Nat.zero_le _, rfl, hid rfl, hid rfl, hid dkOk_new, hid ⟨Nat.le_refl _, Nat.le_refl _⟩, hid (by decide), HP1⟩
  case round =>
    clear HP1
    obtain ⟨j, ans, D, bb, F, G, hj, rfl, HGK, HPL, HOK, HLE, HSZ, HP⟩ := hrel
    rename World => wr
    have hla : ans.length = j := by
      have := playR_len askA Dk.new ((bytesOf ls).take j)
      rw [HPL.out, List.length_take, List.length_map, HN.out] at this
      simp only at this; omega
    have HLA := hid hla
    by_cases hlt : j < n
    · obtain ⟨b, off, o, rfl, hb, _, hcj⟩ := HC.out j hlt
      have hjl : j < ls.length := by rw [HN.out]; exact hlt
      have hcj0 := (HP.out.grew.cell (p := ⟨b, off + j, none⟩) (lt_of_obj hb)).trans (line_cell hjl hcj)
      obtain ⟨x, hx⟩ : ∃ x, ls[j] = x := ⟨_, rfl⟩
      have hxm : x ∈ ls := by rw [← hx]; exact List.getElem_mem hjl
      rw [hx] at hcj0
      have HSC := hid (script50_any bs bm bb D F G x wr HP.out.desk HOK.out HLE.out (by have := HSZ.out; omega) (HS.out x hxm))
      have hsn : playR askA ((bytesOf ls).take (j + 1)) Dk.new = (ans ++ [(lineM askA D x.data.toList).1], (lineM askA D x.data.toList).2) := by
        have hjb : j < (bytesOf ls).length := by rw [List.length_map]; exact hjl
        rw [List.take_add_one, List.getElem?_eq_getElem hjb, Option.toList_some, playR_snoc, HPL.out]
        simp [hx]
      rw [lineM_script] at hsn
      have hok' := ok_script HOK.out x.data.toList
      have hsz' := size_script D x.data.toList
      have hle' := le_script HLE.out x.data.toList
      have hsm' := sm_script D x.data.toList
      obtain ⟨⟨⟨rt, er⟩, D'⟩, hr⟩ : ∃ r, scriptM askA D x.data.toList = r := ⟨_, rfl⟩
      rw [hr] at HSC hsn hok' hsz' hle' hsm'
      simp only at hsn hok' hsz' hle' hsm'
      have HSN := hid hsn; have HOK' := hid hok'; have HSZ' := hid hsz'; have HLE' := hid hle'; have HSM' := hid hsm'
      have hS0 := HP.out.out
      rw [hla] at hS0
      obtain ⟨ua, uc, rfl, -⟩ := hS0.shape
      clear hsn hok' hsz' hle' hsm' hcj hx hxm hb hr hS0 hla hjl
      by_cases h0 : er = 0
      · subst h0
        have HAN := hid (show playR askA ((bytesOf ls).take (j + 1)) Dk.new = (ans ++ [rt], D') by have := HSN.out; rw [if_pos rfl] at this; exact this)
        go_wp2_with (first
          | (go_at_call 50; (with_reducible refine HSC.out.mono ?_); rintro e w2 ⟨rfl, ⟨bb', F', G', hd, hF, hG⟩, hk⟩; have hp2 := HP.out.done hd hF hG hk; have HP2 := hid hp2; have hs2 := hp2.out; rw [HLA.out] at hs2; have HS2 := hid hs2; clear hd hF hG hk hp2 hs2)
          | (at_builtin; refine wpList_append_one rfl _ _ 22 rfl w.heap.size 9 Tryz.underlying22 Tryz.info9 rfl (by decide) (.slice ua j uc) j _ rfl (HS2.out.alloc _) _ _ _ rfl (one_new _ _ _) rfl (by omega) ?_ ?_; (have := HP2.out.grew.size; simp only [World.size_alloc]; omega); intro v9 w9 hown9 hgrow9 hblk9; have hp9 := (HP2.out.grown (grew_alloc (grew_refl _) _)).append HLA.out hown9 hgrow9 hblk9; have HP9 := hid hp9; clear hown9 hgrow9 hblk9 hp9))
        go_roundg (n - (j + 1))
        case measure => have := HGK.out; omega
        case rel => exact ⟨j + 1, ans ++ [rt], D', bb', F', G', by omega, by go_num, hid rfl, HAN, HOK', HLE', hid (by have := HSZ.out; have := HSZ'.out; omega), HP9⟩
      · have hne : (er != 0) = true := by rw [bne_iff_ne]; exact h0
        have HAN := hid (show playR askA ((bytesOf ls).take (j + 1)) Dk.new = (ans ++ [errT er], D') by have := HSN.out; rw [if_neg h0] at this; exact this)
        have hadd := fun W => rerr_run er HSM'.out W
        obtain ⟨dt, hdt⟩ : ∃ t, rtx (Lib.decDigits er.toNat) = t := ⟨_, rfl⟩
        obtain ⟨et, het⟩ : ∃ t, bA (errT er) = t := ⟨_, rfl⟩
        rw [hdt, het] at hadd
        have HET := hid het
        have hsm := HSM'.out
        have HDE := hid (fun W => (by have := decimal45_any er.toNat er.toNat (Nat.le_refl _) (by have := hsm.2; omega) W; rw [show ((er.toNat : Nat) : Int) = er by have := hsm.1; omega] at this; rw [show (⟨(Lib.decDigits er.toNat).toArray⟩ : ByteArray) = dt from hdt] at this; exact this : Calls Tryz.prog 45 #[.int .i64 er] W fun e w' => e = .returned (.string dt) ∧ Grew W w'))
        clear h0 hdt het hsm
        go_wp2_with (first
          | (go_at_call 50; (with_reducible refine HSC.out.mono ?_); rintro e w2 ⟨rfl, ⟨bb', F', G', hd, hF, hG⟩, hk⟩; have hp2 := HP.out.done hd hF hG hk; have HP2 := hid hp2; clear hd hF hG hk hp2)
          | (go_at_call 45; (with_reducible refine (HDE.out _).mono ?_); rintro e w3 ⟨rfl, hg3⟩; have hp3 := HP2.out.grown hg3; have HP3 := hid hp3; have hs3 := hp3.out; rw [HLA.out] at hs3; have HS3 := hid hs3; clear hg3 hp3 hs3)
          | (at_builtin; refine wpList_append_one rfl _ _ 22 rfl w.heap.size 9 Tryz.underlying22 Tryz.info9 rfl (by decide) (.slice ua j uc) j _ rfl (HS3.out.alloc _) _ _ _ rfl (one_new _ _ _) rfl (by omega) ?_ ?_; (have := HP3.out.grew.size; simp only [World.size_alloc]; omega); intro v9 w9 hown9 hgrow9 hblk9; have hp9 := (HP3.out.grown (grew_alloc (grew_refl _) _)).append (x := errT er) HLA.out (by rw [HET.out]; exact hown9) hgrow9 hblk9; have HP9 := hid hp9; clear hown9 hgrow9 hblk9 hp9))
        go_roundg (n - (j + 1))
        case measure => have := HGK.out; omega
        case rel => exact ⟨j + 1, ans ++ [errT er], D', bb', F', G', by omega, by go_num, hid rfl, HAN, HOK', HLE', hid (by have := HSZ.out; have := HSZ'.out; omega), HP9⟩
    · obtain rfl : j = n := by omega
      have hpl : ans = playM askA (bytesOf ls) := by
        have := HPL.out
        rw [List.take_of_length_le (by rw [List.length_map, HN.out]; exact Nat.le_refl _)] at this
        unfold playM; rw [this]
      have HPM := hid hpl
      clear hpl hla
      go_wp2
      go_ret2
      exact ⟨_, rfl, by rw [← HPM.out, ← HLA.out]; exact HP.out.out, HP.out.grew⟩

end Go.Proofs.YtmohnddglmolgaaGreatDoor
