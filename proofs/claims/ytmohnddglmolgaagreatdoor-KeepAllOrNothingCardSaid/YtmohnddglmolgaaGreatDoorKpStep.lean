/- Walks: what a memory does: fail (63), step (101), done (58). -/
import Derived.Test.YtmohnddglmolgaaGreatDoorKpFunc
import Derived.Deep.RegionLaw
namespace Go.Proofs.YtmohnddglmolgaaGreatDoor
open Go Go.RowKit Go.Lin Go.Lin.Kp

/-- A memory's blocks may turn, and no others. -/
abbrev InF (F : Nat → Prop) : Nat → Obj → Prop := fun k _ => F k

theorem keptOf_snoc (M : Mem) (l : List Int) (c : Nat) (i : Nat) : keptOf M (l ++ [(c : Int)]) i = if i = c then M.fresh i else keptOf M l i := by
  unfold keptOf
  by_cases h : i = c
  · subst h; simp
  · have : (i : Int) ≠ (c : Int) := by omega
    simp [h, this]

theorem keeps_set1 {w : World} {b i : Nat} (v : Value) (may : Nat → Obj → Prop) (hm : ∀ o, may b o) : Keeps may w (w.setCell ⟨b, i, none⟩ v) :=
  ⟨rfl, rfl, rfl, by simp, fun k o h hn => by
    by_cases e : k = b
    · subst e; exact absurd (hm o) hn
    · rw [heap_setCell_other _ _ _ _ e]; exact h⟩

set_option maxHeartbeats 1000000 in
theorem fail63_any (bm : Nat) (M : Mem) (F : Nat → Prop) (v : Value) (l : List Int) (S : Nat → Obj → Prop) (w : World) (h : IsMem w bm M F) (hsz : M.fails + M.opened < 1000000000) (hl : areEarly l = true) (hv : IsInts S w v l) (hS : ∀ k o, S k o → k ≠ bm) :
    Calls Tryz.prog 63 #[ptr bm, v] w fun e w' => e = .returned (.tuple #[]) ∧ IsMem w' bm (M.fail l) F ∧ Keeps (InF F) w w' := by
  obtain ⟨bn, sv, h⟩ := h
  obtain ⟨a, cap, rfl, hm, hc⟩ := hv
  have hcells : ∀ c ∈ l, 0 ≤ c ∧ c ≤ 63 := by
    intro c hc2
    unfold areEarly at hl
    rw [Bool.and_eq_true, List.all_eq_true] at hl
    exact isCell_iff.1 (hl.2 c hc2)
  have HC := hid hc; have HL := hid hcells; have HH := hid h; have HSS := hid hS
  clear hc hcells h hS hl
  obtain ⟨n, hn⟩ : ∃ n, l.length = n := ⟨_, rfl⟩
  rw [hn] at HC hm ⊢
  have HN := hid hn
  clear hn
  go_enter Tryz.func63, Tryz.ntmps63
  go_wp2
  go_loopg [5, 8] n (fun gk _ i wr => ∃ j : Nat, j ≤ n ∧ i = .int .i64 (j : Int) ∧ Hid (gk = n - j) ∧ Hid (wr.rowIs bm 89 135 (memAt { M with kept := keptOf M (l.take j) } bn sv)) ∧ Hid (Keeps (fun k _ => k = bm) w wr))
  case atStart => exact ⟨0, Nat.zero_le _, rfl, hid rfl, hid (HH.out.row.congr fun i _ => by simp [memAt, keptOf]), hid (Keeps.refl _ _)⟩
  case round =>
    obtain ⟨j, hj, rfl, HGK, HR, HK⟩ := hrel
    rename World => wr
    by_cases hlt : j < n
    · obtain ⟨b, off, o, rfl, hb, hso, hcj⟩ := HC.out j hlt
      have hbm := HSS.out _ _ hso
      have hb2 := HK.out.obj _ _ hb hbm
      have cv := cell_of_obj hb hb2 hcj
      have hjl : j < l.length := by rw [HN.out]; exact hlt
      rw [nth_lt hjl] at cv
      obtain ⟨c, hcc⟩ : ∃ c, l[j] = c := ⟨_, rfl⟩
      rw [hcc] at cv
      have hc2 := HL.out c (by rw [← hcc]; exact List.getElem_mem hjl)
      obtain ⟨ci, rfl⟩ : ∃ ci : Nat, c = (ci : Int) := ⟨c.toNat, by omega⟩
      have hci : ci < 64 := by omega
      have hcI : (ci : Int) < 64 := by omega
      have cf := HR.out.cell (i := 1 + ci) (by omega)
      rw [show memAt { M with kept := keptOf M (l.take j) } bn sv (1 + ci) = .int .i64 (M.fresh ci) by unfold memAt; rw [if_neg (by omega), if_pos (by omega), show 1 + ci - 1 = ci by omega]] at cf
      have ck := HR.out.cell (i := 65 + ci) (by omega)
      have fk := HR.out.frozen (65 + ci)
      have htk : l.take (j + 1) = l.take j ++ [(ci : Int)] := by rw [List.take_add_one, List.getElem?_eq_getElem hjl, hcc]; rfl
      have HTK := hid htk
      clear hb hso hcj hb2 hcc hc2 hjl hbm htk
      go_wp2
      go_region_law (fail)
      go_wp2
      go_roundg (n - (j + 1))
      case measure => have := HGK.out; omega
      case rel =>
        refine ⟨j + 1, by omega, by go_num, hid rfl, hid ((HR.out.set (65 + ci) (.int .i64 (M.fresh ci))).congr fun i hi => ?_), hid ((HK.out.trans (keeps_set1 _ _ fun _ => rfl)).drew)⟩
        rw [HTK.out]
        unfold memAt
        by_cases e : i = 65 + ci
        · subst e
          rw [if_pos rfl, if_neg (by omega), if_neg (by omega), if_pos (by omega)]
          dsimp only
          rw [keptOf_snoc, if_pos (by omega), show 65 + ci - 65 = ci by omega]
        · rw [if_neg e]
          by_cases h1 : i < 65
          · by_cases h0 : i = 0
            · rw [if_pos h0, if_pos h0]
            · rw [if_neg h0, if_neg h0, if_pos h1, if_pos h1]
          · by_cases h2 : i < 129
            · rw [if_neg (by omega), if_neg h1, if_pos h2, if_neg (by omega), if_neg h1, if_pos h2]
              dsimp only
              rw [keptOf_snoc, if_neg (by omega)]
            · have h0 : i ≠ 0 := by omega
              rw [if_neg h0, if_neg h1, if_neg h2, if_neg h0, if_neg h1, if_neg h2]
    · obtain rfl : j = n := by omega
      obtain ⟨w2, hcl, hn2, hg2, hz2⟩ := (HH.out.notes.keeps HK.out (fun es c e => HH.out.ne e)).clear Tryz.underlying85
      have hne := HH.out.ne
      have hr2 : w2.rowIs bm 89 135 (memAt { M with kept := keptOf M (l.take j) } bn sv) := HR.out.of_block (hg2.block _ HR.out.lt (by simpa using fun e => hne e.symm))
      have cN := HR.out.cell (i := 129) (by omega)
      rw [show memAt { M with kept := keptOf M (l.take j) } bn sv 129 = .map (some bn) by rfl] at cN
      have d0 := hr2.cell (i := 130) (by omega)
      have d1 := hr2.cell (i := 131) (by omega)
      have d2 := hr2.cell (i := 132) (by omega)
      have d4 := hr2.cell (i := 134) (by omega)
      rw [show memAt { M with kept := keptOf M (l.take j) } bn sv 134 = .int .i64 ((M.fails + M.opened : Nat) : Int) by rfl] at d4
      have e0 := hr2.frozen 130
      have e1 := hr2.frozen 131
      have e2 := hr2.frozen 132
      have e4 := hr2.frozen 134
      have HR2 := hid hr2; have HN2 := hid hn2; have HG2 := hid hg2; have HZ2 := hid hz2
      clear hr2 hn2 hg2 hz2 hne
      go_wp2
      go_end0
      have hne := HH.out.ne
      refine ⟨rfl, ⟨bn, .slice none 0 0, ?_, ?_, ?_, HH.out.inM, HH.out.inN, ?_⟩, ?_⟩
      · refine ((((HR2.out.set 130 (.bool true)).set 131 (.int .i64 0)).set 132 (.slice none 0 0)).set 134 (.int .i64 ((M.fails : Int) + (M.opened : Int) + 1))).congr fun i hi => ?_
        rw [List.take_of_length_le (by rw [HN.out]; exact Nat.le_refl _)]
        unfold memAt Mem.fail
        by_cases h1 : i < 129
        · rw [if_neg (by omega), if_neg (by omega), if_neg (by omega), if_neg (by omega)]
          simp only [h1, if_true]
        · have : i = 129 ∨ i = 130 ∨ i = 131 ∨ i = 132 ∨ i = 133 ∨ i = 134 := by omega
          rcases this with rfl | rfl | rfl | rfl | rfl | rfl
          · rfl
          · rfl
          · rfl
          · rfl
          · rfl
          · simp; omega
      · exact ((((HN2.out.mono (Nat.zero_le _)).setOther hne _).setOther hne _).setOther hne _).setOther hne _
      · exact Reads.nil _ _ _ _ _
      · intro k hk
        have := HH.out.lt k hk
        have := HK.out.size
        simp only [World.size_setCell, HZ2.out]; omega
      · have hk1 : Keeps (InF F) w w2 := (HK.out.mono (fun k o e => by rw [e]; exact HH.out.inM)).grown HG2.out (fun k o e _ => by cases e; exact HH.out.inN)
        have hb : ∀ (i : Nat) (u : Value) (x : World), Keeps (InF F) x (x.setCell ⟨bm, i, none⟩ u) := fun i u x => keeps_set1 u _ (fun _ => HH.out.inM)
        exact (((hk1.trans (hb _ _ _)).trans (hb _ _ _)).trans (hb _ _ _)).trans (hb _ _ _)

/-- A step is counted. -/
abbrev tick (M : Mem) : Mem := { M with plan := M.plan - 1, steps := M.steps + 1 }

/-- What a call leaves of a memory: its answer, the memory, and that nothing else of what was there has turned. -/
abbrev Left (w : World) (bm : Nat) (o : Ord) (F : Nat → Prop) (e : Ending) (w' : World) : Prop := e = .returned (.int .i64 o.1) ∧ IsMem w' bm o.2 F ∧ Keeps (InF F) w w'

/-- What is to be done in a step. -/
abbrev Does (bm : Nat) (M : Mem) (F : Nat → Prop) (g : Nat) (caps : Array Value) (f : Mem → Mem) (w : World) : Prop :=
  ∀ w1, IsMem w1 bm (tick M) F → (∀ bn sv, MemIs w1 bm bn sv (tick M) F → NMap w1 Tryz.prog 3 3 bn M.steps M.notes) → Keeps (InF F) w w1 → Calls Tryz.prog g caps w1 fun e w2 => e = .returned (.tuple #[]) ∧ IsMem w2 bm (f (tick M)) F ∧ Keeps (InF F) w1 w2

theorem MemIs.tick0 {w : World} {bm bn : Nat} {sv : Value} {M : Mem} {F : Nat → Prop} (h : MemIs w bm bn sv M F) (hp : M.plan = 0) :
    MemIs (w.setCell ⟨bm, 133, none⟩ (.int .i64 ((M.steps : Int) + 1))) bm bn sv (tick M) F ∧ Keeps (InF F) w (w.setCell ⟨bm, 133, none⟩ (.int .i64 ((M.steps : Int) + 1))) := by
  have hk : Keeps (InF F) w (w.setCell ⟨bm, 133, none⟩ (.int .i64 ((M.steps : Int) + 1))) := keeps_set1 _ _ (fun _ => h.inM)
  refine ⟨⟨(h.row.set 133 _).congr fun i hi => ?_, (h.notes.setOther h.ne _).mono (by dsimp only; omega), h.early.keeps (keeps_set1 _ (fun k _ => k = bm) (fun _ => rfl)) (fun k o hs e => hs.2.1 e), h.inM, h.inN, fun k hk2 => Nat.lt_of_lt_of_le (h.lt k hk2) hk.size⟩, hk⟩
  unfold memAt
  by_cases h1 : i < 129
  · rw [if_neg (by omega)]; simp only [h1, if_true]
  · have : i = 129 ∨ i = 130 ∨ i = 131 ∨ i = 132 ∨ i = 133 ∨ i = 134 := by omega
    rcases this with rfl | rfl | rfl | rfl | rfl | rfl
    · rfl
    · rfl
    · simp [hp]
    · rfl
    · simp
    · rfl

theorem MemIs.tick1 {w : World} {bm bn : Nat} {sv : Value} {M : Mem} {F : Nat → Prop} (h : MemIs w bm bn sv M F) (hp : 1 ≤ M.plan) :
    MemIs ((w.setCell ⟨bm, 131, none⟩ (.int .i64 ((M.plan : Int) - 1))).setCell ⟨bm, 133, none⟩ (.int .i64 ((M.steps : Int) + 1))) bm bn sv (tick M) F ∧ Keeps (InF F) w ((w.setCell ⟨bm, 131, none⟩ (.int .i64 ((M.plan : Int) - 1))).setCell ⟨bm, 133, none⟩ (.int .i64 ((M.steps : Int) + 1))) := by
  have hk : ∀ may : Nat → Obj → Prop, (∀ o, may bm o) → Keeps may w ((w.setCell ⟨bm, 131, none⟩ (.int .i64 ((M.plan : Int) - 1))).setCell ⟨bm, 133, none⟩ (.int .i64 ((M.steps : Int) + 1))) := fun may hm => (keeps_set1 _ _ hm).trans (keeps_set1 _ _ hm)
  refine ⟨⟨((h.row.set 131 _).set 133 _).congr fun i hi => ?_, ((h.notes.setOther h.ne _).setOther h.ne _).mono (by dsimp only; omega), h.early.keeps (hk (fun k _ => k = bm) (fun _ => rfl)) (fun k o hs e => hs.2.1 e), h.inM, h.inN, fun k hk2 => Nat.lt_of_lt_of_le (h.lt k hk2) (hk (InF F) (fun _ => h.inM)).size⟩, hk _ (fun _ => h.inM)⟩
  unfold memAt
  by_cases h1 : i < 129
  · rw [if_neg (by omega), if_neg (by omega)]; simp only [h1, if_true]
  · have : i = 129 ∨ i = 130 ∨ i = 131 ∨ i = 132 ∨ i = 133 ∨ i = 134 := by omega
    rcases this with rfl | rfl | rfl | rfl | rfl | rfl
    · rfl
    · rfl
    · simp; omega
    · rfl
    · simp
    · rfl

set_option maxHeartbeats 1000000 in
theorem step101_any (bm : Nat) (M : Mem) (F : Nat → Prop) (g : Nat) (caps : Array Value) (f : Mem → Mem) (w : World) (h : IsMem w bm M F) (hok : Ok M) (hsz : M.size < 1000000000) (hcf : Entered g) (hdo : Does bm M F g caps f w) :
    Calls Tryz.prog 101 #[ptr bm, .func (.func g) #[] caps] w (Left w bm (M.step f) F) := by
  have hcf' : ∀ args w, (callFunc g args).run Tryz.prog w = .ok (.enter g args) w := hcf
  have hp1000 := hok.plan
  have hF := fun sv (hv : IsInts (fun k _ => F k ∧ k ≠ bm) w sv M.early) => fail63_any bm M F sv M.early _ w h (by unfold Mem.size at hsz; omega) hok.early hv (fun k o hs => hs.2)
  obtain ⟨bn, sv, h⟩ := h
  have HF := hid (hF sv (h.early.mono fun k o hs => ⟨hs.1, hs.2.1⟩))
  have HD := hid hdo
  clear hdo hcf hF
  have cP := h.cP; have cE := h.cE; have cS := h.cS
  have fP := h.row.frozen 131; have fS := h.row.frozen 133
  unfold Mem.size at hsz
  obtain ⟨st, hst⟩ : ∃ st, M.steps = st := ⟨_, rfl⟩
  obtain ⟨p, hp⟩ : ∃ p, M.plan = p := ⟨_, rfl⟩
  by_cases h1 : p = 1
  · have he : M.step f = (101, M.fail M.early) := by unfold Mem.step; rw [if_pos (hp.trans h1)]
    rw [he]
    rw [hp, h1] at cP
    clear he h hp hst
    go_enter Tryz.func101, Tryz.ntmps101
    go_wp2_with (go_at_call 63; (with_reducible refine HF.out.mono ?_); rintro e w1 ⟨rfl, hm, hk⟩; have HM := hid hm; have HK := hid hk; clear hm hk)
    go_ret
    exact ⟨rfl, HM.out, HK.out⟩
  · have he : M.step f = (0, f (tick M)) := by unfold Mem.step; rw [if_neg (by omega)]
    rw [he]
    by_cases h0 : p = 0
    · obtain ⟨ht, hk⟩ := h.tick0 (hp.trans h0)
      have HC := hid (HD.out _ ⟨_, _, ht⟩ (fun bn' sv' h' => by rw [ht.same_map h']; exact h.notes.setOther h.ne _) hk)
      have HK0 := hid hk
      rw [hp, h0] at cP
      rw [hst] at cS HC HK0 hsz
      clear he h hp hst ht hk
      go_enter Tryz.func101, Tryz.ntmps101
      go_wp2_with (refine (show Calls _ _ _ _ _ from HC.out).mono ?_; rintro e w1 ⟨rfl, hm, hk⟩; have HM := hid hm; have HK := hid hk; clear hm hk)
      go_ret
      exact ⟨rfl, HM.out, HK0.out.trans HK.out⟩
    · obtain ⟨ht, hk⟩ := h.tick1 (by omega)
      have HC := hid (HD.out _ ⟨_, _, ht⟩ (fun bn' sv' h' => by rw [ht.same_map h']; exact (h.notes.setOther h.ne _).setOther h.ne _) hk)
      have HK0 := hid hk
      rw [hp] at cP HC HK0 hp1000
      rw [hst] at cS HC HK0 hsz
      clear he h hp hst ht hk
      have e1 : ((p : Int) == 1) = false := by rw [beq_eq_false_iff_ne]; omega
      have e2 : (0 : Int) < (p : Int) := by omega
      go_enter Tryz.func101, Tryz.ntmps101
      go_wp2_with (refine (show Calls _ _ _ _ _ from HC.out).mono ?_; rintro e w1 ⟨rfl, hm, hk⟩; have HM := hid hm; have HK := hid hk; clear hm hk)
      go_ret
      exact ⟨rfl, HM.out, HK0.out.trans HK.out⟩

theorem done58_any (bm : Nat) (M : Mem) (F : Nat → Prop) (right : Bool) (g : Nat) (caps : Array Value) (f : Mem → Mem) (w : World) (h : IsMem w bm M F) (hok : Ok M) (hsz : M.size < 1000000000) (hcf : Entered g) (hdo : right = true → Does bm M F g caps f w) :
    Calls Tryz.prog 58 #[ptr bm, .bool right, .func (.func g) #[] caps] w (Left w bm (M.done right f) F) := by
  have HA := hid (asked53_mem bm M F right w h)
  have HM0 := hid h
  unfold Mem.done
  unfold askM at HA
  cases right with
  | false =>
    simp only [Bool.false_eq_true, if_false] at HA ⊢
    clear hdo
    go_enter Tryz.func58, Tryz.ntmps58
    go_wp2_with (go_at_call 53; (with_reducible refine HA.out.mono ?_); rintro e w1 ⟨rfl, rfl⟩)
    go_ret
    exact ⟨rfl, HM0.out, Keeps.refl _ _⟩
  | true =>
    simp only [if_true] at HA ⊢
    obtain ⟨o, ho⟩ : ∃ o, M.on = o := ⟨_, rfl⟩
    rw [ho] at HA ⊢
    clear ho
    cases o with
    | false =>
      simp only [Bool.false_eq_true, if_false] at HA ⊢
      clear hdo
      go_enter Tryz.func58, Tryz.ntmps58
      go_wp2_with (go_at_call 53; (with_reducible refine HA.out.mono ?_); rintro e w1 ⟨rfl, rfl⟩)
      go_ret
      exact ⟨rfl, HM0.out, Keeps.refl _ _⟩
    | true =>
      simp only [if_true] at HA ⊢
      have HS := hid (step101_any bm M F g caps f w h hok hsz hcf (hdo rfl))
      clear hdo h
      go_enter Tryz.func58, Tryz.ntmps58
      go_wp2_with (first
        | (go_at_call 53; (with_reducible refine HA.out.mono ?_); rintro e w1 ⟨rfl, rfl⟩)
        | (go_at_call 101; (with_reducible refine HS.out.mono ?_); rintro e w1 ⟨rfl, hm, hk⟩; have HM := hid hm; have HK := hid hk; clear hm hk))
      go_ret
      exact ⟨rfl, HM.out, HK.out⟩

end Go.Proofs.YtmohnddglmolgaaGreatDoor
