/- Walks: the search for the first shortest word that tells two states apart. -/
import Derived.Test.YtnebpcpihldllaaWClone
import Derived.Test.YtnebpcpihldllaaMapFacts
import Derived.Test.YtnebpcpihldllaaBfs
import Derived.BigRegion
import Derived.StillTailTactics
namespace Go.Proofs.Ytnebpcpihldllaa
open Go.RowKit Go.Lin Go.Maps

theorem Try.info101 : (Try.prog.info? 101).map (fun i => (i.zero, i.size, i.bytes)) = some (some (.agg #[.int .i64 0, .int .i64 0, .slice none 0 0]), 3, 40) := by kernel_rfl

/-- The cells of the line. -/
def cellsL (L : List (E × Value)) : List Value := L.flatMap fun x => [.int .i64 (x.1.1 : Int), .int .i64 (x.1.2.1 : Int), x.2]
def entries (L : List (E × Value)) : List E := L.map (·.1)
/-- The pairs of entries. -/
noncomputable def seenB (all : List E) : Nat × Nat → Bool := fun x => (all.map fun e => (e.1, e.2.1)).contains x

/-- The words in the line. -/
def WordsIn (w : World) (L : List (E × Value)) : Prop := ∀ x ∈ L, IsNats (IntObj 3) w x.2 x.1.2.2

theorem seenB_iff {all : List E} {x : Nat × Nat} : seenB all x = true ↔ ∃ f ∈ all, f.1 = x.1 ∧ f.2.1 = x.2 := by
  unfold seenB
  simp only [List.contains_iff_mem, List.mem_map]
  constructor
  · rintro ⟨f, hf, rfl⟩; exact ⟨f, hf, rfl, rfl⟩
  · rintro ⟨f, hf, h1, h2⟩; exact ⟨f, hf, Prod.ext h1 h2⟩

theorem seenB_new (all : List E) (x y : Nat) (ws : List Nat) : seenB (all ++ [(x, y, ws)]) (x, y) = true := seenB_iff.2 ⟨(x, y, ws), by simp, rfl, rfl⟩
theorem seenB_old (all : List E) (x y : Nat) (ws : List Nat) (u : Nat × Nat) (hu : u ≠ (x, y)) : seenB (all ++ [(x, y, ws)]) u = seenB all u := by
  rw [Bool.eq_iff_iff, seenB_iff, seenB_iff]
  constructor
  · rintro ⟨f, hf, h1, h2⟩
    rcases List.mem_append.1 hf with hf | hf
    · exact ⟨f, hf, h1, h2⟩
    · simp only [List.mem_singleton] at hf; subst hf
      exact absurd (Prod.ext h1.symm h2.symm) hu
  · rintro ⟨f, hf, h⟩
    exact ⟨f, by simp [hf], h⟩

theorem map_keeps {α β : Type} {w w' : World} {P : Program} {kt et : TypeId} {b n : Nat} {enc : α → Value} {mk : β → Lit} {z : β} {S : α → β} (h : FMap w P kt et b n enc mk z S) (hg : w.grownBy w' (some b)) : Keeps (fun _ o => ∃ es c, o = .map es c) w w' :=
  (Keeps.refl _ _).grown hg (fun k o e ho => by
    cases e
    obtain ⟨es, c, h1⟩ := h.obj
    rw [h1] at ho; cases ho; exact ⟨es, c, rfl⟩)

/-- What holds at the head of the loops. -/
structure Line (W0 wr : World) (M K : Mach) (a b : Nat) (lv : Value) (done : List E) (L : List (E × Value)) (H : E → Nat → Prop) : Prop where
  grew : Grew W0 wr
  inv : BInv M K a b (done ++ entries L) H
  seg : Seg wr W0.heap.size 101 3 lv L.length (cellsL L)
  words : WordsIn wr L
  map : ∃ n, FMap wr Try.prog 98 4 W0.heap.size n encP Lit.bool false (seenB (done ++ entries L)) ∧ n ≤ (done ++ entries L).length

set_option maxHeartbeats 4000000 in
set_option maxRecDepth 100000 in
theorem apart_cap (M K : Mach) (hM : M.WF) (hK : K.WF) (hkk : M.k = K.k) (mv kv : Value) (a b : Nat) (w : World) (ha : a < M.n) (hb : b < K.n) (hm : IsMach w mv M) (hk : IsMach w kv K) :
    Calls Try.prog 68 #[mv, kv, .int .i64 a, .int .i64 b] w fun e w' => ∃ u r, e = .returned (.tuple #[u, .bool r]) ∧ Grew w w' ∧
      ((r = true ∧ ∃ ws, IsFirst M K a b ws ∧ IsNats Any w' u ws ∧ ∃ ad c, u = .slice ad ws.length c ∧ ws.length ≤ c) ∨ (r = false ∧ u = .slice none 0 0 ∧ NoTells M K a b)) := by
  obtain ⟨b1, off1, c1, b2, off2, c2, rfl, t1, t2⟩ := hm
  obtain ⟨b3, off3, c3, b4, off4, c4, rfl, t3, t4⟩ := hk
  obtain ⟨Wa, hWa, ga, k0, k1, k2, k3, hz⟩ := box4 w (.int .i64 M.n) (.int .i64 M.k) (.slice (some ⟨b1, off1, none⟩) M.n c1) (.slice (some ⟨b2, off2, none⟩) M.n c2) 60
  obtain ⟨W0, hW0, gb, l0, l1, l2, l3, hz1⟩ := box4 Wa (.int .i64 K.n) (.int .i64 K.k) (.slice (some ⟨b3, off3, none⟩) K.n c3) (.slice (some ⟨b4, off4, none⟩) K.n c4) 60
  have g0 := grew_trans ga gb
  have hza : w.heap.size < W0.heap.size := Nat.lt_of_lt_of_le hz gb.size
  have m0 := (gb.cell (p := ⟨w.heap.size, 0, none⟩) hz).trans k0
  have m1 := (gb.cell (p := ⟨w.heap.size, 1, none⟩) hz).trans k1
  have m2 := (gb.cell (p := ⟨w.heap.size, 2, none⟩) hz).trans k2
  have m3 := (gb.cell (p := ⟨w.heap.size, 3, none⟩) hz).trans k3
  clear k0 k1 k2 k3
  have T1 := hid (t1.grew g0)
  have T2 := hid (t2.grew g0)
  have T3 := hid (t3.grew g0)
  have T4 := hid (t4.grew g0)
  have hb1 := (T1.out).1
  have hb2 := (T2.out).1
  have hb3 := (T3.out).1
  have hb4 := (T4.out).1
  clear t1 t2 t3 t4
  have HKK := hid hkk; clear hkk
  have n8 := hM.n8
  have k4 := hM.k4
  have n8' := hK.n8
  have k4' := hK.k4
  have hmm := @run_makeMap Try.prog
  obtain ⟨l98, hl98⟩ := key98 (a, b) (by simp only []; omega) (by simp only []; omega)
  have HL98 := hid hl98; clear hl98
  go_enter Try.func68, Try.ntmps68
  go_wp2_with (refine wpList_update_f rfl _ _ _ 99 (.inr rfl) keyed98 Try.underlying99 rfl (FMap.made W0 Try.prog 98 4 encP Lit.bool false) (by unfold maxLen; omega) (a, b) rfl HL98.out (fun u h => encP_inj u _ h) (.bool true) rfl (e := true) (plainElem_bool Try.underlying4 true) (seenB [(a, b, [])]) (by simp [seenB]) (fun u hu => by simp [seenB]; exact hu) ?_; intro w2 hmap hgr)
  have hz2 : W0.heap.size < w2.heap.size := hmap.lt
  have hline0 : Line W0 (w2.alloc (.cells #[.int .i64 a, .int .i64 b, .slice none 0 0] 101)) M K a b (.slice (some ⟨w2.heap.size, 0, none⟩) 1 1) [] [((a, b, []), .slice none 0 0)] (fun e _ => e ∈ ([] : List E)) := by
    have gw : Grew W0 w2 := ((grew_refl W0).alloc (Nat.le_refl _) _).grown hgr (by simp) (fun k e => by cases e; exact Nat.le_refl _)
    refine ⟨grew_alloc gw _, ?_, ?_, ?_, ⟨1, (hmap.congr (fun _ => rfl)).grew ((Below.refl _ _).alloc (Nat.le_refl _) _), by simp [entries]⟩⟩
    · exact (BInv.start M K a b).congr (fun e _ o _ => by simp) (fun e o h => h.elim)
    · exact Seg.lit w2 W0.heap.size 101 3 #[.int .i64 a, .int .i64 b, .slice none 0 0] (by omega) rfl
    · intro x hx
      simp only [List.mem_singleton] at hx; subst hx
      exact Reads.nil _ _ _ _ _
  have HL0 := hid hline0; clear hline0 hgr hmap hmm
  go_loopg [11] 65 (fun g lv wr => ∃ done L, Hid (g = 65 - done.length) ∧ Line W0 wr M K a b lv done L (fun e _ => e ∈ done))
  case atStart => exact ⟨[], _, hid rfl, HL0.out⟩
  case round =>
    clear HL0
    obtain ⟨wo, rfl⟩ : ∃ wo : World, wo = wr := ⟨_, rfl⟩
    obtain ⟨done, L, HG, hline⟩ := hrel
    have HL := hid hline
    obtain ⟨la, lc, rfl, _⟩ := hline.seg.shape
    clear hline
    rcases L with _ | ⟨⟨⟨ha1, ha2, hws⟩, hv⟩, T⟩
    · simp only [List.length_nil] at *
      go_wp2
      go_ret2
      refine ⟨.slice none 0 0, false, rfl, grew_trans g0 HL.out.grew, .inr ⟨rfl, rfl, ?_⟩⟩
      have := HL.out.inv
      simp only [entries, List.map_nil, List.append_nil] at this
      exact this.none
    · obtain ⟨g, off, cap, cur, hlv, hbg, hgo, hcap, hcapm, hcells⟩ := HL.out.seg.at (by simp)
      simp only [Value.slice.injEq] at hlv
      obtain ⟨rfl, _, rfl⟩ := hlv
      have hwd := HL.out.words (((ha1, ha2, hws)), hv) (by simp)
      have HWD := hid hwd
      obtain ⟨va, vc, hvv, hvm, _⟩ := hwd
      simp only [] at hvv
      subst hvv
      have j0 := hcells 0 (by simp)
      have j1 := hcells 1 (by simp; omega)
      have j2 := hcells 2 (by simp; omega)
      simp only [cellsL, List.flatMap_cons, List.cons_append, List.getElem?_cons_zero, List.getElem?_cons_succ, Nat.add_zero] at j0 j1 j2
      have hlen : (0 : Int) < ((((ha1, ha2, hws), Value.slice va hws.length vc) :: T).length : Int) := by simp
      clear hcells hgo
      obtain ⟨P0, hP0, gp, q0, q1, q2, hzp⟩ := box3 wo (.int .i64 (ha1 : Int)) (.int .i64 (ha2 : Int)) (.slice va hws.length vc) 101
      have gP := grew_trans HL.out.grew gp
      have hcP := (bcell gP).1
      have hpath := HL.out.inv.path (ha1, ha2, hws) (by simp [entries])
      obtain ⟨pa1, pa2, -, pok⟩ := hpath
      have hlt1 : ha1 < M.n := by simp only [] at pa1 pok; rw [pa1]; exact stM_lt hM ha pok
      have hlt2 : ha2 < K.n := by simp only [] at pa2 pok; rw [pa2]; exact stM_lt hK hb (by rw [← HKK.out]; exact pok)
      have hwl : hws.length ≤ 64 := by
        have h1 := HL.out.inv.wordlen (f := (ha1, ha2, hws)) (by simp [entries])
        have h2 := HL.out.inv.few hM hK HKK.out ha hb
        simp only [] at h1; omega
      clear pa1 pa2 pok
      have hlineP : Line W0 P0 M K a b (.slice (some ⟨g, off, none⟩) (T.length + 1) lc) done (((ha1, ha2, hws), .slice va hws.length vc) :: T) (Tried done (ha1, ha2, hws) 0) := by
        have h := HL.out
        refine ⟨gP, ?_, h.seg.grew gp, fun x hx => (h.words x hx).grew gp, ?_⟩
        · exact BInv.begin (by simpa [entries] using h.inv)
        · obtain ⟨n, hn, hn2⟩ := h.map
          exact ⟨n, hn.grew gp, hn2⟩
      have hown : (Value.slice (some ⟨g, off, none⟩) (T.length + 1) lc).ownBlock ≠ some wo.heap.size := by
        have := lt_of_obj (HL.out.seg.own g rfl).2.2.choose_spec
        simp [Value.ownBlock]; omega
      have HLP := hid hlineP; clear hlineP
      have HOWN := hid hown; clear hown
      have hbm : W0.heap.size < wo.heap.size := by obtain ⟨n, hn, _⟩ := HL.out.map; exact hn.lt
      go_wp2
      go_loopg [11, 35] M.k (fun gk lv oi wi => ∃ (op : Nat) (T' : List (E × Value)), oi = .int .i64 op ∧ op ≤ M.k ∧ Hid (gk = M.k - op) ∧ Line W0 wi M K a b lv done (((ha1, ha2, hws), .slice va hws.length vc) :: T') (Tried done (ha1, ha2, hws) op) ∧
        Hid (lv.ownBlock ≠ some wo.heap.size) ∧ wo.heap.size < wi.heap.size ∧ wi.cell? ⟨wo.heap.size, 0, none⟩ = some (.int .i64 (ha1 : Int)) ∧ wi.cell? ⟨wo.heap.size, 1, none⟩ = some (.int .i64 (ha2 : Int)) ∧ wi.cell? ⟨wo.heap.size, 2, none⟩ = some (.slice va hws.length vc))
      case atStart => exact ⟨0, T, rfl, Nat.zero_le _, hid rfl, HLP.out, HOWN.out, hzp, q0, q1, q2⟩
      case round =>
        clear HLP HOWN q0 q1 q2 hzp hcP gP gp
        obtain ⟨op, T', rfl, hop, HGK, hlineI, HOWN, hzi, q0, q1, q2⟩ := hrel
        have HLI := hid hlineI
        obtain ⟨la', lc', rfl, _⟩ := hlineI.seg.shape
        have gI := hlineI.grew
        have hcI := (bcell gI).1
        have hwI := hlineI.words (((ha1, ha2, hws)), .slice va hws.length vc) (by simp)
        clear hlineI
        by_cases hopk : op < M.k
        · have hopk' : op < K.k := by have := HKK.out; omega
          obtain ⟨wi, rfl⟩ : ∃ wi : World, wi = wr := ⟨_, rfl⟩
          have hcl := clone_any _ hws.length (fun i => .int .i64 ((nthN hws i : Nat) : Int)) wi (by omega) hwI.any (fun i => rfl)
          have HCL := hid hcl; clear hcl
          have hlen3 : hws.length < 1000000000 := by omega
          go_wp2_with (first | (go_at_call 60; with_reducible refine HCL.out.mono ?_; rintro e w3 ⟨cv, rfl, hseg3, hg3⟩) | (at_builtin; refine wpList_append_one rfl _ _ 34 rfl wi.heap.size 3 Try.underlying34 Try.info3 rfl (by decide) _ hws.length _ rfl (hseg3.alloc _) _ _ _ rfl (one_new _ _ _) rfl hlen3 ?_ ?_; (have := hg3.size; simp only [World.size_alloc]; omega); intro v4 w4 hown4 hgrow4 hblk4; have hg4 := (hg3.alloc hg3.size _).grown hgrow4 (hg3.alloc hg3.size _).size (fun k e => (hseg3.own k e).1); clear hgrow4))
          obtain ⟨a4, c4', rfl, _⟩ := hown4.shape
          have hcap4 : hws.length + 1 ≤ c4' := by
            obtain ⟨g4, o4, q4, _, hv4, _, _, hn4, _⟩ := hown4.at (by omega)
            simp only [Value.slice.injEq] at hv4
            omega
          have HCAP4 := hid hcap4; clear hcap4
          have gI4 : Grew W0 w4 := grew_trans gI hg4
          have hc4 := (bcell gI4).1
          have p0 := (hg4.cell (p := ⟨wo.heap.size, 0, none⟩) hzi).trans q0
          have p1 := (hg4.cell (p := ⟨wo.heap.size, 1, none⟩) hzi).trans q1
          have p2 := (hg4.cell (p := ⟨wo.heap.size, 2, none⟩) hzi).trans q2
          have hword : IsNats (IntObj 3) w4 (.slice a4 (hws.length + 1) c4') (hws ++ [op]) := by
            have h := hown4
            have hl : (hws ++ [op]).length = hws.length + 1 := by simp
            rw [← hl] at h ⊢
            refine h.isNats ?_
            rw [List.map_append]
            congr 1
            apply List.ext_getElem (by simp)
            intro i h1 h2
            simp at h1
            simp [nthN, List.getD, List.getElem?_eq_getElem h1]
          have HWORD := hid hword; clear hword hown4 hblk4 hseg3 hg3 hcI q0 q1 q2 hwI HCL
          obtain ⟨b5, off5, c5, r2, r2b, r2c⟩ := T2.out.2 ha1 hlt1
          obtain ⟨b6, off6, c6, r4, r4b, r4c⟩ := T4.out.2 ha2 hlt2
          have r2d := r2c op hopk
          have r4d := r4c op hopk'
          clear r2c r4c
          by_cases hdiff : M.sy ha1 op = K.sy ha2 op
          · as_aux_lemma =>
              have hd : (M.sy ha1 op != K.sy ha2 op) = false := by simp [hdiff]
              have HD := hid hdiff; clear hdiff
              go_wp2
              go_quiet (fail)
              clear r2 r2b r2d r4 r4b r4d
              obtain ⟨b7, off7, c7, r1, r1b, r1c⟩ := T1.out.2 ha1 hlt1
              obtain ⟨b8, off8, c8, r3, r3b, r3c⟩ := T3.out.2 ha2 hlt2
              have r1d := r1c op hopk
              have r3d := r3c op hopk'
              clear r1c r3c
              have hsz4 := hg4.size
              obtain ⟨w5, hw5, hg5, hz5⟩ : ∃ w5, w4.drewN nq = w5 ∧ Grew w4 w5 ∧ w5.heap.size = w4.heap.size := ⟨_, rfl, grew_drewN (grew_refl _) _, rfl⟩
              rw [hw5]
              clear hw5
              have gI5 := grew_trans gI4 hg5
              have hc5 := (bcell gI5).1
              have hlt5 : ∀ b, b < W0.heap.size → b < w5.heap.size := fun b h => Nat.lt_of_lt_of_le h gI5.size
              have hwo4 : wo.heap.size < w4.heap.size := by omega
              have hwo5 : wo.heap.size < w5.heap.size := by omega
              have p0' := (hg5.cell (p := ⟨wo.heap.size, 0, none⟩) hwo4).trans p0
              have p1' := (hg5.cell (p := ⟨wo.heap.size, 1, none⟩) hwo4).trans p1
              have p2' := (hg5.cell (p := ⟨wo.heap.size, 2, none⟩) hwo4).trans p2
              have HZ5 := hid hz5
              clear hz5 p0 p1 p2 hc4
              go_wp2
              go_region
              obtain ⟨w6, hw6, hg6, n0, n1, hz6⟩ : ∃ w6, ((w5.alloc (.cells #[.int .i64 (M.nx ha1 op : Int), .int .i64 (K.nx ha2 op : Int)] 98)).drew) = w6 ∧ Grew w5 w6 ∧ w6.cell? ⟨w5.heap.size, 0, none⟩ = some (.int .i64 (M.nx ha1 op : Int)) ∧ w6.cell? ⟨w5.heap.size, 1, none⟩ = some (.int .i64 (K.nx ha2 op : Int)) ∧ w5.heap.size < w6.heap.size :=
                ⟨_, rfl, (grew_alloc (grew_refl _) _).drew, by simp, by simp, by simp⟩
              rw [hw6]
              clear hw6 r1 r1b r1d r3 r3b r3d hc5 hlt5
              have hgI6 : Grew wi w6 := grew_trans hg4 (grew_trans hg5 hg6)
              have gI6 := grew_trans gI hgI6
              obtain ⟨nm, hmapI, hnm⟩ := HLI.out.map
              have hmap6 := hmapI.grew hgI6
              have hkey := key98 (M.nx ha1 op, K.nx ha2 op) (by have := hM.nx ha1 hlt1 op hopk; simp only []; omega) (by have := hK.nx ha2 hlt2 op hopk'; simp only []; omega)
              obtain ⟨kl, hkl⟩ := hkey
              have HKL := hid hkl; clear hkl
              have HM6 := hid hmap6; clear hmap6 hmapI
              have HNM := hid hnm; clear hnm
              have hq0 := (hg6.cell (p := ⟨wo.heap.size, 0, none⟩) hwo5).trans p0'
              have hq1 := (hg6.cell (p := ⟨wo.heap.size, 1, none⟩) hwo5).trans p1'
              have hq2 := (hg6.cell (p := ⟨wo.heap.size, 2, none⟩) hwo5).trans p2'
              clear p0' p1' p2'
              by_cases hseen : seenB (done ++ entries (((ha1, ha2, hws), Value.slice va hws.length vc) :: T')) (M.nx ha1 op, K.nx ha2 op) = true
              · as_aux_lemma =>
                  have HSEEN := hid hseen
                  go_wp2_with (at_lookup; refine wpList_lookup_bool rfl _ _ 99 rfl keyed98 Try.underlying99 Try.underlying4 (zero4 _) rfl HM6.out (M.nx ha1 op, K.nx ha2 op) rfl HKL.out ?_)
                  go_roundg (M.k - (op + 1))
                  case measure => have := HGK.out; omega
                  case rel =>
                    refine ⟨op + 1, T', by go_num, by omega, hid rfl, ?_, HOWN, Nat.lt_of_lt_of_le hwo5 hg6.size, hq0, hq1, hq2⟩
                    refine ⟨gI6, ?_, HLI.out.seg.grew hgI6, fun x hx => (HLI.out.words x hx).grew hgI6, ⟨nm, HM6.out, HNM.out⟩⟩
                    exact BInv.seen HLI.out.inv hopk HD.out (seenB_iff.1 HSEEN.out)
              · as_aux_lemma =>
                  have hseen' : seenB (done ++ entries (((ha1, ha2, hws), Value.slice va hws.length vc) :: T')) (M.nx ha1 op, K.nx ha2 op) = false := by simpa using hseen
                  have HSEEN := hid hseen; clear hseen
                  have hfew := HLI.out.inv.few hM hK HKK.out ha hb
                  have hnm2 : nm < 1000 := by have := HNM.out; omega
                  have hTl : T'.length + 1 < 1000000000 := by simp [entries] at hfew; omega
                  clear hfew
                  have hseg6 := HLI.out.seg.grew hgI6
                  have HS6 := hid hseg6; clear hseg6
                  have hbm6 : W0.heap.size < w5.heap.size := by have := gI5.size; omega
                  go_wp2_with (first | (at_lookup; refine wpList_lookup_bool rfl _ _ 99 rfl keyed98 Try.underlying99 Try.underlying4 (zero4 _) rfl HM6.out (M.nx ha1 op, K.nx ha2 op) rfl HKL.out ?_) | (at_mapUpdate; refine wpList_update_f rfl _ _ _ 99 (.inl rfl) keyed98 Try.underlying99 rfl HM6.out (by unfold maxLen; omega) (M.nx ha1 op, K.nx ha2 op) rfl HKL.out (fun u h => encP_inj u _ h) (.bool true) rfl (e := true) (plainElem_bool Try.underlying4 true) (seenB ((done ++ entries (((ha1, ha2, hws), Value.slice va hws.length vc) :: T')) ++ [(M.nx ha1 op, K.nx ha2 op, hws ++ [op])])) (seenB_new _ _ _ _) (fun u hu => seenB_old _ _ _ _ u hu) ?_; intro w7 hmap7 hgr7; have n0' := hgr7.cell n0 (by simp; omega); have n1' := hgr7.cell n1 (by simp; omega); have hk67 := map_keeps HM6.out hgr7; have HS7 := hid (HS6.out.keeps hk67 (fun k o _ ⟨cur, ho⟩ ⟨es, c, ho2⟩ => by rw [ho] at ho2; cases ho2)); have hz67 := hgr7.size; have HM7 := hid hmap7; clear hmap7) | (at_builtin; refine wpList_append_lit rfl _ _ 102 rfl W0.heap.size 101 Try.underlying102 Try.info101 rfl (by decide) _ (T'.length + 1) _ rfl HS7.out [.int .i64 (M.nx ha1 op : Int), .int .i64 (K.nx ha2 op : Int), .slice a4 (hws.length + 1) c4'] 101 _ rfl rfl ?_ hTl (by omega) ?_; (simp [Value.oneCell']); intro v8 w8 hown8 hgrow8 hblk8))
                  have hk78 : Keeps (fun _ o => ∃ c fr, o = .cells c 101 fr) w7 w8 := ((Keeps.refl _ w7).alloc _).grown hgrow8 (fun k o e ho => by obtain ⟨_, _, cur, hcur⟩ := HS7.out.own k e; have h2 : (w7.alloc (.cells #[.int .i64 (M.nx ha1 op : Int), .int .i64 (K.nx ha2 op : Int), .slice a4 (hws.length + 1) c4'] 101)).heap[k]? = some (.cells cur 101 (0, 0)) := (Below.heap_alloc _ _ k (lt_of_obj hcur)).trans hcur; rw [h2] at ho; cases ho; exact ⟨_, _, rfl⟩)
                  have g7 : Below W0.heap.size W0 w7 := gI6.grown hgr7 (by omega) (fun k e => by cases e; exact Nat.le_refl _)
                  have g8 : Below W0.heap.size W0 w8 := (g7.alloc (by omega) _).grown hgrow8 (by simp; omega) (fun k e => (HS7.out.own k e).1)
                  have hne : some wo.heap.size ≠ (Value.slice la' (T'.length + 1) lc').ownBlock := fun e => HOWN.out e.symm
                  have hkeep : ∀ j u, w6.cell? ⟨wo.heap.size, j, none⟩ = some u → w8.cell? ⟨wo.heap.size, j, none⟩ = some u := fun j u hu =>
                    hgrow8.cell ((World.cell?_alloc_lt (a := ⟨wo.heap.size, j, none⟩) _ _ (by show wo.heap.size < w7.heap.size; omega)).trans (hgr7.cell hu (by simp; omega))) hne
                  have hwords : ∀ (x : Value) (ws : List Nat), IsNats (IntObj 3) w6 x ws → IsNats (IntObj 3) w8 x ws := fun x ws hx =>
                    (hx.keeps hk67 (fun k o ⟨c, fr, ho⟩ ⟨es, c', ho2⟩ => by rw [ho] at ho2; cases ho2)).keeps hk78 (fun k o ⟨c, fr, ho⟩ ⟨c', fr', ho2⟩ => by rw [ho] at ho2; cases ho2)
                  have hz68 : w6.heap.size ≤ w8.heap.size := Nat.le_trans hz67 hk78.size
                  go_roundg (M.k - (op + 1))
                  case measure => have := HGK.out; omega
                  case rel =>
                    have hent : done ++ entries (((ha1, ha2, hws), Value.slice va hws.length vc) :: (T' ++ [((M.nx ha1 op, K.nx ha2 op, hws ++ [op]), Value.slice a4 (hws.length + 1) c4')])) = (done ++ entries (((ha1, ha2, hws), Value.slice va hws.length vc) :: T')) ++ [(M.nx ha1 op, K.nx ha2 op, hws ++ [op])] := by simp [entries]
                    refine ⟨op + 1, T' ++ [((M.nx ha1 op, K.nx ha2 op, hws ++ [op]), .slice a4 (hws.length + 1) c4')], by go_num, by omega, hid rfl, ?_, hid ?_, by omega, hkeep _ _ hq0, hkeep _ _ hq1, hkeep _ _ hq2⟩
                    · refine ⟨g8, ?_, ?_, ?_, ⟨nm + 1, ?_, ?_⟩⟩
                      · have h := BInv.new HLI.out.inv hopk HD.out (fun h => HSEEN.out (seenB_iff.2 h))
                        simpa [entries] using h
                      · have h := hown8
                        simpa [cellsL] using h
                      · intro x hx
                        rw [← List.cons_append] at hx
                        rcases List.mem_append.1 hx with hx | hx
                        · exact hwords _ _ ((HLI.out.words x hx).grew hgI6)
                        · simp only [List.mem_singleton] at hx; subst hx
                          have h := HWORD.out
                          exact hwords _ _ (h.grew (grew_trans hg5 hg6))
                      · rw [hent]
                        exact HM7.out.keeps hk78 (fun es c ⟨c', fr, ho⟩ => by cases ho)
                      · rw [hent, List.length_append]
                        have := HNM.out
                        simp only [List.length_singleton]; omega
                    · rcases hblk8 with h | h
                      · rw [h]; exact HOWN.out
                      · rw [h]; intro e; simp at e; omega
          · as_aux_lemma =>
              have hd : (M.sy ha1 op != K.sy ha2 op) = true := by simpa using hdiff
              have HD := hid hdiff; clear hdiff
              go_wp2
              go_quiet (fail)
              go_wp2
              go_ret2
              refine ⟨.slice a4 (hws.length + 1) c4', true, rfl, grew_drewN (grew_trans g0 gI4) _, .inl ⟨rfl, hws ++ [op], ?_, ?_⟩⟩
              · exact HLI.out.inv.found hopk HD.out
              · exact ⟨HWORD.out.any.grew (grew_drewN (grew_refl _) _), a4, c4', by rw [List.length_append, List.length_singleton], by rw [List.length_append, List.length_singleton]; exact HCAP4.out⟩
        · obtain rfl : op = M.k := by omega
          have hcapI := HLI.out.seg.tail
          obtain ⟨g2, off2', cap2, hsv, hcap2, htail⟩ := hcapI
          simp only [Value.slice.injEq] at hsv
          obtain ⟨rfl, _, rfl⟩ := hsv
          have HT := hid htail; clear htail
          have hlen1 : (1 : Int) ≤ (T'.length : Int) + 1 := by omega
          have hfew := HLI.out.inv.few hM hK HKK.out ha hb
          have hnext : Line W0 wr M K a b (.slice (some (if lc' = 1 then ⟨g2, off2', none⟩ else ⟨g2, off2' + 3, none⟩)) T'.length (lc' - 1)) (done ++ [(ha1, ha2, hws)]) T' (fun e _ => e ∈ done ++ [(ha1, ha2, hws)]) := by
            refine ⟨gI, BInv.next HLI.out.inv, ?_, fun x hx => HLI.out.words x (by simp [hx]), ?_⟩
            · have h := HT.out
              simpa [cellsL] using h
            · obtain ⟨n, hn, hn2⟩ := HLI.out.map
              have he : (done ++ [(ha1, ha2, hws)]) ++ entries T' = done ++ entries (((ha1, ha2, hws), Value.slice va hws.length vc) :: T') := by simp [entries]
              rw [he]
              exact ⟨n, hn, hn2⟩
          have HN := hid hnext
          have hdl : done.length + 1 ≤ 64 := by simp [entries] at hfew; omega
          clear hfew hnext
          by_cases hc1 : lc' = 1
          · subst hc1
            obtain rfl : T' = [] := List.eq_nil_of_length_eq_zero (by omega)
            go_wp2
            go_roundg (65 - (done ++ [(ha1, ha2, hws)]).length)
            case measure => have := HG.out; simp; omega
            case rel => exact ⟨done ++ [(ha1, ha2, hws)], [], hid rfl, by simpa using HN.out⟩
          · have HC1 := hid hc1
            go_wp2
            go_roundg (65 - (done ++ [(ha1, ha2, hws)]).length)
            case measure => have := HG.out; simp; omega
            case rel => exact ⟨done ++ [(ha1, ha2, hws)], T', hid rfl, by have h := HN.out; rw [if_neg HC1.out] at h; exact h⟩

theorem apart_any (M K : Mach) (hM : M.WF) (hK : K.WF) (hkk : M.k = K.k) (mv kv : Value) (a b : Nat) (w : World) (ha : a < M.n) (hb : b < K.n) (hm : IsMach w mv M) (hk : IsMach w kv K) :
    Calls Try.prog 68 #[mv, kv, .int .i64 a, .int .i64 b] w fun e w' => ∃ u r, e = .returned (.tuple #[u, .bool r]) ∧ Grew w w' ∧
      ((r = true ∧ ∃ ws, IsFirst M K a b ws ∧ IsNats Any w' u ws) ∨ (r = false ∧ u = .slice none 0 0 ∧ NoTells M K a b)) := by
  refine (apart_cap M K hM hK hkk mv kv a b w ha hb hm hk).mono ?_
  rintro e w' ⟨u, r, he, hg, h⟩
  refine ⟨u, r, he, hg, ?_⟩
  rcases h with ⟨h1, ws, h2, h3, _⟩ | h
  · exact .inl ⟨h1, ws, h2, h3⟩
  · exact .inr h
end Go.Proofs.Ytnebpcpihldllaa
