/- Walk: leads (47) of the statements; plain laws of ways. -/
import Derived.Test.YtojkohpniokaaaaPgRef5
import Derived.Test.YtojkohpniokaaaaPgOuts
import Derived.Test.YtojkohpniokaaaaPgLaw0
namespace Go.Lin.Pg
/-- Whether a path begins at 0 and ends at a place. -/
def leadsB (ms : List Mv) (l : List Int) (p : Int) : Bool :=
  if l = [] then p == 0 else l.all (fun i => (mvI ms i).isSome) && (match mvI ms (nth l 0), mvI ms (nth l (l.length - 1)) with | some a, some b => fr a == 0 && tg b == p | _, _ => false)

theorem leads_nil {ms : List Mv} {p : Int} : leadsB ms [] p = (p == 0) := by unfold leadsB; rw [if_pos rfl]
theorem leads_bad {ms : List Mv} {l : List Int} {p : Int} {j : Nat} (hj : j < l.length) (h : (mvI ms (nth l j)).isSome = false) : leadsB ms l p = false := by
  unfold leadsB
  rw [if_neg (fun e => by rw [e] at hj; simp at hj)]
  rw [show l.all (fun i => (mvI ms i).isSome) = false from List.all_eq_false.2 ⟨nth l j, by rw [nth_lt hj]; exact List.getElem_mem hj, by rw [h]; simp⟩]
  rfl
theorem leads_good {ms : List Mv} {l : List Int} {p : Int} (hl : l ≠ []) (h : ∀ j, j < l.length → (mvI ms (nth l j)).isSome = true) {a b : Mv} (ha : mvI ms (nth l 0) = some a) (hb : mvI ms (nth l (l.length - 1)) = some b) : leadsB ms l p = (fr a == 0 && tg b == p) := by
  unfold leadsB
  rw [if_neg hl, show l.all (fun i => (mvI ms i).isSome) = true from List.all_eq_true.2 (fun x hx => by
    obtain ⟨i, hi, rfl⟩ := List.getElem_of_mem hx
    have := h i hi
    rwa [nth_lt hi] at this), ha, hb]
  rfl

theorem links_some {ms : List Mv} {l : List Int} (h : linksB ms l = true) (j : Nat) (hj : j < l.length) : (mvI ms (nth l j)).isSome = true := by
  obtain ⟨m, hm⟩ := links_mv h hj
  rw [hm]; rfl

/-- For paths, leading is by pathI. -/
theorem leads_path {ms : List Mv} (hms : ∀ m ∈ ms, 0 ≤ tg m) {l : List Int} {p : Int} (hl : linksB ms l = true) : leadsB ms l p = true ↔ pathI ms 0 l = some p := by
  by_cases hn : l = []
  · subst hn
    rw [leads_nil]
    simp only [beq_iff_eq, pathI, Option.some.injEq]
    exact eq_comm
  · have hlen : 0 < l.length := List.length_pos_iff.2 hn
    obtain ⟨a, ha⟩ := links_mv hl (k := 0) hlen
    obtain ⟨b, hb⟩ := links_mv hl (k := l.length - 1) (by omega)
    rw [leads_good hn (links_some hl) ha hb, pathI_eq hms, hl, Bool.true_and, begins_of hn (Int.le_refl 0) ha, end_of hn hb]
    rw [Bool.and_eq_true]
    cases (fr a == 0) <;> simp

section
variable {ms : List Mv} {N : Nat} (h1 : 1 ≤ N) (h8 : N ≤ 8) (hN : InN N ms)
include h1 h8 hN

theorem way_reach (p : Int) : (wayM ms p).isSome = reachB ms p := by
  rw [Bool.eq_iff_iff, reachB_iff h1 h8 hN]
  constructor
  · intro h
    obtain ⟨l, hl⟩ := Option.isSome_iff_exists.1 h
    exact ⟨l, (wayM_isWay h1 h8 hN hl).leads⟩
  · rintro ⟨u, hu⟩
    cases hw : wayM ms p with
    | some l => rfl
    | none =>
      have hi := legs_inv (ms := ms) (may := fun _ => true) (a := 0) h8 (fun v q h => goG_in hN v ⟨by omega, by omega⟩ h)
      obtain ⟨e, he, h2, _⟩ := hi.all u p hu
      have := wayM_some h1 h8 hN (b := p) (l := e.2) (by have h3 := hi.isWay he; rw [h2] at h3; exact h3)
      rw [hw] at this; cases this

theorem way_short {p : Int} {l : List Nat} (h : wayM ms p = some l) : l.length < N := by
  have hi := legs_inv (ms := ms) (may := fun _ => true) (a := 0) h8 (fun v q h => goG_in hN v ⟨by omega, by omega⟩ h)
  unfold wayM at h
  rw [Option.map_eq_some_iff] at h
  obtain ⟨e, he, rfl⟩ := h
  have h3 := List.mem_of_find?_eq_some he
  have h4 := hi.wordlen h3
  have h5 := hi.count (N := N) (fun e he => goG_in hN e.2 ⟨by omega, by omega⟩ (hi.path e he))
  omega

theorem way_least {p : Int} {l : List Nat} (h : wayM ms p = some l) {path : List Int} (hp : isPathB ms path = true) (hl : leadsB ms path p = true) : l.length ≤ path.length := by
  have hms : ∀ m ∈ ms, 0 ≤ tg m := fun m hm => (hN m hm).2.1
  unfold isPathB at hp
  rw [Bool.and_eq_true] at hp
  obtain ⟨u, rfl, hu⟩ := pathI_goG path (Int.le_refl 0) hms ((leads_path hms hp.1).1 hl)
  have := sle_len ((wayM_isWay h1 h8 hN h).least u hu)
  simpa [pInts] using this

theorem way_exists {p : Int} {path : List Int} (hp : isPathB ms path = true) (hl : leadsB ms path p = true) : (wayM ms p).isSome = true := by
  have hms : ∀ m ∈ ms, 0 ≤ tg m := fun m hm => (hN m hm).2.1
  unfold isPathB at hp
  rw [Bool.and_eq_true] at hp
  obtain ⟨u, rfl, hu⟩ := pathI_goG path (Int.le_refl 0) hms ((leads_path hms hp.1).1 hl)
  rw [way_reach h1 h8 hN, reachB_iff h1 h8 hN]
  exact ⟨u, hu⟩

theorem way_path {p : Int} {l : List Nat} (h : wayM ms p = some l) : isPathB ms (pInts l) = true ∧ leadsB ms (pInts l) p = true := by
  have hms : ∀ m ∈ ms, 0 ≤ tg m := fun m hm => (hN m hm).2.1
  have hg := goG_pathI l (wayM_isWay h1 h8 hN h).leads
  have hlk : linksB ms (pInts l) = true := by
    have h2 := hg
    rw [pathI_eq hms] at h2
    cases hl : linksB ms (pInts l) with
    | true => rfl
    | false => rw [hl] at h2; simp at h2
  have hs := way_short h1 h8 hN h
  refine ⟨?_, (leads_path hms hlk).2 hg⟩
  unfold isPathB
  rw [hlk]
  simp [pInts]
  omega
end
end Go.Lin.Pg
namespace Go.Proofs.Ytojkohpniokaaaa
open Go Go.RowKit Go.Lin Go.Lin.Pg

set_option maxHeartbeats 4000000 in
set_option maxRecDepth 20000 in
theorem leads47_any (v : Value) (g : Gr) (pv : Value) (path : List Int) (p : Int) (w : World) (hv : IsGr w v g) (hp : IsInts Any w pv path) :
    Calls Try.prog 47 #[v, pv, .int .i64 p] w fun e w' => e = .returned (.bool (leadsB g.ms path p)) ∧ Grew w w' := by
  have HV := hid hv
  obtain ⟨s, rfl, hms⟩ := hv
  obtain ⟨n, hn'⟩ : ∃ n, g.ms.length = n := ⟨_, rfl⟩
  obtain ⟨va, vc, rfl, ⟨hm1, hm2⟩, hmvs⟩ := hms
  rw [hn'] at hm1 hm2 HV ⊢
  have HMVS := hid hmvs; have HN := hid hn'
  obtain ⟨l, hl⟩ : ∃ l, path.length = l := ⟨_, rfl⟩
  have HL := hid hl
  obtain ⟨pa, pc, rfl, hpm, hpp⟩ := hp
  rw [hl] at hpm hpp ⊢
  have HPP := hid hpp
  obtain ⟨W0, hW0, g0, k0, k1, hz⟩ := box2 w (.int .i64 g.n) (.slice va n vc) 24
  have HG0 := hid g0
  obtain ⟨res, hres⟩ : ∃ r, leadsB g.ms path p = r := ⟨_, rfl⟩
  have HRES := hid hres
  rw [hres]
  clear hmvs hn' hl hpp hres
  by_cases hl0 : l = 0
  · subst hl0
    have h0 := List.length_eq_zero_iff.1 HL.out
    obtain ⟨b, hb⟩ : ∃ b, (p == 0) = b := ⟨_, rfl⟩
    obtain rfl : res = b := by rw [← HRES.out, h0, leads_nil, hb]
    clear h0
    cases res
    all_goals (
      go_enter Try.func47, Try.ntmps47
      go_wp2
      go_ret
      exact ⟨rfl, HG0.out⟩)
  · have hlI : ((l : Int) == 0) = false := by simp [hl0]
    have HNE := hid (show path ≠ [] from fun e => by have h := HL.out; rw [e] at h; exact hl0 h.symm)
    have hlI0 : (0 : Int) < (l : Int) := by omega
    have HIM := hid (fun (i : Int) (W : World) (h : Grew w W) => isMove83_any (.agg #[.int .i64 g.n, .slice va n vc]) g i W (HV.out.grew h))
    have HK0 := hid k0; have HK1 := hid k1
    go_enter Try.func47, Try.ntmps47
    go_wp2
    clear k0 k1
    go_loopg [8, 16] l (fun k _ i wr => ∃ (j : Nat), j ≤ l ∧ i = .int .i64 (j : Int) ∧ Hid (k = l - j) ∧ Hid (∀ t, t < j → (mvI g.ms (nth path t)).isSome = true) ∧ Hid (Grew W0 wr))
    case atStart => exact ⟨0, Nat.zero_le _, rfl, hid rfl, hid (fun t ht => by omega), hid (grew_refl _)⟩
    case round =>
      obtain ⟨j, hj, rfl, HK, HT, HGR⟩ := hrel
      rename World => wr
      have k0' := (HGR.out.cell (p := ⟨w.heap.size, 0, none⟩) hz).trans HK0.out
      have k1' := (HGR.out.cell (p := ⟨w.heap.size, 1, none⟩) hz).trans HK1.out
      have hzr := Nat.lt_of_lt_of_le hz HGR.out.size
      have HGW := hid (grew_trans HG0.out HGR.out)
      by_cases hlt : j < l
      · obtain ⟨b, off, o, rfl, hb, _, hcj⟩ := HPP.out j hlt
        have hbl := lt_of_obj hb
        have hcj0 := (HGW.out.cell (p := ⟨b, off + j, none⟩) hbl).trans hcj
        have hbr := Nat.lt_of_lt_of_le hbl HGW.out.size
        have hltI : (j : Int) < (l : Int) := by omega
        have HLT := hid hlt
        obtain ⟨y, hy⟩ : ∃ y, nth path j = y := ⟨_, rfl⟩
        have HY := hid hy
        have hbad := leads_bad (ms := g.ms) (l := path) (p := p) (j := j) (by rw [HL.out]; exact hlt)
        have him := HIM.out y wr HGW.out
        obtain ⟨mb, hmb⟩ : ∃ b, (mvI g.ms y).isSome = b := ⟨_, rfl⟩
        rw [hy, hmb] at hbad
        rw [hmb] at him
        have HI := hid him; have HBAD := hid hbad; have HMB := hid hmb
        simp only [hy] at hcj0
        clear hb hcj hy hbad him hmb
        cases mb with
        | false =>
          obtain rfl : res = false := by rw [← HRES.out]; exact HBAD.out rfl
          go_wp2_with (go_at_call 83; (with_reducible refine HI.out.mono ?_); rintro e w1 ⟨rfl, hx⟩; have HX := hid hx; clear hx)
          go_ret
          exact ⟨rfl, grew_trans HGW.out HX.out⟩
        | true =>
          go_wp2_with (go_at_call 83; (with_reducible refine HI.out.mono ?_); rintro e w1 ⟨rfl, hx⟩; have HX := hid hx; clear hx)
          go_roundg (l - (j + 1))
          case measure => have := HK.out; have := HLT.out; omega
          case rel => exact ⟨j + 1, by have := HLT.out; omega, by go_num, hid rfl, hid (lt_succ_all HT.out (by rw [HY.out]; exact HMB.out)), hid (grew_trans HGR.out HX.out)⟩
      · obtain rfl : j = l := by omega
        obtain ⟨ma, hma⟩ := Option.isSome_iff_exists.1 (HT.out 0 (by omega))
        obtain ⟨me, hme⟩ := Option.isSome_iff_exists.1 (HT.out (path.length - 1) (by rw [HL.out]; omega))
        have hgd := leads_good (p := p) HNE.out (fun q hq => HT.out q (by rw [← HL.out]; exact hq)) hma hme
        rw [HRES.out] at hgd
        obtain ⟨l1, hl1⟩ : ∃ l1, j - 1 = l1 := ⟨_, rfl⟩
        have hl1c : path.length - 1 = l1 := by rw [HL.out, hl1]
        rw [hl1c] at hme
        have hl1I : (j : Int) - 1 = (l1 : Int) := by omega
        have hl1l : l1 < j := by omega
        have hl1J : (l1 : Int) < (j : Int) := by omega
        have hwr : IntKind.i64.wrap ((j : Int) - 1) = (l1 : Int) := by rw [hl1I]; exact IntWalk.i64_in _ (by omega)
        obtain ⟨i0, b0, off0, bb0, boff0, hi0, hi0I, rfl, c0, hbl0, rfl, hm0⟩ := at_list HMVS.out HN.out HPP.out HGW.out (show 0 < j by omega) hma
        obtain ⟨i1, _, _, _, _, hi1, hi1I, e1, c1, -, e2, hm1'⟩ := at_list HMVS.out HN.out HPP.out HGW.out hl1l hme
        simp only [Option.some.injEq, Addr.mk.injEq, and_true] at e1 e2
        obtain ⟨rfl, rfl⟩ := e1
        obtain ⟨rfl, rfl⟩ := e2
        have d0 := hm0.c0
        have d2 := hm1'.c2
        have hlt0 := hm0.lt
        obtain ⟨x1, x2, x3, x4⟩ := ma
        obtain ⟨y1, y2, y3, y4⟩ := me
        simp only at d0 d2
        simp only [Nat.add_zero] at c0
        simp only [fr, tg] at hgd
        obtain ⟨q1, hq1⟩ : ∃ b, (x1 == 0) = b := ⟨_, rfl⟩
        obtain ⟨q2, hq2⟩ : ∃ b, (y3 == p) = b := ⟨_, rfl⟩
        rw [hq1, hq2] at hgd
        subst hgd
        clear hma hme hl1 hl1c hl1I hm0 hm1'
        cases q1 <;> cases q2
        all_goals (
          go_wp2
          refine wp_region_later (by kernel_rfl) (by kernel_rfl) (fun hL => ?_)
          repeat (go_big_quiet_step (fail))
          refine wpQuiet_nil ?_
          rintro wf ⟨zz, hzz⟩
          have hwf : Grew wr wf := by rw [hzz]; exact zz.2
          clear hL hzz zz
          go_wp2
          go_ret
          exact ⟨rfl, grew_trans HGW.out hwf⟩)
end Go.Proofs.Ytojkohpniokaaaa
