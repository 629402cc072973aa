/- Walks: isPath (69), IsPath (46) of the program; IsMove (83), isPath (73), IsPath (30) of the reference. -/
import Derived.Test.YtojkohpniokaaaaPgPathP
import Derived.Test.YtojkohpniokaaaaPgRVal
import Derived.Test.YtojkohpniokaaaaPgVal
import Derived.Test.YtojkohpniokaaaaPgW
import Derived.BigQuiet
import Derived.StillTailTactics
namespace Go.Lin.Pg
/-- What the program's isPath answers. -/
def pathA (ms : List Mv) (p : Int) (l : List Int) : Int × Bool := match pathI ms p l with | some q => (q, decide (l.length ≤ 1000)) | none => (0, false)
theorem pathA_none {ms : List Mv} {p : Int} {l : List Int} (h : pathI ms p l = none) : pathA ms p l = (0, false) := by unfold pathA; rw [h]
theorem pathA_some {ms : List Mv} {p q : Int} {l : List Int} (h : pathI ms p l = some q) : pathA ms p l = (q, decide (l.length ≤ 1000)) := by unfold pathA; rw [h]
def askI (g : Gr) (l : List Int) : Bool × Int := if valid g then (isPathB g.ms l, 0) else (false, 70)
theorem mvI_nat {ms : List Mv} (i : Nat) : mvI ms (i : Int) = ms[i]? := by unfold mvI; rw [if_pos (by omega), Int.toNat_natCast]
theorem mvI_none {ms : List Mv} {i : Int} (h : ¬ (0 ≤ i ∧ i ≤ (ms.length : Int) - 1)) : mvI ms i = none := by
  unfold mvI
  split
  · rename_i h0
    exact List.getElem?_eq_none (by omega)
  · rfl
end Go.Lin.Pg
namespace Go.Proofs.Ytojkohpniokaaaa
open Go Go.RowKit Go.Lin Go.Lin.Pg

set_option maxHeartbeats 4000000 in
set_option maxRecDepth 20000 in
theorem isPath69_any (gv : Value) (g : Gr) (pv : Value) (path : List Int) (p : Int) (w : World) (hg : IsGr w gv g) (hp : IsInts Any w pv path) :
    Calls Try.prog 69 #[gv, pv, .int .i64 p] w fun e w' => e = .returned (.tuple #[.int .i64 (pathA g.ms p path).1, .bool (pathA g.ms p path).2]) ∧ Grew w w' := by
  obtain ⟨s, rfl, hmv⟩ := hg
  obtain ⟨n, hn⟩ : ∃ n, g.ms.length = n := ⟨_, rfl⟩
  obtain ⟨l, hl⟩ : ∃ l, path.length = l := ⟨_, rfl⟩
  obtain ⟨va, vc, rfl, ⟨hm1, hm2⟩, hmvs⟩ := hmv
  obtain ⟨a, cap, rfl, hm, hc⟩ := hp
  rw [hn] at hm1 hm2 ⊢
  rw [hl] at hm hc ⊢
  have HC := hid hc; have HMVS := hid hmvs; have HN := hid hn; have HL := hid hl
  clear hc hmvs hn hl
  obtain ⟨W0, hW0, g0, k0, k1, hz⟩ := box2 w (.int .i64 g.n) (.slice va n vc) 24
  have HG0 := hid g0
  go_enter Try.func69, Try.ntmps69
  go_wp2
  go_loopg [2, 9, 10, 13] l (fun k fv _ _ i wr => ∃ (j : Nat) (q : Int), j ≤ l ∧ i = .int .i64 (j : Int) ∧ fv = .int .i64 q ∧ Hid (k = l - j) ∧ Hid (pathI g.ms p (path.take j) = some q) ∧ Hid (Grew W0 wr))
  case atStart => exact ⟨0, p, Nat.zero_le _, rfl, rfl, hid rfl, hid rfl, hid (grew_refl _)⟩
  case round =>
    obtain ⟨j, q, hj, rfl, rfl, HK, HQ, HGR⟩ := hrel
    rename World => wr
    have k1' := (HGR.out.cell (p := ⟨w.heap.size, 1, none⟩) hz).trans k1
    have hzr := Nat.lt_of_lt_of_le hz HGR.out.size
    have HGW := hid (grew_trans HG0.out HGR.out)
    clear k0 k1
    by_cases hlt : j < l
    · obtain ⟨b, off, o, rfl, hb, _, hcj⟩ := HC.out j hlt
      have hbl := lt_of_obj hb
      have hcj0 := (HGW.out.cell (p := ⟨b, off + j, none⟩) hbl).trans hcj
      clear hb hcj
      have hltI : (j : Int) < (l : Int) := by omega
      have htk := pathI_take (ms := g.ms) (p := p) (l := path) (j := j) (by rw [HL.out]; exact hlt)
      rw [HQ.out, Option.bind_some] at htk
      obtain ⟨y, hy⟩ : ∃ y, nth path j = y := ⟨_, rfl⟩
      rw [hy] at htk
      simp only [hy] at hcj0
      clear hy
      have hwr : IntKind.i64.wrap ((n : Int) - 1) = (n : Int) - 1 := IntWalk.i64_in _ (by omega)
      by_cases hr : 0 ≤ y ∧ y ≤ (n : Int) - 1
      · have HB := hid (fun W' => between_any 0 y ((n : Int) - 1) W')
        rw [decide_eq_true hr.1, decide_eq_true hr.2, Bool.and_self] at HB
        obtain ⟨i, rfl⟩ : ∃ i : Nat, y = (i : Int) := ⟨y.toNat, by omega⟩
        have hin : i < n := by omega
        obtain ⟨m, hmi⟩ : ∃ m, g.ms[i]? = some m := ⟨_, List.getElem?_eq_getElem (by rw [HN.out]; exact hin)⟩
        obtain ⟨bb, boff, rfl, hpa⟩ := HMVS.out i m hmi
        have hpa2 := hpa.grew hpa.lt HGW.out
        have HPA := hid hpa2
        have hnx : pathI g.ms q [(i : Int)] = if 0 ≤ q ∧ fr m ≠ q then none else some (tg m) := by
          simp only [pathI, mvI_nat, hmi]
        have hplt := hpa2.lt
        obtain ⟨x1, x2, x3, x4⟩ := m
        have hinI : (i : Int) < (n : Int) := by omega
        by_cases h0 : 0 ≤ q
        · by_cases hx : x1 = q
          · subst hx
            rw [if_neg (by simp)] at hnx
            have HNX := hid (htk.trans hnx)
            have hd1 : (x1 == x1) = true := by simp
            have hd2 : (x1 != x1) = false := by simp
            clear hnx htk hpa hpa2 hmi
            go_wp2_with (go_at_call 63; (with_reducible refine (HB.out _).mono ?_); rintro e w1 ⟨rfl, hx⟩; have HX := hid hx; have k1'' := (hx.cell (p := ⟨w.heap.size, 1, none⟩) hzr).trans k1'; have hpa3 := HPA.out.grew hplt hx; have p0 := hpa3.c0; have p1 := hpa3.c1; have p2 := hpa3.c2; have p3 := hpa3.c3; obtain ⟨Y1, hY1, e1, hb1⟩ := box4v w1 (x1, x2, x3, x4); have l0 := hb1.c0; have l1 := hb1.c1; have l2 := hb1.c2; have l3 := hb1.c3; have hzl := hb1.lt; have HE1 := hid (grew_trans hx e1); simp only [Nat.zero_add] at p0 p1 p2 p3 l0 l1 l2 l3 hY1; clear hx hpa3 hb1)
            go_roundg (l - (j + 1))
            case measure => have := HK.out; omega
            case rel => exact ⟨j + 1, x3, by omega, by go_num, rfl, hid rfl, hid HNX.out, hid (grew_trans HGR.out HE1.out)⟩
          · rw [if_pos ⟨h0, hx⟩] at hnx
            have HNX := hid (pathA_none (pathI_none (j + 1) (htk.trans hnx)))
            have hd1 : (x1 == q) = false := by simpa using hx
            have hd2 : (x1 != q) = true := by simpa using hx
            clear hnx htk hpa hpa2 hmi
            go_wp2_with (go_at_call 63; (with_reducible refine (HB.out _).mono ?_); rintro e w1 ⟨rfl, hx⟩; have HX := hid hx; have k1'' := (hx.cell (p := ⟨w.heap.size, 1, none⟩) hzr).trans k1'; have hpa3 := HPA.out.grew hplt hx; have p0 := hpa3.c0; have p1 := hpa3.c1; have p2 := hpa3.c2; have p3 := hpa3.c3; obtain ⟨Y1, hY1, e1, hb1⟩ := box4v w1 (x1, x2, x3, x4); have l0 := hb1.c0; have l1 := hb1.c1; have l2 := hb1.c2; have l3 := hb1.c3; have hzl := hb1.lt; have HE1 := hid (grew_trans hx e1); simp only [Nat.zero_add] at p0 p1 p2 p3 l0 l1 l2 l3 hY1; clear hx hpa3 hb1)
            go_ret2
            exact ⟨by rw [HNX.out]; rfl, grew_trans HGW.out HE1.out⟩
        · rw [if_neg (fun h => h0 h.1)] at hnx
          have HNX := hid (htk.trans hnx)
          clear hnx htk hpa hpa2 hmi
          go_wp2_with (go_at_call 63; (with_reducible refine (HB.out _).mono ?_); rintro e w1 ⟨rfl, hx⟩; have HX := hid hx; have k1'' := (hx.cell (p := ⟨w.heap.size, 1, none⟩) hzr).trans k1'; have hpa3 := HPA.out.grew hplt hx; have p0 := hpa3.c0; have p1 := hpa3.c1; have p2 := hpa3.c2; have p3 := hpa3.c3; obtain ⟨Y1, hY1, e1, hb1⟩ := box4v w1 (x1, x2, x3, x4); have l0 := hb1.c0; have l1 := hb1.c1; have l2 := hb1.c2; have l3 := hb1.c3; have hzl := hb1.lt; have HE1 := hid (grew_trans hx e1); simp only [Nat.zero_add] at p0 p1 p2 p3 l0 l1 l2 l3 hY1; clear hx hpa3 hb1)
          go_roundg (l - (j + 1))
          case measure => have := HK.out; omega
          case rel => exact ⟨j + 1, x3, by omega, by go_num, rfl, hid rfl, hid HNX.out, hid (grew_trans HGR.out HE1.out)⟩
      · have HB := hid (fun W' => between_any 0 y ((n : Int) - 1) W')
        rw [show (decide (0 ≤ y) && decide (y ≤ (n : Int) - 1)) = false by simpa using hr] at HB
        have hnx : pathI g.ms q [y] = none := by simp only [pathI]; rw [mvI_none (by rw [HN.out]; exact hr)]
        have HNX := hid (pathA_none (pathI_none (j + 1) (htk.trans hnx)))
        clear hnx htk
        go_wp2_with (go_at_call 63; (with_reducible refine (HB.out _).mono ?_); rintro e w1 ⟨rfl, hx⟩; have HX := hid hx; clear hx)
        go_ret2
        exact ⟨by rw [HNX.out]; rfl, grew_trans HGW.out HX.out⟩
    · obtain rfl : j = l := by omega
      have hq := HQ.out
      rw [List.take_of_length_le (by rw [HL.out]; exact Nat.le_refl _)] at hq
      have HPQ := hid (pathA_some hq)
      obtain ⟨bb, hbb⟩ : ∃ bb, decide ((path.length : Int) ≤ 1000) = bb := ⟨_, rfl⟩
      have HBB := hid hbb
      rw [HL.out] at hbb
      clear hq
      go_wp2
      go_ret2
      refine ⟨?_, HGW.out⟩
      rw [HPQ.out]
      have : decide (path.length ≤ 1000) = bb := by rw [← HBB.out]; exact decide_eq_decide.2 (by omega)
      rw [this]; rfl

theorem isMove83_any (v : Value) (g : Gr) (i : Int) (w : World) (hv : IsGr w v g) : Calls Try.prog 83 #[v, .int .i64 i] w fun e w' => e = .returned (.bool (mvI g.ms i).isSome) ∧ Grew w w' := by
  obtain ⟨s, rfl, hmv⟩ := hv
  obtain ⟨n, hn⟩ : ∃ n, g.ms.length = n := ⟨_, rfl⟩
  obtain ⟨va, vc, rfl, ⟨hm1, hm2⟩, hmvs⟩ := hmv
  rw [hn] at hm1 hm2 ⊢
  obtain ⟨W0, hW0, g0, k0, k1, hz⟩ := box2 w (.int .i64 g.n) (.slice va n vc) 24
  obtain ⟨p, hp⟩ : ∃ p, decide (0 ≤ i) = p := ⟨_, rfl⟩
  obtain ⟨q, hq⟩ : ∃ q, decide (i < (n : Int)) = q := ⟨_, rfl⟩
  have hr : (mvI g.ms i).isSome = (p && q) := by
    rw [← hp, ← hq]
    unfold mvI
    by_cases h0 : 0 ≤ i
    · rw [if_pos h0, decide_eq_true h0, Bool.true_and]
      by_cases hi : i < (n : Int)
      · rw [decide_eq_true hi, List.getElem?_eq_getElem (by omega)]; rfl
      · rw [decide_eq_false hi, List.getElem?_eq_none (by omega)]; rfl
    · rw [if_neg h0, decide_eq_false h0]; rfl
  rw [hr]
  clear hr hmvs
  cases p <;> cases q
  all_goals (
    go_enter Try.func83, Try.ntmps83
    go_wp2
    go_ret
    exact ⟨rfl, g0⟩)

theorem links_of {ms : List Mv} {l : List Int} (h : ∀ k, k < l.length → linkB ms l k = true) : linksB ms l = true := by
  unfold linksB
  rw [List.all_eq_true]
  intro k hk
  exact h k (List.mem_range.1 hk)

theorem not_links_of {ms : List Mv} {l : List Int} {k : Nat} (hk : k < l.length) (h : linkB ms l k = false) : isPathB ms l = false := by
  unfold isPathB linksB
  rw [Bool.and_eq_false_iff]
  refine .inl (List.all_eq_false.2 ⟨k, List.mem_range.2 hk, by rw [h]; simp⟩)

set_option maxHeartbeats 4000000 in
set_option maxRecDepth 20000 in
theorem isPath73_any (gv : Value) (g : Gr) (pv : Value) (path : List Int) (w : World) (hg : IsGr w gv g) (hp : IsInts Any w pv path) :
    Calls Try.prog 73 #[gv, pv] w fun e w' => e = .returned (.bool (isPathB g.ms path)) ∧ Grew w w' := by
  have HIG := hid hg
  obtain ⟨s, rfl, hmv⟩ := hg
  obtain ⟨n, hn⟩ : ∃ n, g.ms.length = n := ⟨_, rfl⟩
  obtain ⟨l, hl⟩ : ∃ l, path.length = l := ⟨_, rfl⟩
  obtain ⟨va, vc, rfl, ⟨hm1, hm2⟩, hmvs⟩ := hmv
  obtain ⟨a, cap, rfl, hm, hc⟩ := hp
  rw [hn] at hm1 hm2 HIG ⊢
  rw [hl] at hm hc ⊢
  have HC := hid hc; have HMVS := hid hmvs; have HN := hid hn; have HL := hid hl
  clear hc hmvs hn hl
  obtain ⟨W0, hW0, g0, k0, k1, hz⟩ := box2 w (.int .i64 g.n) (.slice va n vc) 24
  have HG0 := hid g0
  by_cases hlong : (l : Int) > 1000
  · have hr : isPathB g.ms path = false := by
      unfold isPathB
      rw [HL.out, show decide (l ≤ 1000) = false from decide_eq_false (by omega), Bool.and_false]
    rw [hr]
    clear hr
    go_enter Try.func73, Try.ntmps73
    go_wp2
    go_ret
    exact ⟨rfl, g0⟩
  go_enter Try.func73, Try.ntmps73
  go_wp2
  go_loopg [5, 6, 12] l (fun k _ _ i wr => ∃ (j : Nat), j ≤ l ∧ i = .int .i64 (j : Int) ∧ Hid (k = l - j) ∧ Hid (∀ t, t < j → linkB g.ms path t = true) ∧ Hid (Grew W0 wr))
  case atStart => exact ⟨0, Nat.zero_le _, rfl, hid rfl, hid (fun t ht => by omega), hid (grew_refl _)⟩
  case round =>
    obtain ⟨j, hj, rfl, HK, HT, HGR⟩ := hrel
    rename World => wr
    have k0' := (HGR.out.cell (p := ⟨w.heap.size, 0, none⟩) hz).trans k0
    have k1' := (HGR.out.cell (p := ⟨w.heap.size, 1, none⟩) hz).trans k1
    have hzr := Nat.lt_of_lt_of_le hz HGR.out.size
    have HGW := hid (grew_trans HG0.out HGR.out)
    clear k0 k1
    by_cases hlt : j < l
    · have hpc : ∀ t, t < l → ∃ b off, a = some ⟨b, off, none⟩ ∧ b < wr.heap.size ∧ wr.cell? ⟨b, off + t, none⟩ = some (.int .i64 (nth path t)) := fun t ht => by
        obtain ⟨b, off, o, ha, hb, _, hcj⟩ := HC.out t ht
        have hbl := lt_of_obj hb
        exact ⟨b, off, ha, Nat.lt_of_lt_of_le hbl HGW.out.size, (HGW.out.cell (p := ⟨b, off + t, none⟩) hbl).trans hcj⟩
      obtain ⟨b, off, rfl, hbl, hcj0⟩ := hpc j hlt
      have hltI : (j : Int) < (l : Int) := by omega
      obtain ⟨y, hy⟩ : ∃ y, nth path j = y := ⟨_, rfl⟩
      have HY := hid hy
      have HIM := hid (fun (W' : World) (h : Grew wr W') => isMove83_any (.agg #[.int .i64 g.n, .slice va n vc]) g y W' (HIG.out.grew (grew_trans HGW.out h)))
      simp only [hy] at hcj0
      cases hmy : mvI g.ms y with
      | none =>
        rw [hmy] at HIM
        have hnl : linkB g.ms path j = false := by unfold linkB; rw [hy, hmy]
        have HR := hid (not_links_of (by rw [HL.out]; exact hlt) hnl)
        clear hpc hnl hmy hy
        simp only [Option.isSome_none] at HIM
        by_cases hj0 : (j : Int) > 0
        all_goals (
          go_wp2
          refine wp_region_later (by kernel_rfl) (by kernel_rfl) (fun hL => ?_)
          repeat (go_big_quiet_step ((go_at_call 83; exact calls_later (HIM.out _ (Subtype.property _)))))
          refine wpQuiet_nil ?_
          rintro wy ⟨z, hz⟩
          have hwy : Grew wr wy := by rw [hz]; exact z.2
          clear hL hz z
          go_wp2
          go_ret
          exact ⟨by rw [HR.out]; rfl, grew_trans HGW.out hwy⟩)
      | some m =>
        rw [hmy] at HIM
        simp only [Option.isSome_some] at HIM
        have hyn : 0 ≤ y ∧ y < (n : Int) ∧ g.ms[y.toNat]? = some m := by
          unfold mvI at hmy
          split at hmy
          · rename_i h0
            have := (List.getElem?_eq_some_iff.1 hmy).1
            rw [HN.out] at this
            exact ⟨h0, by omega, hmy⟩
          · cases hmy
        obtain ⟨i, rfl⟩ : ∃ i : Nat, y = (i : Int) := ⟨y.toNat, by omega⟩
        rw [Int.toNat_natCast] at hyn
        obtain ⟨bb, boff, rfl, hpa⟩ := HMVS.out i m hyn.2.2
        have hpa2 := hpa.grew hpa.lt HGW.out
        have p0 := hpa2.c0
        have hinI : (i : Int) < (n : Int) := by omega
        by_cases hj0 : (j : Int) > 0
        · obtain ⟨_, _, e1, _, hcj1⟩ := hpc (j - 1) (by omega)
          simp only [Option.some.injEq, Addr.mk.injEq, and_true] at e1
          obtain ⟨rfl, rfl⟩ := e1
          have hprev := HT.out (j - 1) (by omega)
          cases hmz : mvI g.ms (nth path (j - 1)) with
          | none => unfold linkB at hprev; rw [hmz] at hprev; cases hprev
          | some m' =>
            obtain ⟨z, hz'⟩ : ∃ z, nth path (j - 1) = z := ⟨_, rfl⟩
            rw [hz'] at hmz
            have hzn : 0 ≤ z ∧ z < (n : Int) ∧ g.ms[z.toNat]? = some m' := by
              unfold mvI at hmz
              split at hmz
              · rename_i h0
                have := (List.getElem?_eq_some_iff.1 hmz).1
                rw [HN.out] at this
                exact ⟨h0, by omega, hmz⟩
              · cases hmz
            simp only [hz'] at hcj1
            obtain ⟨i', rfl⟩ : ∃ i' : Nat, z = (i' : Int) := ⟨z.toNat, by omega⟩
            rw [Int.toNat_natCast] at hzn
            obtain ⟨_, _, e2, hpb⟩ := HMVS.out i' m' hzn.2.2
            simp only [Option.some.injEq, Addr.mk.injEq, and_true] at e2
            obtain ⟨rfl, rfl⟩ := e2
            have hpb2 := hpb.grew hpb.lt HGW.out
            have q2 := hpb2.c2
            have hinJ : (i' : Int) < (n : Int) := by omega
            have hlk : linkB g.ms path j = (tg m' == fr m) := by
              unfold linkB
              rw [hy, hmy, hz', hmz]
              simp only
              rw [show (j == 0) = false by simp; omega, Bool.false_or]
            have HLK := hid hlk
            have hplt := hpa2.lt
            have hj0n : 0 < j := by omega
            have hj0d : decide (0 < j) = true := decide_eq_true hj0n
            have hsub : (j : Int) - 1 = ((j - 1 : Nat) : Int) := by omega
            have hj1 : j - 1 < l := by omega
            have hj1I : ((j - 1 : Nat) : Int) < (l : Int) := by omega
            obtain ⟨j1, hjj⟩ : ∃ j1, j - 1 = j1 := ⟨_, rfl⟩
            rw [hjj] at hsub hj1 hj1I hcj1
            have hwr : IntKind.i64.wrap ((j : Int) - 1) = (j1 : Int) := by rw [hsub]; exact IntWalk.i64_in _ (by omega)
            obtain ⟨x1, x2, x3, x4⟩ := m
            obtain ⟨x5, x6, x7, x8⟩ := m'
            clear hpc hy hmy hmz hz' hlk hprev hpa hpa2 hpb hpb2 hyn hzn hsub
            have HJ := hid hjj
            clear hjj
            simp only at p0 q2
            by_cases hxx : x7 = x1
            · subst hxx
              have hd1 : (x7 == x7) = true := by simp
              have hd2 : (x7 != x7) = false := by simp
              go_wp2
              refine wp_region_later (by kernel_rfl) (by kernel_rfl) (fun hL => ?_)
              repeat (go_big_quiet_step ((go_at_call 83; exact calls_later (HIM.out _ (Subtype.property _)))))
              refine wpQuiet_nil ?_
              rintro wy ⟨z, hz⟩
              have hwy : Grew wr wy := by rw [hz]; exact z.2
              clear hL hz z
              go_wp2
              go_roundg (l - (j + 1))
              case measure => have := HK.out; omega
              case rel => exact ⟨j + 1, by omega, by go_num, hid rfl, hid (lt_succ_all HT.out (by rw [HLK.out]; simp)), hid (grew_trans HGR.out hwy)⟩
            · have hd1 : (x7 == x1) = false := by simpa using hxx
              have hd2 : (x7 != x1) = true := by simpa using hxx
              have HR := hid (not_links_of (by rw [HL.out]; exact hlt) (HLK.out.trans hd1))
              go_wp2
              refine wp_region_later (by kernel_rfl) (by kernel_rfl) (fun hL => ?_)
              repeat (go_big_quiet_step ((go_at_call 83; exact calls_later (HIM.out _ (Subtype.property _)))))
              refine wpQuiet_nil ?_
              rintro wy ⟨z, hz⟩
              have hwy : Grew wr wy := by rw [hz]; exact z.2
              clear hL hz z
              go_wp2
              go_ret
              exact ⟨by rw [HR.out]; rfl, grew_trans HGW.out hwy⟩
        · obtain rfl : j = 0 := by omega
          have hlk : linkB g.ms path 0 = true := by unfold linkB; rw [hy, hmy]; rfl
          have HLK := hid hlk
          clear hlk hpc hy hmy hyn hpa hpa2
          simp only [Nat.add_zero] at hcj0
          go_wp2
          refine wp_region_later (by kernel_rfl) (by kernel_rfl) (fun hL => ?_)
          repeat (go_big_quiet_step ((go_at_call 83; exact calls_later (HIM.out _ (Subtype.property _)))))
          refine wpQuiet_nil ?_
          rintro wy ⟨z, hz⟩
          have hwy : Grew wr wy := by rw [hz]; exact z.2
          clear hL hz z
          go_wp2
          go_roundg (l - (0 + 1))
          case measure => have := HK.out; omega
          case rel => exact ⟨0 + 1, by omega, by go_num, hid rfl, hid (lt_succ_all HT.out HLK.out), hid (grew_trans HGR.out hwy)⟩
    · obtain rfl : j = l := by omega
      go_wp2
      go_ret
      refine ⟨?_, HGW.out⟩
      have hall := links_of (ms := g.ms) (l := path) (fun t ht => HT.out t (by rw [← HL.out]; exact ht))
      unfold isPathB
      rw [hall, HL.out, show decide (j ≤ 1000) = true from decide_eq_true (by omega)]
      rfl

set_option maxHeartbeats 1000000 in
theorem isPath30_any (v : Value) (g : Gr) (pv : Value) (path : List Int) (w : World) (hv : IsGr w v g) (hp : IsInts Any w pv path) :
    Calls Try.prog 30 #[v, pv] w fun e w' => e = .returned (.tuple #[.bool (askI g path).1, .int .i64 (askI g path).2]) ∧ Grew w w' := by
  have HV := hid hv
  have HP := hid hp
  obtain ⟨s, rfl, -⟩ := hv
  obtain ⟨a, cap, rfl, -⟩ := hp
  obtain ⟨W0, hW0, g0, k0, k1, hz⟩ := box2 w (.int .i64 g.n) s 24
  have HG0 := hid g0
  have HVA := hid (rValid16_any _ g W0 (HV.out.grew g0))
  obtain ⟨b, hb⟩ : ∃ b, valid g = b := ⟨_, rfl⟩
  have hr : askI g path = if b then (isPathB g.ms path, 0) else (false, 70) := by unfold askI; rw [hb]
  rw [hr]
  rw [hb] at HVA
  clear hr hb
  have HI := hid (fun (W' : World) (h : Grew W0 W') => isPath73_any (.agg #[.int .i64 g.n, s]) g _ path W' (HV.out.grew (grew_trans HG0.out h)) (Reads.grew HP.out (grew_trans HG0.out h)))
  cases b with
  | false =>
    go_enter Try.func30, Try.ntmps30
    go_wp2_with (go_at_call 16; (with_reducible refine HVA.out.mono ?_); rintro e w1 ⟨rfl, hx⟩; have HX := hid hx; clear hx)
    go_ret2
    exact ⟨rfl, grew_trans HG0.out HX.out⟩
  | true =>
    go_enter Try.func30, Try.ntmps30
    go_wp2_with (first
      | (go_at_call 16; (with_reducible refine HVA.out.mono ?_); rintro e w1 ⟨rfl, hx⟩; have HX := hid hx; have k0' := (hx.cell (p := ⟨w.heap.size, 0, none⟩) hz).trans k0; have k1' := (hx.cell (p := ⟨w.heap.size, 1, none⟩) hz).trans k1; clear hx)
      | (go_at_call 73; (with_reducible refine (HI.out _ HX.out).mono ?_); rintro e w2 ⟨rfl, hy⟩; have HY := hid hy; clear hy))
    go_ret2
    exact ⟨rfl, grew_trans HG0.out (grew_trans HX.out HY.out)⟩

theorem askI_path {g : Gr} (hms : ∀ m ∈ g.ms, 0 ≤ tg m) (l : List Int) : (pathA g.ms (-1) l).2 = isPathB g.ms l := by
  have h := pathI_some hms l
  unfold pathA isPathB
  cases hp : pathI g.ms (-1) l with
  | none => rw [hp] at h; rw [← h]; rfl
  | some q => rw [hp] at h; rw [← h]; rfl

theorem valid_tg {g : Gr} (hv : valid g = true) : ∀ m ∈ g.ms, 0 ≤ tg m := by
  unfold valid at hv
  simp only [Bool.and_eq_true] at hv
  have key : ∀ (s l : List Mv), mvsOk g.n s l = true → ∀ m ∈ l, 0 ≤ tg m := by
    intro s l
    induction l generalizing s with
    | nil => intro _ m hm; cases hm
    | cons x l ih =>
      intro h m hm
      simp only [mvsOk, Bool.and_eq_true] at h
      rcases List.mem_cons.1 hm with rfl | hm
      · have := h.1.1
        unfold mvOk isPl at this
        simp only [Bool.and_eq_true, decide_eq_true_eq] at this
        exact this.1.2.1
      · exact ih _ h.2 m hm
  exact key [] g.ms hv.1.1

set_option maxHeartbeats 1000000 in
theorem isPath46_any (v : Value) (g : Gr) (pv : Value) (path : List Int) (w : World) (hn : -9223372036854775808 ≤ g.n ∧ g.n ≤ 9223372036854775807) (hv : IsGr w v g) (hp : IsInts Any w pv path) :
    Calls Try.prog 46 #[v, pv] w fun e w' => e = .returned (.tuple #[.bool (askI g path).1, .int .i64 (askI g path).2]) ∧ Grew w w' := by
  have HV := hid hv
  have HP := hid hp
  obtain ⟨s, rfl, -⟩ := hv
  obtain ⟨a, cap, rfl, -⟩ := hp
  obtain ⟨W0, hW0, g0, k0, k1, hz⟩ := box2 w (.int .i64 g.n) s 24
  have HG0 := hid g0
  have HVA := hid (valid51_any _ g W0 hn (HV.out.grew g0))
  obtain ⟨b, hb⟩ : ∃ b, valid g = b := ⟨_, rfl⟩
  have hr : askI g path = if b then (isPathB g.ms path, 0) else (false, 70) := by unfold askI; rw [hb]
  rw [hr]
  rw [hb] at HVA
  have HI := hid (fun (W' : World) (h : Grew W0 W') => isPath69_any (.agg #[.int .i64 g.n, s]) g _ path (-1) W' (HV.out.grew (grew_trans HG0.out h)) (Reads.grew HP.out (grew_trans HG0.out h)))
  obtain ⟨r1, hr1⟩ : ∃ r, (pathA g.ms (-1) path).1 = r := ⟨_, rfl⟩
  rw [hr1] at HI
  clear hr hr1
  cases b with
  | false =>
    clear HI
    go_enter Try.func46, Try.ntmps46
    go_wp2_with (go_at_call 51; (with_reducible refine HVA.out.mono ?_); rintro e w1 ⟨rfl, hx⟩; have HX := hid hx; clear hx)
    go_ret2
    exact ⟨rfl, grew_trans HG0.out HX.out⟩
  | true =>
    rw [askI_path (valid_tg hb)] at HI
    clear hb
    go_enter Try.func46, Try.ntmps46
    go_wp2_with (first
      | (go_at_call 51; (with_reducible refine HVA.out.mono ?_); rintro e w1 ⟨rfl, hx⟩; have HX := hid hx; have k0' := (hx.cell (p := ⟨w.heap.size, 0, none⟩) hz).trans k0; have k1' := (hx.cell (p := ⟨w.heap.size, 1, none⟩) hz).trans k1; clear hx)
      | (go_at_call 69; (with_reducible refine (HI.out _ HX.out).mono ?_); rintro e w2 ⟨rfl, hy⟩; have HY := hid hy; clear hy))
    go_ret2
    exact ⟨rfl, grew_trans HG0.out (grew_trans HX.out HY.out)⟩
end Go.Proofs.Ytojkohpniokaaaa
