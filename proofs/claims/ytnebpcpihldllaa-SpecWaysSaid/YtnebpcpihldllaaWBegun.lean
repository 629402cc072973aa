/- Walks: Begun, of the program's own text. -/
import Derived.Test.YtnebpcpihldllaaWOpen
import Derived.Test.YtnebpcpihldllaaWClone
import Derived.Test.YtnebpcpihldllaaWRefB
import Derived.Test.YtnebpcpihldllaaBuild
import Derived.Deep.DrawnRows
import Derived.Deep.RegionLaw
namespace Go.Lin

/-- The tables with two states exchanged. -/
def begunN (s : RSpec) (c : Int) (i : Nat) : List Int := (nthL s.next (exchM i c).toNat).map fun x => exchM x c
def begunY (s : RSpec) (c : Int) (i : Nat) : List Int := nthL s.says (exchM i c).toNat
def begunM (s : RSpec) (c : Int) : RSpec := ⟨s.st, s.ops, (List.range s.st.toNat).map (begunN s c), (List.range s.st.toNat).map (begunY s c)⟩
def zeroM : RSpec := ⟨0, 0, [], []⟩
def begunR (s : RSpec) (c : Int) : RSpec := if validM s && inM s.st c then begunM s c else zeroM
def askedM (s : RSpec) (a b : Int) : Int := if validM s then if inM s.st a && inM s.st b then 0 else 2 else 10

theorem exch_in {st x c : Int} (hx : 0 ≤ x ∧ x < st) (hc : 0 ≤ c ∧ c < st) : 0 ≤ exchM x c ∧ exchM x c < st := by
  unfold exchM
  split
  · exact hc
  · split <;> omega

theorem range_snoc {α : Type} (f : Nat → α) (i : Nat) : (List.range (i + 1)).map f = (List.range i).map f ++ [f i] := by
  simp [List.range_succ]

end Go.Lin
namespace Go.Proofs.Ytnebpcpihldllaa
open Go.RowKit Go.Lin

theorem entered57 : Entered 57 := fun _ _ => by kernel_rfl
theorem entered67 : Entered 67 := fun _ _ => by kernel_rfl
theorem entered59 : Entered 59 := fun _ _ => by kernel_rfl

set_option maxHeartbeats 1000000 in
theorem begun1_any (s : RSpec) (sv : Value) (B : Nat) (c : Int) (w : World) (h1 : 1 ≤ s.st) (h2 : s.st ≤ 8) (hs : IsSpec w sv s) (hB : w.cell? ⟨B, 0, none⟩ = some (.int .i64 c)) :
    Says 57 #[.pointer (some ⟨B, 0, none⟩)] sv (inM s.st c) w := by
  intro w' hw
  have hlt := World.block_lt_of_cell? w _ hB
  have hB' := (hw.cell (p := ⟨B, 0, none⟩) hlt).trans hB
  have HS := hs.grew hw
  obtain ⟨nv, yv, rfl, _, _⟩ := hs
  clear hB hw hlt
  obtain ⟨W0, hW0, g0, k0, k1, k2, k3, hz⟩ := box4 w' (.int .i64 s.st) (.int .i64 s.ops) nv yv 60
  have hlt := World.block_lt_of_cell? w' _ hB'
  have hB0 := (g0.cell (p := ⟨B, 0, none⟩) hlt).trans hB'
  obtain ⟨W1, hW1, g1, l0, hz1⟩ := box1 W0 (.int .i64 c) 3
  have hx : IsInts Any W1 (.slice (some ⟨W0.heap.size, 0, none⟩) 1 1) [c] := ⟨_, _, rfl, by simp, fun i hi => by
    have : i = 0 := by simpa using hi
    subst this
    exact ⟨_, _, _, rfl, Array.getElem?_eq_getElem hz1, trivial, by simpa [nth] using l0⟩⟩
  have HST := hid (state_any s _ _ _ W1 h1 h2 ((HS.grew g0).grew g1) hx)
  clear hx
  go_enter Try.func57, Try.ntmps57
  go_wp2_with (go_at_call 58; with_reducible refine HST.out.mono ?_; rintro e w1 ⟨rfl, hx⟩)
  go_ret
  refine ⟨ret_bool (by simp), (by repeat' (first | exact grew_refl _ | assumption | refine grew_alloc ?_ _ | refine Below.setCell ?_ (by (try simp); omega) _ | refine grew_drewN ?_ _ | refine grew_drew ?_ | refine grew_trans ?_ (by assumption)))⟩

set_option maxHeartbeats 1000000 in
theorem name_any (n c : Int) (B : Nat) (w : World) (hB : w.cell? ⟨B, 0, none⟩ = some (.int .i64 c)) :
    Calls Try.prog 59 #[.int .i64 n, .pointer (some ⟨B, 0, none⟩)] w fun e w' => e = .returned (.int .i64 (exchM n c)) ∧ w' = w := by
  by_cases h0 : n = 0
  · subst h0
    go_enter Try.func59, Try.ntmps59
    go_wp2
    all_goals (go_ret; exact ⟨ret_int (by simp [exchM]), rfl⟩)
  · have h0' : (n == 0) = false := by simpa using h0
    by_cases h1 : n = c
    · have h1' : (n == c) = true := by simpa using h1
      have H1 := hid h1; have H0 := hid h0; clear h1 h0
      go_enter Try.func59, Try.ntmps59
      go_wp2
      go_ret
      exact ⟨ret_int (by unfold exchM; rw [if_neg H0.out, if_pos H1.out]), rfl⟩
    · have h1' : (n == c) = false := by simpa using h1
      have H1 := hid h1; have H0 := hid h0; clear h1 h0
      go_enter Try.func59, Try.ntmps59
      go_wp2
      go_ret
      exact ⟨ret_int (by unfold exchM; rw [if_neg H0.out, if_neg H1.out]), rfl⟩


set_option maxHeartbeats 4000000 in
set_option maxRecDepth 100000 in
theorem begun_ok (s : RSpec) (c : Int) (sv : Value) (w : World) (hs : IsSpec w sv s) (hv : validM s = true) (hin : inM s.st c = true) :
    Calls Try.prog 18 #[sv, .int .i64 c] w fun e w' => ∃ u, e = .returned (.tuple #[u, .int .i64 0]) ∧ IsSpec w' u (begunM s c) ∧ Grew w w' := by
  have HS := hs
  obtain ⟨nv, yv, rfl, hn, hy⟩ := hs
  obtain ⟨⟨s1, s8, o1, o4⟩, ⟨hl1, hr1⟩, ⟨hl2, hr2⟩⟩ := valid_parts hv
  have hcin : 0 ≤ c ∧ c < s.st := by unfold inM at hin; simpa using hin
  obtain ⟨n, hnn⟩ : ∃ n, s.st.toNat = n := ⟨_, rfl⟩
  obtain ⟨m, hmm⟩ : ∃ m, s.ops.toNat = m := ⟨_, rfl⟩
  have hst : s.st = (n : Int) := by omega
  have hop : s.ops = (m : Int) := by omega
  have n1 : 1 ≤ n := by omega
  have n8 : n ≤ 8 := by omega
  have m1 : 1 ≤ m := by omega
  have m4 : m ≤ 4 := by omega
  have hrow1 : ∀ i, i < n → (nthL s.next i).length = m := fun i hi => by have := (hr1 i (by omega)).1; omega
  have hrow2 : ∀ i, i < n → (nthL s.says i).length = m := fun i hi => by have := (hr2 i (by omega)).1; omega
  obtain ⟨b1, off1, c1, rfl, t1⟩ := tabAt_of_rows (n := n) (k := m) hn (by omega) n1 m1 hrow1
  obtain ⟨b2, off2, c2, rfl, t2⟩ := tabAt_of_rows (n := n) (k := m) hy (by omega) n1 m1 hrow2
  have HR1 := hid hrow1; have HR2 := hid hrow2; clear hrow1 hrow2
  have hnum : ∀ i, i < n → ∀ j, j < m → 0 ≤ nth (nthL s.next i) j ∧ nth (nthL s.next i) j < n := fun i hi j hj => by
    have h := hr1 i (by omega)
    have h2 := h.2 j (by omega)
    omega
  have HNUM := hid hnum; clear hnum hr1 hr2 hl1 hl2 hn hy
  rw [hst, hop] at HS ⊢
  obtain ⟨W0, hW0, g0, k0, k1, k2, k3, hz⟩ := box4 w (.int .i64 (n : Int)) (.int .i64 (m : Int)) (.slice (some ⟨b1, off1, none⟩) n c1) (.slice (some ⟨b2, off2, none⟩) n c2) 24
  obtain ⟨W1, hW1, g1, l0, hz1⟩ := box1 W0 (.int .i64 c) 3
  have hobj2 := heap_alloc_new W1 (.cells #[.int .i64 0, .int .i64 0, .slice none 0 0, .slice none 0 0] 24)
  obtain ⟨W2, hW2, g2, q0, q1, q2, q3, hz2, qf⟩ := boxf4 W1 (.int .i64 0) (.int .i64 0) (.slice none 0 0) (.slice none 0 0) 24
  rw [hW2] at hobj2
  have HOBJ := hid hobj2; clear hobj2
  have g02 := grew_trans g0 (grew_trans g1 g2)
  have e0 := (g2.cell (p := ⟨W0.heap.size, 0, none⟩) hz1).trans l0
  have r0 := ((grew_trans g1 g2).cell (p := ⟨w.heap.size, 0, none⟩) hz).trans k0
  have r1 := ((grew_trans g1 g2).cell (p := ⟨w.heap.size, 1, none⟩) hz).trans k1
  have r2 := ((grew_trans g1 g2).cell (p := ⟨w.heap.size, 2, none⟩) hz).trans k2
  have r3 := ((grew_trans g1 g2).cell (p := ⟨w.heap.size, 3, none⟩) hz).trans k3
  clear k0 k1 k2 k3 q0 q1 q2 q3 qf
  have hop2 := opened_ok s _ 57 #[.pointer (some ⟨W0.heap.size, 0, none⟩)] W2 (HS.grew g02) hv entered57 (by
    have := begun1_any s _ _ c W2 s1 s8 (HS.grew g02) e0
    rwa [hin] at this)
  have HOP := hid hop2; clear hop2
  have T1 := hid (t1.grew g02); have T2 := hid (t2.grew g02)
  clear t1 t2
  have hz0 : w.heap.size < W2.heap.size := by have := g1.size; have := g2.size; omega
  have hz3 : W0.heap.size < W2.heap.size := by have := g2.size; omega
  have HST := hid hst; have HOPS := hid hop; have HV := hid hv; have HCI := hid hcin; have HNN := hid hnn
  clear hst hop hv hcin hin hnn hmm s1 s8 o1 o4
  go_enter Try.func18, Try.ntmps18
  go_wp2_with (go_at_call 56; with_reducible refine HOP.out.mono ?_; rintro e w1 ⟨rfl, hx⟩; obtain ⟨hc, hcf⟩ := bcell hx; obtain ⟨W3, hW3, g3, k0, k1, k2, k3, hz4⟩ := box4 w1 (.int .i64 (n : Int)) (.int .i64 (m : Int)) (.slice (some ⟨b1, off1, none⟩) n c1) (.slice (some ⟨b2, off2, none⟩) n c2) 60; have hbl0 := Built.start (W := W3) (st := (n : Int)) (ops := (m : Int)))
  obtain ⟨W4, hW4⟩ : ∃ W4, W3.alloc (.cells #[.int .i64 (n : Int), .int .i64 (m : Int), .slice none 0 0, .slice none 0 0] 24) = W4 := ⟨_, rfl⟩
  rw [hW4] at hbl0 ⊢
  have HB0 := hid hbl0; clear hbl0
  clear hW0 hW1 hW2 hW3 hW4 r0 r1 r2 r3
  have g23 := grew_trans hx g3
  have E0 := (g23.cell (p := ⟨W0.heap.size, 0, none⟩) hz3).trans e0
  have hzc : W0.heap.size < W3.heap.size := Nat.lt_of_lt_of_le hz3 g23.size
  have T1' := hid (T1.out.grew g23); have T2' := hid (T2.out.grew g23)
  have hb1 := T1'.out.1; have hb2 := T2'.out.1
  clear hc hcf e0
  go_loopg [32] n (fun g i wr => ∃ (k : Nat) (nv sv : Value), k ≤ n ∧ i = .int .i64 k ∧ g = n - k ∧ Hid (Built W3 wr n m nv sv ((List.range k).map (begunN s c)) ((List.range k).map (begunY s c))))
  case atStart => exact ⟨0, _, _, Nat.zero_le _, rfl, rfl, HB0⟩
  case round =>
    obtain ⟨k, tv, uv, hk, rfl, hgk, HB⟩ := hrel
    have HG := hid hgk; clear hgk
    by_cases hlt : k < n
    · have hxx := exch_in (x := (k : Int)) (c := c) (st := (n : Int)) (by omega) (by have := HCI.out; have := HST.out; omega)
      obtain ⟨x, hx⟩ : ∃ x : Nat, exchM (k : Int) c = x := ⟨(exchM (k : Int) c).toNat, by omega⟩
      have hB := HB.out
      obtain ⟨ta, tc, htv⟩ := hB.next.shape
      obtain ⟨ua, uc, huv⟩ := hB.says.shape
      rw [List.length_map, List.length_range] at htv huv
      subst htv; subst huv
      obtain ⟨p0, p1, p2, p3, pf, hzb⟩ := hB.cells
      have gB := hB.grew
      have hcB := (bcell gB).1
      clear hB
      have hxn : x < n := by omega
      clear hxx
      obtain ⟨br, offr, cr, hr, hrb, hrc⟩ := T1'.out.2 x hxn
      have hname : ∀ y : Later wr, Calls Try.prog 59 #[.int .i64 (k : Int), .pointer (some ⟨W0.heap.size, 0, none⟩)] y.1 fun e w' => e = .returned (.int .i64 (x : Int)) ∧ Grew y.1 w' := fun y => by
        refine (name_any k c W0.heap.size y.1 (((grew_trans gB y.2).cell (p := ⟨W0.heap.size, 0, none⟩) hzc).trans E0)).mono ?_
        rintro e w' ⟨rfl, rfl⟩
        exact ⟨by rw [hx], grew_refl _⟩
      have HNAME := hid hname; clear hname
      have HRC := hid hrc; clear hrc
      have HX := hid hx; clear hx
      have hlts : ∀ b, b < W3.heap.size → b < wr.heap.size := fun b h => Nat.lt_of_lt_of_le h gB.size
      have d2 := (gB.cell (p := ⟨w1.heap.size, 2, none⟩) hz4).trans k2
      have d3 := (gB.cell (p := ⟨w1.heap.size, 3, none⟩) hz4).trans k3
      have dr := (gB.cell (p := ⟨b1, off1 + x, none⟩) hb1).trans hr
      have hzb1 := hlts _ hb1
      have hz4' := hlts _ hz4
      clear hlts hcB hr p0 p1 p2 p3 pf
      go_wp2
      refine wp_region_later (by kernel_rfl) (by kernel_rfl) (fun hL => ?_)
      repeat (go_big_quiet_step ((first | (exact calls_later (HNAME.out _)))))
      refine wpQuiet_nil ?_
      rintro wy ⟨y, hy⟩
      have hwy : Grew wr wy := by rw [hy]; exact y.2
      clear hL hy y

      go_wp2
      obtain ⟨wo, rfl⟩ : ∃ wo : World, wo = wr := ⟨_, rfl⟩
      clear d2 d3 dr hzb1 hz4' hzb
      go_loopg [11, 43] m (fun g u i wi => ∃ j : Nat, j ≤ m ∧ i = .int .i64 j ∧ Hid (g = m - j) ∧ Grew wy wi ∧ Seg wi wy.heap.size 3 1 u j ((((nthL s.next x).take j).map (fun x => exchM x c)).map (.int .i64)))
      case atStart => exact ⟨0, Nat.zero_le _, rfl, hid rfl, grew_refl _, by simpa using Seg.nil _ _ _ _⟩
      case round =>
        obtain ⟨j, hj, rfl, HGI, hg, hseg⟩ := hrel
        obtain ⟨sa, sc, rfl, _⟩ := hseg.shape
        have gI := grew_trans gB (grew_trans hwy hg)
        have hsz := hg.size
        by_cases hjm : j < m
        · have hcj := (gI.cell (p := ⟨br, offr + j, none⟩) hrb).trans (HRC.out j hjm)
          have hci := (gI.cell (p := ⟨W0.heap.size, 0, none⟩) hzc).trans E0
          have hname := name_any (nth (nthL s.next x) j) c W0.heap.size wr hci
          have HNM := hid hname; clear hname
          have htk : (nthL s.next x).take (j + 1) = (nthL s.next x).take j ++ [nth (nthL s.next x) j] := take_succ_nth (by rw [HR1.out x hxn]; exact hjm)
          have HTK := hid htk; clear htk
          go_wp2_with (first | (with_reducible refine (show Calls _ _ _ _ _ from HNM.out).mono ?_; rintro e w5 ⟨rfl, rfl⟩) | (at_builtin; refine wpList_append_one rfl _ _ 34 rfl wy.heap.size 3 Try.underlying34 Try.info3 rfl (by decide) _ (j) _ rfl (hseg.alloc _) _ _ _ rfl (one_new _ _ _) rfl (by omega) ?_ ?_; (simp only [World.size_alloc]; omega); intro v1 w1 hown1 hgrow1 hblk1; have hg1 := (hg.alloc hg.size _).grown hgrow1 (hg.alloc hg.size _).size (fun k e => (hseg.own k e).1); have hc1 := (bcell hg1).1; clear hgrow1))
          go_roundg (m - (j + 1))
          case measure => have := HGI.out; omega
          case rel =>
            refine ⟨j + 1, by omega, by go_num, hid rfl, hg1, ?_⟩
            rw [HTK.out, List.map_append, List.map_append]; exact hown1
        · obtain rfl : m = j := by omega
          have hN : ((List.range k).map (begunN s c)).length = k := by rw [List.length_map, List.length_range]
          have hY : ((List.range k).map (begunY s c)).length = k := by rw [List.length_map, List.length_range]
          have HN := hid hN; have HY := hid hY; clear hN hY
          have hBi := HB.out.grown (grew_trans hwy hg)
          obtain ⟨p0, p1, p2, p3, pf, hzb⟩ := hBi.cells
          obtain ⟨Vs, hVs, hV⟩ := hBi.next
          rw [List.length_map, List.length_range] at hVs hV
          have HV1 := hid hV; clear hV
          have HBI := hid hBi; clear hBi
          have hk9 : k < 1000000000 := by omega
          obtain ⟨wi, rfl⟩ : ∃ wi : World, wi = wr := ⟨_, rfl⟩
          go_wp2_with (at_builtin; refine wpList_append_one rfl _ _ 22 rfl (W3.heap.size + 1) 34 Try.underlying22 Try.info34 rfl (by decide) _ k _ rfl (hVs.alloc _) _ _ _ rfl (one_new _ _ _) rfl hk9 ?_ ?_; (simp only [World.size_alloc]; omega); intro v1 w5 hown1 hgrow1 hblk1; obtain ⟨a1, c1', rfl, _⟩ := hown1.shape; obtain ⟨-, hobj1, -⟩ := HBI.out.after (T := (List.range k).map (begunN s c)) (v' := .slice a1 (k + 1) c1') 2 (grew_alloc (grew_refl wi) _) (by rw [HN.out]; exact hVs) hgrow1; obtain ⟨y0, y1, y2, y3, yf, hzy⟩ := cells4 hobj1; obtain ⟨w6, hw6⟩ : ∃ w6, w5.setCell ⟨W3.heap.size, 2, none⟩ (.slice a1 (k + 1) c1') = w6 := ⟨_, rfl⟩)
          have hrowk : IsInts (IntObj 3) (wi.alloc (.cells #[Value.slice sa m sc] 34)) (.slice sa m sc) (begunN s c k) := by
            have h := (Reads.mono hseg.isInts (S' := IntObj 3) (fun k o ⟨_, cur, ho⟩ => ⟨cur, _, ho⟩)).grew (grew_alloc (grew_refl wi) (.cells #[Value.slice sa m sc] 34))
            have he : ((nthL s.next x).take m).map (fun x => exchM x c) = begunN s c k := by
              unfold begunN
              rw [HX.out, Int.toNat_natCast, List.take_of_length_le (by rw [HR1.out x hxn]; exact Nat.le_refl _)]
            rw [he] at h
            exact h
          have hB6 := HBI.out.next_snoc (v' := .slice a1 (k + 1) c1') (Vs := Vs) (row := begunN s c k) (grew_alloc (grew_refl wi) _) (by rw [HN.out]; exact hVs) (by rw [HN.out]; exact HV1.out) (by rw [HN.out]; exact hown1) hgrow1
            (hblk1.imp id (fun h => ⟨_, h, by simp⟩)) hrowk
          rw [hw6, ← range_snoc] at hB6
          obtain ⟨f0, f1, f2, f3, ff, hz6⟩ := hB6.cells
          have g36 := hB6.grew
          obtain ⟨Vs2, hVs2, hV2⟩ := hB6.says
          rw [HY.out] at hVs2 hV2
          have HV2 := hid hV2; have HB6 := hid hB6
          clear hw6 hV2 hB6 hrowk y0 y1 y2 y3 yf hzy hobj1 hgrow1 hblk1 hown1 hVs HV1 p0 p1 p2 p3 pf hzb hseg hg HBI gI hwy hsz w5
          obtain ⟨bs, offs, cs, hs2, hsb, hsc⟩ := T2'.out.2 x hxn
          have hread : Reads Any W3 (.slice (some ⟨bs, offs, none⟩) m cs) m (fun i => .int .i64 (nth (nthL s.says x) i)) := ⟨_, _, rfl, by omega, fun i hi => ⟨bs, offs, _, rfl, Array.getElem?_eq_getElem hsb, trivial, hsc i hi⟩⟩
          have HREAD := hid hread; clear hread hsc
          have hS : ∀ w', Grew W3 w' → Grew W3 w' ∧ w'.cell? ⟨w1.heap.size, 3, none⟩ = some (.slice (some ⟨b2, off2, none⟩) n c2) ∧ w'.cell? ⟨b2, off2 + x, none⟩ = some (.slice (some ⟨bs, offs, none⟩) m cs) :=
            fun w' hg => ⟨hg, (hg.cell (p := ⟨w1.heap.size, 3, none⟩) hz4).trans k3, (hg.cell (p := ⟨b2, off2 + x, none⟩) hb2).trans hs2⟩
          have HS16 := hid hS; clear hS
          have hname : ∀ y, Grew W3 y → Calls Try.prog 59 #[.int .i64 (k : Int), .pointer (some ⟨W0.heap.size, 0, none⟩)] y fun e w' => e = .returned (.int .i64 (x : Int)) ∧ w' = y := fun y hy => by
            refine (name_any k c W0.heap.size y ((hy.cell (p := ⟨W0.heap.size, 0, none⟩) hzc).trans E0)).mono ?_
            rintro e w' ⟨rfl, rfl⟩
            exact ⟨by rw [HX.out], rfl⟩
          have HNM := hid hname; clear hname
          have hgd : Grew W3 w6.drew := grew_drew g36
          have x0 : (0 : Int) ≤ (x : Int) := by omega
          have x1 : (x : Int) < (n : Int) := by omega
          have fl3 := (hgd.cell (p := ⟨w1.heap.size, 3, none⟩) hz4).trans k3
          have fl4 := (hgd.cell (p := ⟨b2, off2 + x, none⟩) hb2).trans hs2
          go_region_law (first
              | (refine step_append_one (by rfl) _ _ 22 (by rfl) (W3.heap.size + 1) 34 Try.underlying22 Try.info34 rfl (by decide) _ k _ (by rfl) ((hVs2.grew hg67).alloc _) w7.heap.size _ _ (by rfl) (one_new _ _ _) rfl (by omega) (by simp; omega) ?_; intro v8 w8 hown8 hgrow8 hblk8; obtain ⟨a8, c8, rfl, _⟩ := hown8.shape; obtain ⟨-, hobj8, hG8⟩ := HB7.out.after (T := (List.range k).map (begunY s c)) (v' := .slice a8 (k + 1) c8) 3 (grew_alloc (grew_refl w7) _) (by rw [HY.out]; exact hVs2.grew hg67) hgrow8; obtain ⟨y0, y1, y2, y3, yf, hzy⟩ := cells4 hobj8)
              | (go_simp; go_at_call 59; with_reducible refine (HNM.out _ hgd).mono ?_; rintro e w7 ⟨rfl, rfl⟩)
              | (go_simp; go_at_call 60; refine (clone_any _ m _ _ (by omega) (HREAD.out.grew hgd) (fun i => rfl)).mono ?_; rintro e w7 ⟨cv, rfl, hseg7, hg7⟩; obtain ⟨a7, c7, rfl, _⟩ := hseg7.shape; have hg67 : Grew w6 w7 := grew_trans (grew_drew (grew_refl w6)) hg7; have hG7 := grew_trans g36 hg67; have hB7 := HB6.out.grown hg67; obtain ⟨e0, e1, e2, e3, ef, ez7⟩ := hB7.cells; have HB7 := hid hB7; clear hB7))
          all_goals
            have hrow8 : IsInts (IntObj 3) (w7.alloc (.cells #[.slice a7 m c7] 34)) (.slice a7 m c7) (begunY s c k) := by
              have hl := HR2.out x hxn
              have he : (List.range m).map (fun i => Value.int .i64 (nth (nthL s.says x) i)) = (begunY s c k).map (.int .i64) := by
                unfold begunY
                rw [HX.out, Int.toNat_natCast, ← hl]
                apply List.ext_getElem (by simp)
                intro i h1 h2
                simp at h1
                simp [nth_lt h1]
              rw [he] at hseg7
              exact (Reads.mono hseg7.isInts (S' := IntObj 3) (fun k o ⟨_, cur, ho⟩ => ⟨cur, _, ho⟩)).grew (grew_alloc (grew_refl w7) _)
            have hB9 := HB7.out.says_snoc (v' := .slice a8 (k + 1) c8) (Vs := Vs2) (row := begunY s c k) (grew_alloc (grew_refl w7) _) (by rw [HY.out]; exact hVs2.grew hg67) (by rw [HY.out]; exact fun i hi => let ⟨u, h1, h2⟩ := HV2.out i hi; ⟨u, h1, h2.grew hg67⟩)
              (by rw [HY.out]; exact hown8) hgrow8 (hblk8.imp id (fun h => ⟨_, h, by simp⟩)) hrow8
            rw [← range_snoc] at hB9
            have HB9 := hid hB9
            clear hB9 hrow8 hgrow8 hblk8 hown8 hseg7
            go_wp2
            go_roundg (n - (k + 1))
            case measure => have := HG.out; omega
            case rel => exact ⟨k + 1, _, _, by omega, by go_num, rfl, HB9⟩
    · obtain rfl : n = k := by omega
      have hB := HB.out
      obtain ⟨ta, tc, htv⟩ := hB.next.shape
      obtain ⟨ua, uc, huv⟩ := hB.says.shape
      subst htv; subst huv
      obtain ⟨p0, p1, p2, p3, pf, hzb⟩ := hB.cells
      have gB := hB.grew
      have hzw : W1.heap.size < wr.heap.size := by have := gB.size; have := g23.size; omega
      have hobj := ((grew_trans g23 gB).block _ hz2).trans HOBJ.out
      obtain ⟨y0, y1, y2, y3, yf, hzy⟩ := cells4 hobj
      have HOB := hid hobj
      clear hobj hB
      go_wp2
      have hset := fun w' => set4 (w' := w') (c := #[.int .i64 0, .int .i64 0, .slice none 0 0, .slice none 0 0]) rfl (.int .i64 (n : Int)) (.int .i64 (m : Int)) (.slice ta ((List.range n).map (begunN s c)).length tc) (.slice ua ((List.range n).map (begunY s c)).length uc) HOB.out
      have hkp := fun w' => keeps_set4 (w' := w') (.int .i64 (n : Int)) (.int .i64 (m : Int)) (.slice ta ((List.range n).map (begunN s c)).length tc) (.slice ua ((List.range n).map (begunY s c)).length uc) HOB.out
      simp only [List.length_map, List.length_range] at hset hkp ⊢
      have hgr : Grew w ((((wr.setCell ⟨W1.heap.size, 0, none⟩ (.int .i64 (n : Int))).setCell ⟨W1.heap.size, 1, none⟩ (.int .i64 (m : Int))).setCell ⟨W1.heap.size, 2, none⟩ (.slice ta n tc)).setCell ⟨W1.heap.size, 3, none⟩ (.slice ua n uc)) := by
        have h := grew_trans g02 (grew_trans g23 gB)
        have hb : w.heap.size ≤ W1.heap.size := Nat.le_trans g0.size g1.size
        repeat' (first | assumption | refine Below.setCell ?_ (by (try simp); omega) _)
      generalize hw8 : (((wr.setCell ⟨W1.heap.size, 0, none⟩ (.int .i64 (n : Int))).setCell ⟨W1.heap.size, 1, none⟩ (.int .i64 (m : Int))).setCell ⟨W1.heap.size, 2, none⟩ (.slice ta n tc)).setCell ⟨W1.heap.size, 3, none⟩ (.slice ua n uc) = w8 at hgr ⊢
      obtain ⟨hobj8, hsz8⟩ := hset w8 hw8
      have hkp8 := hkp w8 hw8
      obtain ⟨d0, d1, d2, d3, -, hd⟩ := cells4 hobj8
      clear hset hkp
      refine bodyPost_ret (v := .tuple #[.agg #[.int .i64 (n : Int), .int .i64 (m : Int), .slice ta n tc, .slice ua n uc], .int .i64 0]) ?_ rfl ?_
      · simp [results, Try.results18, go_sem, d0, d1, d2, d3]
      · refine ⟨_, rfl, ?_, hgr⟩
        have h := HB.out.isSpec_keeps hkp8
        simp only [List.length_map, List.length_range] at h
        unfold begunM
        rw [HST.out, HOPS.out, Int.toNat_natCast]
        exact h

set_option maxHeartbeats 2000000 in
theorem begun_bad (s : RSpec) (c : Int) (sv : Value) (w : World) (hs : IsSpec w sv s) (hbad : askedM s c c ≠ 0) :
    Calls Try.prog 18 #[sv, .int .i64 c] w fun e w' => e = .returned (.tuple #[zeroSpec, .int .i64 (askedM s c c)]) ∧ Grew w w' := by
  have HS := hs
  obtain ⟨nv, yv, rfl, hn, hy⟩ := hs
  obtain ⟨W0, hW0, g0, k0, k1, k2, k3, hz⟩ := box4 w (.int .i64 s.st) (.int .i64 s.ops) nv yv 24
  obtain ⟨W1, hW1, g1, l0, hz1⟩ := box1 W0 (.int .i64 c) 3
  have hobj2 := heap_alloc_new W1 (.cells #[.int .i64 0, .int .i64 0, .slice none 0 0, .slice none 0 0] 24)
  obtain ⟨W2, hW2, g2, q0, q1, q2, q3, hz2, qf⟩ := boxf4 W1 (.int .i64 0) (.int .i64 0) (.slice none 0 0) (.slice none 0 0) 24
  rw [hW2] at hobj2
  have HOBJ := hid hobj2; clear hobj2
  have g02 := grew_trans g0 (grew_trans g1 g2)
  have e0 := (g2.cell (p := ⟨W0.heap.size, 0, none⟩) hz1).trans l0
  have r0 := ((grew_trans g1 g2).cell (p := ⟨w.heap.size, 0, none⟩) hz).trans k0
  have r1 := ((grew_trans g1 g2).cell (p := ⟨w.heap.size, 1, none⟩) hz).trans k1
  have r2 := ((grew_trans g1 g2).cell (p := ⟨w.heap.size, 2, none⟩) hz).trans k2
  have r3 := ((grew_trans g1 g2).cell (p := ⟨w.heap.size, 3, none⟩) hz).trans k3
  clear k0 k1 k2 k3
  have hg := grew_refl W2
  have hop : Calls Try.prog 56 #[.agg #[.int .i64 s.st, .int .i64 s.ops, nv, yv], .func (.func 57) #[] #[.pointer (some ⟨W0.heap.size, 0, none⟩)]] W2 fun e w' => e = .returned (.tuple #[zeroSpec, .int .i64 (askedM s c c)]) ∧ Grew W2 w' := by
    cases hv : validM s with
    | false => rw [show askedM s c c = 10 by unfold askedM; rw [hv]; rfl]; exact opened_bad s _ _ _ (HS.grew g02) hv
    | true =>
      cases hi : inM s.st c with
      | true => exact absurd (by unfold askedM; rw [hv, hi]; rfl) hbad
      | false =>
        rw [show askedM s c c = 2 by unfold askedM; rw [hv, hi]; rfl]
        obtain ⟨⟨b1, b2, _, _⟩, _⟩ := valid_parts hv
        have := begun1_any s _ _ c W2 b1 b2 (HS.grew g02) e0
        rw [hi] at this
        exact opened_arg s _ _ _ _ (HS.grew g02) hv entered57 this
  obtain ⟨ev, hev⟩ : ∃ ev, askedM s c c = ev := ⟨_, rfl⟩
  rw [hev] at hop hbad ⊢
  have hb : (ev != 0) = true := by simpa using hbad
  have HOP := hid hop; clear hop hev hbad
  have hz0 : w.heap.size < W2.heap.size := by have := g1.size; have := g2.size; omega
  have hz3 : W0.heap.size < W2.heap.size := by have := g2.size; omega
  go_enter Try.func18, Try.ntmps18
  go_wp2_with (go_at_call 56; with_reducible refine HOP.out.mono ?_; rintro e w1 ⟨rfl, hx⟩; replace hg := grew_trans hg hx; obtain ⟨hc, hcf⟩ := bcell hg; have hlt1 : W1.heap.size < w1.heap.size := Nat.lt_of_lt_of_le hz2 hx.size)
  (try simp only [Exit.inBlock, Exit.then])
  have hset := fun w' => set4 (w' := w') (c := #[.int .i64 0, .int .i64 0, .slice none 0 0, .slice none 0 0]) rfl (.int .i64 0) (.int .i64 0) (.slice none 0 0) (.slice none 0 0) ((hx.block _ hz2).trans HOBJ.out)
  have hgr : Grew w ((((w1.setCell ⟨W1.heap.size, 0, none⟩ (.int .i64 0)).setCell ⟨W1.heap.size, 1, none⟩ (.int .i64 0)).setCell ⟨W1.heap.size, 2, none⟩ (.slice none 0 0)).setCell ⟨W1.heap.size, 3, none⟩ (.slice none 0 0)) := (by repeat' (first | exact grew_refl _ | assumption | refine grew_alloc ?_ _ | refine Below.setCell ?_ (by (try simp); omega) _ | refine grew_drewN ?_ _ | refine grew_drew ?_ | refine grew_trans ?_ (by assumption)))
  generalize hw8 : (((w1.setCell ⟨W1.heap.size, 0, none⟩ (.int .i64 0)).setCell ⟨W1.heap.size, 1, none⟩ (.int .i64 0)).setCell ⟨W1.heap.size, 2, none⟩ (.slice none 0 0)).setCell ⟨W1.heap.size, 3, none⟩ (.slice none 0 0) = w8 at hgr ⊢
  obtain ⟨hobj, hsz⟩ := hset w8 hw8
  obtain ⟨d0, d1, d2, d3, -, hd⟩ := cells4 hobj
  clear hset
  refine bodyPost_ret (v := .tuple #[zeroSpec, .int .i64 ev]) ?_ rfl ?_
  · simp [results, Try.results18, go_sem, d0, d1, d2, d3, hd]
  · exact ⟨rfl, grew_alloc hgr _⟩
end Go.Proofs.Ytnebpcpihldllaa
