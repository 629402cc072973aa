/- Law: TopKeep (10). -/
import Derived.Test.YtmohnddglmolgaaGreatDoorKpTopS
import Derived.Test.YtmohnddglmolgaaGreatDoorKpTopV
import Derived.Test.YtmohnddglmolgaaGreatDoorKpDec
import Derived.Test.YtmohnddglmolgaaGreatDoorKpSays
import Derived.Deep.RegionLaw
import Derived.Deep.RegionHeld3
namespace Go.Lin.Kp
open Go Go.Lin

/-- The line of a deed. -/
def lineD (k n : Nat) : List UInt8 := if k = 0 then wAdd ++ 32 :: Lib.decDigits n else wChange ++ 32 :: (Lib.decDigits k ++ 32 :: Lib.decDigits n)

theorem scr_deed {A : Bk → List UInt8 → List UInt8 × Int} {ls want : List (List UInt8)} {M : Mem} {b : Bk} (h : Scr A ls want M b) {k n : Nat} (hk : k < 10000) (hn : n < 10000) :
    Scr A (ls ++ [lineD k n]) (want ++ [ansT (doD M b k n).1]) (doD M b k n).2.2 (doD M b k n).2.1 := by
  unfold lineD
  by_cases h0 : k = 0
  · subst h0; rw [if_pos rfl]; exact scr_add h hn
  · rw [if_neg h0]; exact scr_change h hk hn h0

theorem full_deed {M : Mem} {b : Bk} {l : List Int} (h : Fine M b l) {n : Int} (hn : isNum n = true) (h20 : l.length = 20) : doD M b 0 n = (4, b, M) := by
  have ha := asked_fine h n
  rw [hn, if_pos rfl] at ha
  unfold doD Mem.add
  rw [if_pos rfl, if_pos ha, if_pos (by rw [h.list]; exact h20)]

theorem err4 : errT 4 = [101, 114, 114, 111, 114, 32, 52] := by
  have : Lib.itoa 4 = [52] := by
    have h : Lib.itoa 4 = Lib.decDigits 4 := rfl
    rw [h, Lib.decDigits_one (by decide)]; rfl
  unfold errT; rw [this]; rfl

theorem early_two {c : Nat} (hc : c < 64) : areEarly [(c : Int), 0] = true := by
  unfold areEarly isCell
  simp; omega

theorem sm_ask (b : Bk) (s : List UInt8) : Sm (askA b s).2 := by
  unfold askA sizeA saysA Sm
  split
  · split
    · exact ⟨show (0 : Int) ≤ 4 by decide, show (4 : Int) ≤ 1000 by decide⟩
    · exact ⟨show (0 : Int) ≤ 0 by decide, show (0 : Int) ≤ 1000 by decide⟩
  · split
    · exact ⟨show (0 : Int) ≤ 0 by decide, show (0 : Int) ≤ 1000 by decide⟩
    · split
      · exact ⟨show (0 : Int) ≤ 0 by decide, show (0 : Int) ≤ 1000 by decide⟩
      · exact ⟨show (0 : Int) ≤ 100 by decide, show (100 : Int) ≤ 1000 by decide⟩

theorem ask_count (b : Bk) : askA b wCount = (Lib.itoa (b.list.length : Int), 0) := by
  unfold askA wCount
  rw [if_neg (by decide), if_neg (by decide), if_pos rfl]

end Go.Lin.Kp
namespace Go.Proofs.YtmohnddglmolgaaGreatDoor
open Go Go.RowKit Go.Lin Go.Lin.Kp

/-- A text as its bytes. -/
abbrev tx (l : List UInt8) : ByteArray := ⟨l.toArray⟩

theorem tx_size (l : List UInt8) : (tx l).size = l.length := by simp [ByteArray.size]

theorem pair_new0 (w : World) (a b : Value) (t : TypeId) : (w.alloc (.cells #[a, b] t)).cell? ⟨w.heap.size, 0, none⟩ = some a := by simp
theorem pair_new1 (w : World) (a b : Value) (t : TypeId) : (w.alloc (.cells #[a, b] t)).cell? ⟨w.heap.size, 1, none⟩ = some b := by simp

theorem map_bytesOf (ls : List ByteArray) : (bytesOf ls).map bA = ls := by
  unfold bytesOf
  rw [List.map_map]
  conv => rhs; rw [← List.map_id ls]
  apply List.map_congr_left; intro x _
  apply ByteArray.ext; simp [bA]

theorem cat_run (a b : List UInt8) (h : a.length + b.length ≤ 1000) (W : World) : (Op.stringOp .add (tx a) (tx b)).run Tryz.prog W = .ok (.string (tx (a ++ b))) W := by
  have h1 := tx_size a
  have h2 := tx_size b
  rw [run_string_add_sum (P := Tryz.prog) W _ _ (by rw [h1, h2]; omega)]
  exact congrArg (fun z => Result.ok (Value.string z) W) (cat_bytes a b)

theorem failLine (s c : Nat) (hs : s < 1000) (hc : c < 1000) : ∃ sk sc t1 t2 t3 X : ByteArray, tx (Lib.decDigits (1 + s)) = sk ∧ tx (Lib.decDigits c) = sc ∧
    (∀ W, (Op.stringOp .add ⟨#[102, 97, 105, 108, 32]⟩ sk).run Tryz.prog W = .ok (.string t1) W) ∧ (∀ W, (Op.stringOp .add t1 ⟨#[32]⟩).run Tryz.prog W = .ok (.string t2) W) ∧ (∀ W, (Op.stringOp .add t2 sc).run Tryz.prog W = .ok (.string t3) W) ∧ (∀ W, (Op.stringOp .add t3 ⟨#[44, 48]⟩).run Tryz.prog W = .ok (.string X) W) ∧
    X.data.toList = wFail ++ 32 :: (Lib.decDigits (1 + s) ++ 32 :: (Lib.decDigits c ++ [44, 48])) ∧ X.size ≤ 100 := by
  have l1 := dec_len (1 + s) (by omega)
  have l2 := dec_len c (by omega)
  refine ⟨_, _, _, _, _, _, rfl, rfl, fun W => cat_run [102, 97, 105, 108, 32] _ (by simp; omega) W, fun W => cat_run _ [32] (by simp; omega) W, fun W => cat_run _ _ (by simp; omega) W, fun W => cat_run _ [44, 48] (by simp; omega) W, ?_, ?_⟩
  · simp [wFail]
  · rw [tx_size]; simp; omega

theorem changeLine (a n : Nat) (ha : a < 10000) (hn : n < 10000) : ∃ sa sn t1 t2 X : ByteArray, tx (Lib.decDigits a) = sa ∧ tx (Lib.decDigits n) = sn ∧
    (∀ W, (Op.stringOp .add ⟨#[99, 104, 97, 110, 103, 101, 32]⟩ sa).run Tryz.prog W = .ok (.string t1) W) ∧ (∀ W, (Op.stringOp .add t1 ⟨#[32]⟩).run Tryz.prog W = .ok (.string t2) W) ∧ (∀ W, (Op.stringOp .add t2 sn).run Tryz.prog W = .ok (.string X) W) ∧
    X.data.toList = wChange ++ 32 :: (Lib.decDigits a ++ 32 :: Lib.decDigits n) ∧ X.size ≤ 100 := by
  have l1 := dec_len a ha
  have l2 := dec_len n hn
  refine ⟨_, _, _, _, _, rfl, rfl, fun W => cat_run [99, 104, 97, 110, 103, 101, 32] _ (by simp; omega) W, fun W => cat_run _ [32] (by simp; omega) W, fun W => cat_run _ _ (by simp; omega) W, ?_, ?_⟩
  · simp [wChange]
  · rw [tx_size]; simp; omega

theorem addLine (n : Nat) (hn : n < 10000) : ∃ sn X : ByteArray, tx (Lib.decDigits n) = sn ∧ (∀ W, (Op.stringOp .add ⟨#[97, 100, 100, 32]⟩ sn).run Tryz.prog W = .ok (.string X) W) ∧
    X.data.toList = wAdd ++ 32 :: Lib.decDigits n ∧ X.size ≤ 100 := by
  have l2 := dec_len n hn
  refine ⟨_, _, rfl, fun W => cat_run [97, 100, 100, 32] _ (by simp; omega) W, ?_, ?_⟩
  · simp [wAdd]
  · rw [tx_size]; simp; omega

set_option maxHeartbeats 40000000 in
set_option maxRecDepth 20000 in
theorem top10_any (nv lv : Value) (ns : List Int) (ts : List (Int × Int × Int)) (w : World) (hn : IsU16s w nv ns) (ht : IsTrips w lv ts) (hL : Lay w) :
    Calls Tryz.prog 10 #[nv, lv] w fun e w' => e = .returned (.bool true) ∧ Grew w w' := by
  have HSANE := hid (fun (W : World) (h : Grew w W) => sane12_any W (hL.grew h))
  have HLAY := hid (fun (W : World) (h : Grew w W) => hL.grew h)
  obtain ⟨na, nc, rfl, hnm, hnc⟩ := hn
  obtain ⟨ta, tc, rfl, htm, htc⟩ := ht
  have HNC := hid hnc; have HTC := hid htc
  obtain ⟨n, hnn⟩ : ∃ n, ns.length = n := ⟨_, rfl⟩
  obtain ⟨m, hmm⟩ : ∃ n, ts.length = n := ⟨_, rfl⟩
  have HN := hid hnn; have HM := hid hmm
  rw [hnn] at hnm ⊢
  rw [hmm] at htm ⊢
  clear hnc htc hL hnn hmm
  have HNEW := hid (fun W => new17_any W)
  have HOPN := hid (fun (W : World) (bm : Nat) (F : Nat → Prop) (h : IsMem W bm Mem.new F) => (by have := open41_mem bm Mem.new F W h Ok.new (by decide); rw [show Mem.new.open_ = (some ⟨0, 1, []⟩, 0, { Mem.new with opened := 1 }) by kernel_rfl] at this; exact this : Calls Tryz.prog 41 #[ptr bm] W (OpenLeft W bm F (some ⟨0, 1, []⟩, 0, { Mem.new with opened := 1 }))))
  by_cases hn30 : 30 < n
  · have d1 : decide ((30 : Int) < (n : Int)) = true := by simp; omega
    clear hn30
    go_enter Tryz.func10, Tryz.ntmps10
    go_wp2_with (go_at_call 12; (with_reducible refine (HSANE.out _ (grew_refl _)).mono ?_); rintro e w2 ⟨rfl, hg⟩; have HG2 := hid hg; clear hg)
    go_ret
    exact ⟨rfl, HG2.out⟩
  have d1 : decide ((30 : Int) < (n : Int)) = false := by simp; omega
  by_cases hm30 : 30 < m
  · have d2 : decide ((30 : Int) < (m : Int)) = true := by simp; omega
    clear hn30 hm30
    go_enter Tryz.func10, Tryz.ntmps10
    go_wp2_with (go_at_call 12; (with_reducible refine (HSANE.out _ (grew_refl _)).mono ?_); rintro e w2 ⟨rfl, hg⟩; have HG2 := hid hg; clear hg)
    go_ret
    exact ⟨rfl, HG2.out⟩
  have d2 : decide ((30 : Int) < (m : Int)) = false := by simp; omega
  replace hn30 : n ≤ 30 := by omega
  replace hm30 : m ≤ 30 := by omega
  go_enter Tryz.func10, Tryz.ntmps10
  go_wp2_with (first
    | (go_at_call 17; (with_reducible refine (HNEW.out _).mono ?_); rintro e w2 ⟨rfl, hm1, hg1⟩; have HM1 := hid hm1; have HG2 := hid hg1; clear hm1 hg1)
    | (go_at_call 41; (with_reducible refine (HOPN.out _ _ _ HM1.out).mono ?_); rintro e w3 ⟨hm2, hk2, bb, G, rfl, hb2, hG2⟩; have HM2 := hid hm2; have HK2 := hid hk2; have HB2 := hid hb2; have HGL := hid hG2; clear hm2 hk2 hb2 hG2))
  have hP0 : TopS w w3 (w.heap.size + 1) bb { Mem.new with opened := 1 } ⟨0, 1, []⟩ (fun k => k = w.heap.size ∨ k = w.heap.size + 1) G (.slice none 0 0) (.slice none 0 0) (.slice none 0 0) [] [] [] := by
    have h1s := HG2.out.size
    have hm1 := HM1.out.lt
    have hk := HK2.out
    refine ⟨⟨grew_b HG2.out (hk.below HG2.out.size (fun k _ e => by rcases e with rfl | rfl <;> omega)), ⟨HM2.out, HB2.out, ?_⟩, ?_, ?_⟩, Reads.nil _ _ _ _ _, ⟨Seg.nil _ _ _ _, fun k e => by cases e⟩, ⟨Seg.nil _ _ _ _, fun k e => by cases e⟩, fun k e => by cases e⟩
    · rintro k (e | e) hG <;> (have := HGL.out k hG; omega)
    · rintro k (e | e) <;> omega
    · intro k e; have := HGL.out k e; omega
  have HP0 := hid hP0
  obtain ⟨F, hF⟩ : ∃ F : Nat → Prop, (fun k => k = w.heap.size ∨ k = w.heap.size + 1) = F := ⟨_, rfl⟩
  obtain ⟨bm, hbm⟩ : ∃ x, w.heap.size + 1 = x := ⟨_, rfl⟩
  rw [hF, hbm] at HP0
  (try rw [hbm])
  clear hP0 hbm hF HM1 HM2 HK2 HB2 HGL HG2 HNEW HOPN
  have HSB := hid same_top
  go_loopg [6, 7, 8, 9, 10, 11, 12, 13, 14, 15, 16, 17, 18, 153, 164, 169, 177] n (fun gk bv ev nv lv wv iv _ _ _ _ _ _ _ _ _ _ _ wr => ∃ (j : Nat) (M : Mem) (b : Bk) (bb : Nat) (F G : Nat → Prop) (l : List Int) (ls ws : List ByteArray), j ≤ n ∧ iv = .int .i64 (j : Int) ∧ bv = ptr bb ∧ Hid (gk = n - j) ∧ Hid (M.size ≤ 1 + 40 * j) ∧ Hid (ls.length ≤ 3 * j) ∧ Hid (∀ x ∈ ls, x.size ≤ 100) ∧ Hid (Fine M b l) ∧ Hid (Scr askA (bytesOf ls) (bytesOf ws) M b) ∧ Hid (TopS w wr bm bb M b F G nv lv wv l ls ws))
  case atStart => exact ⟨0, _, _, bb, F, G, [], [], [], Nat.zero_le _, rfl, rfl, hid rfl, hid (by decide), hid (by simp), hid (by simp), hid fine_new, hid (scr_new askA), HP0⟩
  case round =>
    clear HP0
    obtain ⟨j, M, b, bb, F, G, l, ls, ws, hj, rfl, rfl, HGK, HSZ, HLL, HLS, HFN, HSC, HP⟩ := hrel
    rename World => wr
    obtain ⟨la, lc, rfl, -⟩ := HP.out.lines.1.shape
    obtain ⟨wa, wc, rfl, -⟩ := HP.out.want.1.shape
    obtain ⟨pa, pc, rfl, -⟩ := id HP.out.now
    have HL20 := hid (show l.length ≤ 20 by rw [← HFN.out.list]; exact HFN.out.bk.1)
    have HWL := hid (show ws.length = ls.length by have h := scr_len HSC.out; rw [show (bytesOf ws).length = ws.length by simp [bytesOf], show (bytesOf ls).length = ls.length by simp [bytesOf]] at h; exact h)
    have HWB := hid (show ws.length ≤ 100 by have := HWL.out; have := HLL.out; omega)
    by_cases hlt : j < n
    · have hjl : j < ns.length := by rw [HN.out]; exact hlt
      obtain ⟨nb, no, rfl, hnb, hcell, hbnd⟩ := HNC.out j hjl
      obtain ⟨x, hx⟩ : ∃ x, nth ns j = x := ⟨_, rfl⟩
      rw [hx] at hcell hbnd
      have HBX := hid hbnd
      obtain ⟨u, hu, hu9⟩ : ∃ u : Nat, x.tmod 1000 = (u : Int) ∧ u < 1000 := ⟨(x.tmod 1000).toNat, by rw [Int.tmod_eq_emod_of_nonneg hbnd.1]; omega, by rw [Int.tmod_eq_emod_of_nonneg hbnd.1]; omega⟩
      have hwx : IntKind.i64.wrap x = x := IntWalk.i64_in _ (by omega)
      obtain ⟨par, hpar⟩ : ∃ p, x.tmod 2 = p := ⟨_, rfl⟩
      have HU9 := hid hu9
      have HX0 := hid (fun (W : World) (h : Grew w W) => (h.cell (p := ⟨nb, no + j, none⟩) hnb).trans hcell)
      have y0 := HX0.out wr HP.out.q.grew
      (try simp only at y0)
      clear hx hbnd hcell hnb hjl hu9
      go_upto_region 13 with fail
      go_cut [65] from 41 to 200 (fun av wx => ∃ a : Bool, av = .bool a ∧ Hid (a = true → j < m) ∧ wx = wr)
      case first =>
        rcases (show m ≤ j ∨ j < m by omega) with hmj | hmj
        · have dq : decide ((j : Int) < (m : Int)) = false := by simp; omega
          go_wp2_with fail
          go_meet
          exact ⟨false, rfl, hid (fun h => by cases h), rfl⟩
        · have dq : decide ((j : Int) < (m : Int)) = true := by simp; omega
          have hjm : j < ts.length := by rw [HM.out]; exact hmj
          obtain ⟨⟨x0, x1, x2⟩, hx⟩ : ∃ x, ts[j]? = some x := ⟨_, List.getElem?_eq_getElem hjm⟩
          obtain ⟨tb, tof, rfl, htb, h0, h1, h2, hb0, hb1, hb2⟩ := HTC.out j _ hx
          have z0 := (HP.out.q.grew.cell (p := ⟨tb, tof + j * 3, none⟩) htb).trans h0
          simp only at z0
          obtain ⟨p, hp⟩ : ∃ p, x0.tmod 3 = p := ⟨_, rfl⟩
          have HMJ := hid hmj
          clear hx h0 h1 h2 hb0 hb1 hb2 hjm hmj
          by_cases hp0 : p = 0
          · have e0 : (p == 0) = true := by rw [beq_iff_eq]; exact hp0
            clear hp0
            go_wp2_with fail
            go_meet
            exact ⟨true, rfl, hid (fun _ => HMJ.out), rfl⟩
          · have e0 : (p == 0) = false := by rw [beq_eq_false_iff_ne]; exact hp0
            clear hp0
            go_wp2_with fail
            go_meet
            exact ⟨false, rfl, hid (fun h => by cases h), rfl⟩
      case rest =>
        obtain ⟨a, rfl, HA, rfl⟩ := hcut
        rename World => wr
        go_upto_if 65 with fail
        go_cut [9, 10, 13, 14] from 41 to 200 (fun lv wv _ _ wx => ∃ (MA : Mem) (FA : Nat → Prop) (lsA wsA : List ByteArray), Hid (MA.size = M.size) ∧ Hid (lsA.length ≤ 3 * j + 1) ∧ Hid (∀ x ∈ lsA, x.size ≤ 100) ∧ Hid (Fine MA b l) ∧ Hid (Scr askA (bytesOf lsA) (bytesOf wsA) MA b) ∧ Hid (TopS w wx bm bb MA b FA G (.slice pa l.length pc) lv wv l lsA wsA))
        case first =>
          cases a
          · go_wp2_with fail
            go_meet
            exact ⟨M, F, ls, ws, hid rfl, hid (by have := HLL.out; omega), HLS, HFN, HSC, HP⟩
          · have hmj := HA.out (by first | rfl | trivial)
            have hjm : j < ts.length := by rw [HM.out]; exact hmj
            obtain ⟨⟨x0, x1, x2⟩, hx⟩ : ∃ x, ts[j]? = some x := ⟨_, List.getElem?_eq_getElem hjm⟩
            obtain ⟨tb, tof, rfl, htb, h0, h1, h2, hb0, hb1, hb2⟩ := HTC.out j _ hx
            have z1 := (HP.out.q.grew.cell (p := ⟨tb, tof + (j * 3 + 1), none⟩) htb).trans h1
            rw [← Nat.add_assoc] at z1
            have z2 := (HP.out.q.grew.cell (p := ⟨tb, tof + (j * 3 + 2), none⟩) htb).trans h2
            rw [← Nat.add_assoc] at z2
            simp only at z1 z2 hb1 hb2
            obtain ⟨s, hs, hs9⟩ : ∃ s : Nat, x1.tmod 15 = (s : Int) ∧ s < 15 := ⟨(x1.tmod 15).toNat, by rw [Int.tmod_eq_emod_of_nonneg hb1.1]; omega, by rw [Int.tmod_eq_emod_of_nonneg hb1.1]; omega⟩
            obtain ⟨c, hc, hc9⟩ : ∃ s : Nat, x2.tmod 64 = (s : Int) ∧ s < 64 := ⟨(x2.tmod 64).toNat, by rw [Int.tmod_eq_emod_of_nonneg hb2.1]; omega, by rw [Int.tmod_eq_emod_of_nonneg hb2.1]; omega⟩
            have hw1 : IntKind.i64.wrap x1 = x1 := IntWalk.i64_in _ (by omega)
            have hw2 : IntKind.i64.wrap x2 = x2 := IntWalk.i64_in _ (by omega)
            have hw3 : IntKind.i64.wrap (1 + (s : Int)) = 1 + (s : Int) := IntWalk.i64_in _ (by omega)
            obtain ⟨hp0, hpf⟩ := planned_fine HFN.out (k := ((1 + s : Nat) : Int)) (c := [(c : Int), 0]) ⟨by omega, by omega⟩ (early_two hc9)
            have hscr := scr_fail HSC.out (k := 1 + s) (c := c) (by omega) (by omega) hp0
            have hpz := size_planned M ((1 + s : Nat) : Int) [(c : Int), 0]
            obtain ⟨sk, sc, t1, t2, t3, X, hsk, hsc, ha1, ha2, ha3, ha4, hXl, hXs⟩ := failLine s c (by omega) (by omega)
            have HXL := hid (And.intro hXl hXs)
            have HFL := hid (fun (W : World) (u : Value) (h : IsMem W bm M F) (hu : IsInts Any W u [(c : Int), 0]) => (by
              have := fail20_any bm M F ((1 + s : Nat) : Int) u [(c : Int), 0] W h hu
              rw [hp0] at this
              rw [show ((1 + s : Nat) : Int) = 1 + (s : Int) by omega] at this ⊢
              exact this : Calls Tryz.prog 20 #[ptr bm, .int .i64 (1 + (s : Int)), u] W fun e w' => e = .returned (.int .i64 0) ∧ Keeps (InF F) W w' ∧ ∃ F', IsMem w' bm (M.planned ((1 + s : Nat) : Int) [(c : Int), 0]).2 F' ∧ Wider W F F'))
            have HD1 := hid (fun (W : World) => (by
              have := decimal45_any (1 + s) (1 + s) (Nat.le_refl _) (by omega) W
              rw [show ((1 + s : Nat) : Int) = 1 + (s : Int) by omega] at this
              rw [← hsk]
              exact this : Calls Tryz.prog 45 #[.int .i64 (1 + (s : Int))] W fun e w' => e = .returned (.string sk) ∧ Grew W w'))
            have HD2 := hid (fun (W : World) => (by rw [← hsc]; exact decimal45_any c c (Nat.le_refl _) (by omega) W : Calls Tryz.prog 45 #[.int .i64 (c : Int)] W fun e w' => e = .returned (.string sc) ∧ Grew W w'))
            obtain ⟨MA, hMA⟩ : ∃ MA, (M.planned ((1 + s : Nat) : Int) [(c : Int), 0]).2 = MA := ⟨_, rfl⟩
            rw [hMA] at hpf hscr hpz HFL
            have HPF := hid hpf; have HPZ := hid hpz; have HSCR := hid hscr
            have hjmI : (j : Int) < (m : Int) := by omega
            clear hx h0 h1 h2 hb0 hb1 hb2 hjm hmj hp0 hpf hscr hpz hsk hsc hs9 hc9 htb hMA hXl hXs
            go_wp2_with fail
            go_region_law (fail)
            all_goals (
              have HT1 := hid (HP.out.grown (grew_drew (grew_refl wr)))
              obtain ⟨wd, hwd⟩ : ∃ wd, wr.drew = wd := ⟨_, rfl⟩
              rw [hwd] at HT1
              (try rw [hwd])
              obtain ⟨W4, hW4, g4, o4, s4⟩ := block_new wd #[.int .i64 (c : Int), .int .i64 0] 3
              have HT4 := hid (HT1.out.grown g4)
              have HI4 := hid (ints2 o4)
              have HW4 := hid hW4
              clear g4 o4 s4 hwd
              go_wp2_with (first
                | (go_at_call 20; (with_reducible refine (HFL.out _ _ HT4.out.q.mb.mem HI4.out).mono ?_); rintro e w5 ⟨rfl, hk5, F5, hm5, hF5⟩; have HT5 := hid (HT4.out.turn (HT4.out.q.planned hm5 hF5 hk5) (keeps_inF hk5) hF5 wider_refl); clear hk5 hm5 hF5)
                | (go_at_call 45; (with_reducible refine (HD1.out _).mono ?_); rintro e w6 ⟨rfl, hg⟩; have HT6 := hid (HT5.out.grown hg); clear hg)
                | (go_at_call 45; (with_reducible refine (HD2.out _).mono ?_); rintro e w7 ⟨rfl, hg⟩; have HT7 := hid (HT6.out.grown hg); clear hg)
                | (at_builtin; refine wpList_append_one rfl _ _ 22 rfl w.heap.size 9 Tryz.underlying22 Tryz.info9 rfl (by decide) (.slice la ls.length lc) ls.length _ rfl (HT7.out.lines.1.alloc _) _ _ _ rfl (one_new _ _ _) rfl (by have := HLL.out; omega) ?_ ?_; (have := HT7.out.q.grew.size; simp only [World.size_alloc]; omega); intro v8 w8 hown8 hgrow8 hblk8; have ht8 := (HT7.out.grown (grew_alloc (grew_refl _) _)).line1 hown8 hgrow8 hblk8; obtain ⟨a8, c8, rfl, _⟩ := hown8.shape; have HT8 := hid ht8; clear hown8 hgrow8 hblk8 ht8)
                | (at_builtin; refine wpList_append_one rfl _ _ 22 rfl w.heap.size 9 Tryz.underlying22 Tryz.info9 rfl (by decide) (.slice wa ws.length wc) ws.length _ rfl (HT8.out.want.1.alloc _) _ _ _ rfl (one_new _ _ _) rfl (by have := HWB.out; omega) ?_ ?_; (have := HT8.out.q.grew.size; simp only [World.size_alloc]; omega); intro v9 w9 hown9 hgrow9 hblk9; have ht9 := (HT8.out.grown (grew_alloc (grew_refl _) _)).want1 hown9 hgrow9 hblk9; obtain ⟨a9, c9, rfl, _⟩ := hown9.shape; have HT9 := hid ht9; clear hown9 hgrow9 hblk9 ht9))
              go_meet
              exact ⟨MA, F5, ls ++ [X], ws ++ [⟨#[111, 107]⟩], HPZ, hid (by rw [List.length_append]; have := HLL.out; simp; omega), hid (fun y hy => by rcases List.mem_append.1 hy with h | h; exact HLS.out y h; (rw [List.mem_singleton] at h; rw [h]; exact HXL.out.2)), HPF, hid (by rw [bytesOf_snoc, bytesOf_snoc, HXL.out.1]; exact HSCR.out), HT9⟩)
        case rest =>
          obtain ⟨MA, FA, lsA, wsA, HSZA, HLLA, HLSA, HFA, HSCA, HPA⟩ := hcut
          rename World => wx
          obtain ⟨la, lc, rfl, -⟩ := HPA.out.lines.1.shape
          obtain ⟨wa, wc, rfl, -⟩ := HPA.out.want.1.shape
          have HWBA := hid (show wsA.length ≤ 100 by have h := scr_len HSCA.out; rw [show (bytesOf wsA).length = wsA.length by simp [bytesOf], show (bytesOf lsA).length = lsA.length by simp [bytesOf]] at h; have := HLLA.out; omega)
          have HLLB := hid (show lsA.length ≤ 100 by have := HLLA.out; omega)
          have HSRC := hid (src_ints (Reads.grew HPA.out.now.any (grew_alloc (grew_refl wx) (.cells #[] 3))))
          have HSEG := hid (empty_seg wx)
          obtain ⟨i0, hi, hz0, hzz, hz2⟩ := info_parts Tryz.info3
          clear HP HSC HFN HLS HLL HA HWL HWB y0
          go_upto_region 21 with (at_builtin; refine wpList_append_seg rfl _ _ 39 39 rfl wx.heap.size 3 i0 (.int .i64 0) 1 8 Tryz.underlying39 hi hz0 hzz hz2 rfl _ 0 [] rfl HSEG.out _ rfl l.length _ HSRC.out (by have := HL20.out; unfold maxLen; omega) (by have := HL20.out; omega) ?_ ?_; simp; intro v5 w5 hown5 hgrow5 hblk5; have hg5 : Grew wx w5 := ((grew_refl wx).alloc (Nat.le_refl _) _).grown hgrow5 (by simp) (fun k e => by cases e; exact Nat.le_refl _); rw [Nat.zero_add, List.nil_append] at hown5; have HG5 := hid hg5; have HS5 := hid hown5; have y5 := HX0.out w5 (HPA.out.grown hg5).q.grew; (try simp only at y5); obtain ⟨xa, xc, rfl, _⟩ := hown5.shape; clear hown5 hgrow5 hblk5 hg5)
          go_cut [114] from 41 to 200 (fun av wy => ∃ a : Bool, av = .bool a ∧ Hid (a = true → 0 < l.length) ∧ wy = w5)
          case first =>
            rcases (show l.length = 0 ∨ 0 < l.length by omega) with h0 | h0
            · have dq : decide ((0 : Int) < (l.length : Int)) = false := by rw [decide_eq_false_iff_not]; omega
              have dq2 : decide (0 < l.length) = false := by rw [decide_eq_false_iff_not]; omega
              clear h0
              go_wp2_with fail
              go_meet
              exact ⟨false, rfl, hid (fun h => by cases h), rfl⟩
            · have dq : decide ((0 : Int) < (l.length : Int)) = true := by rw [decide_eq_true_eq]; omega
              have H0 := hid h0
              clear h0
              by_cases hp1 : par = 1
              · have e0 : (par == 1) = true := by rw [beq_iff_eq]; exact hp1
                clear hp1
                go_wp2_with fail
                go_meet
                exact ⟨true, rfl, hid (fun _ => H0.out), rfl⟩
              · have e0 : (par == 1) = false := by rw [beq_eq_false_iff_ne]; exact hp1
                clear hp1
                go_wp2_with fail
                go_meet
                exact ⟨false, rfl, hid (fun h => by cases h), rfl⟩
          case rest =>
            obtain ⟨a, rfl, HA, rfl⟩ := hcut
            rename World => w5
            go_upto_if 114 with fail
            go_cut [9, 15, 16, 17] from 41 to 200 (fun lv xv ev _ wy => ∃ (k : Nat) (lsB : List ByteArray) (GB : Nat → Prop) (er : Int) (b' : Bk) (M' : Mem), ev = .int .i64 er ∧ Hid (doD MA b k u = (er, b', M')) ∧ Hid (lsB.length ≤ 3 * j + 2) ∧ Hid (∀ x ∈ lsB, x.size ≤ 100) ∧ Hid (Scr askA (bytesOf lsB) (bytesOf wsA ++ [ansT er]) M' b') ∧ Hid (Nums FA GB wy xv (nextD l k u)) ∧ Hid (mayD l k u = true ∨ (er, b', M') = (4, b, MA)) ∧ Hid (TopS w wy bm bb M' b' FA GB (.slice pa l.length pc) lv (.slice wa wsA.length wc) l lsB wsA))
            case first =>
              cases a
              · as_aux_lemma =>
                  -- add
                  have hscr := scr_deed HSCA.out (k := 0) (n := u) (by omega) (by have := HU9.out; omega)
                  have hfull := fun h => full_deed HFA.out (n := (u : Int)) (isNum_iff.2 (by have := HU9.out; omega)) h
                  obtain ⟨⟨er, b', M'⟩, hr⟩ : ∃ r, doD MA b (0 : Int) u = r := ⟨_, rfl⟩
                  have hr' : MA.add b u = (er, b', M') := by rw [← hr]; unfold doD; rw [if_pos rfl]
                  rw [show ((0 : Nat) : Int) = 0 from rfl, hr] at hscr
                  rw [hr] at hfull
                  simp only at hscr
                  obtain ⟨sn, X, hsn, ha1, hXl, hXs⟩ := addLine u (by have := HU9.out; omega)
                  have HXL := hid (And.intro hXl hXs)
                  have HSCR := hid hscr; have HFUL := hid hfull; have HR := hid hr
                  have HAD := hid (fun (W : World) (h : MBk W bm bb MA b FA G) => (by have := ((add31_any bb bm b MA FA G u W h.book h.mem h.disj HFA.out.ok (by have := HSZA.out; have := HSZ.out; omega) HFA.out.bk.1).mono fun e w' hd => did_of h hd); rw [hr'] at this; exact this : Calls Tryz.prog 31 #[ptr bb, .int .i64 (u : Int)] W (DidLeft W bm bb FA G (er, b', M'))))
                  have HD2 := hid (fun (W : World) => (by rw [← hsn]; exact decimal45_any u u (Nat.le_refl _) (by have := HU9.out; omega) W : Calls Tryz.prog 45 #[.int .i64 (u : Int)] W fun e w' => e = .returned (.string sn) ∧ Grew W w'))
                  clear hscr hfull hr hr' hsn hXl hXs
                  go_wp2_with (first
                    | (at_builtin; refine wpList_append_one rfl _ _ 39 rfl wx.heap.size 3 Tryz.underlying39 Tryz.info3 rfl (by decide) (.slice xa l.length xc) l.length _ rfl (HS5.out.alloc _) _ _ _ rfl (one_new _ _ _) rfl (by have := HL20.out; omega) ?_ ?_; (have := HG5.out.size; simp only [World.size_alloc]; omega); intro v6 w6 hown6 hgrow6 hblk6; have hg6 : Grew wx w6 := (HG5.out.alloc HG5.out.size _).grown hgrow6 (HG5.out.alloc HG5.out.size _).size (fun k e => (HS5.out.own k e).1); obtain ⟨xa6, xc6, rfl, _⟩ := hown6.shape; have hl6 : Seg w6 wx.heap.size 3 1 (.slice xa6 (l.length + 1) xc6) (l.length + 1) ((l ++ [(u : Int)]).map (.int .i64)) := (by rw [List.map_append]; exact hown6); have HN6 := hid (nums_new hl6 HPA.out.q.ltF HPA.out.q.ltG); have HT6 := hid (HPA.out.grown hg6); clear hown6 hgrow6 hblk6 hg6 hl6)
                    | (go_at_call 31; (with_reducible refine (HAD.out _ HT6.out.q.mb).mono ?_); rintro e w7 ⟨rfl, ⟨G7, hm7, hG7⟩, hk7⟩; have HT7 := hid (HT6.out.turn (HT6.out.q.did hm7 hG7 hk7) hk7 wider_refl hG7); have HN7 := hid (Nums.turn HN6.out hk7 wider_refl hG7); clear hm7 hG7 hk7)
                    | (go_at_call 45; (with_reducible refine (HD2.out _).mono ?_); rintro e w8 ⟨rfl, hg⟩; have HT8 := hid (HT7.out.grown hg); have HN8 := hid (Reads.grew HN7.out hg); clear hg)
                    | (at_builtin; refine wpList_append_one rfl _ _ 22 rfl w.heap.size 9 Tryz.underlying22 Tryz.info9 rfl (by decide) (.slice la lsA.length lc) lsA.length _ rfl (HT8.out.lines.1.alloc _) _ _ _ rfl (one_new _ _ _) rfl (by have := HLLB.out; omega) ?_ ?_; (have := HT8.out.q.grew.size; simp only [World.size_alloc]; omega); intro v9 w9 hown9 hgrow9 hblk9; have ht9 := (HT8.out.grown (grew_alloc (grew_refl _) _)).line1 hown9 hgrow9 hblk9; have HN9 := hid (Nums.texts (Reads.grew HN8.out (grew_alloc (grew_refl _) _)) (HT8.out.lines.1.alloc _) hgrow9); obtain ⟨a9, c9, rfl, _⟩ := hown9.shape; have HT9 := hid ht9; clear hown9 hgrow9 hblk9 ht9))
                  go_meet
                  refine ⟨0, lsA ++ [X], G7, er, b', M', rfl, HR, hid (by rw [List.length_append]; have := HLLA.out; simp; omega), hid (fun y hy => by rcases List.mem_append.1 hy with h | h; exact HLSA.out y h; (rw [List.mem_singleton] at h; rw [h]; exact HXL.out.2)), hid (by rw [bytesOf_snoc, HXL.out.1]; exact HSCR.out), hid (by unfold nextD; rw [if_pos (show ((0 : Nat) : Int) = 0 from rfl)]; exact HN9.out), ?_, HT9⟩
                  refine hid ?_
                  by_cases h20 : l.length < 20
                  · left; unfold mayD; rw [isNum_iff.2 (by have := HU9.out; omega), if_pos (show ((0 : Nat) : Int) = 0 from rfl), Bool.true_and, decide_eq_true_eq]; exact h20
                  · right; exact HFUL.out (by have := HL20.out; omega)
              · as_aux_lemma =>
                  -- change
                  have hl0 := HA.out (by first | rfl | trivial)
                  obtain ⟨at0, hat, hat9⟩ : ∃ at0 : Nat, (u : Int).tmod (l.length : Int) = (at0 : Int) ∧ at0 < l.length := ⟨u % l.length, by rw [Int.tmod_eq_emod_of_nonneg (by omega)]; omega, Nat.mod_lt _ hl0⟩
                  have hl20 := HL20.out
                  have hu9 := HU9.out
                  have hne : ((l.length : Int) == 0) = false := by rw [beq_eq_false_iff_ne]; omega
                  have hatI : (at0 : Int) < (l.length : Int) := by omega
                  have hwa : IntKind.i64.wrap (1 + (at0 : Int)) = 1 + (at0 : Int) := IntWalk.i64_in _ (by omega)
                  have hwb : IntKind.i64.wrap (1 + (at0 : Int) - 1) = (at0 : Int) := by rw [show 1 + (at0 : Int) - 1 = at0 by omega]; exact IntWalk.i64_in _ (by omega)
                  have hscr := scr_deed HSCA.out (k := 1 + at0) (n := u) (by omega) (by omega)
                  have hmay : mayD l ((1 + at0 : Nat) : Int) u = true := by unfold mayD; rw [isNum_iff.2 (by omega), if_neg (by omega)]; simp; omega
                  have hnx : nextD l ((1 + at0 : Nat) : Int) u = l.set at0 u := by unfold nextD; rw [if_neg (by omega), show (((1 + at0 : Nat) : Int) - 1).toNat = at0 by omega]
                  obtain ⟨⟨er, b', M'⟩, hr⟩ : ∃ r, doD MA b ((1 + at0 : Nat) : Int) u = r := ⟨_, rfl⟩
                  have hr' : MA.change b (1 + (at0 : Int)) u = (er, b', M') := by rw [← hr]; unfold doD; rw [if_neg (by omega), show ((1 + at0 : Nat) : Int) = 1 + (at0 : Int) by omega]
                  rw [hr] at hscr
                  simp only at hscr
                  obtain ⟨sa, sn, t1, t2, X, hsa, hsn, ha1, ha2, ha3, hXl, hXs⟩ := changeLine (1 + at0) u (by omega) (by omega)
                  have hlineq : lineD (1 + at0) u = X.data.toList := by rw [hXl]; unfold lineD; rw [if_neg (by omega)]
                  have HXL := hid (And.intro hlineq hXs)
                  have HSCR := hid hscr; have HR := hid hr; have HMY := hid hmay; have HNX := hid hnx
                  have HCH := hid (fun (W : World) (h : MBk W bm bb MA b FA G) => (by have := ((change32_any bb bm b MA FA G (1 + (at0 : Int)) u W h.book h.mem h.disj HFA.out.ok (by have := HSZA.out; have := HSZ.out; omega) HFA.out.bk.1).mono fun e w' hd => did_of h hd); rw [hr'] at this; exact this : Calls Tryz.prog 32 #[ptr bb, .int .i64 (1 + (at0 : Int)), .int .i64 (u : Int)] W (DidLeft W bm bb FA G (er, b', M'))))
                  have HD1 := hid (fun (W : World) => (by
                    have := decimal45_any (1 + at0) (1 + at0) (Nat.le_refl _) (by omega) W
                    rw [show ((1 + at0 : Nat) : Int) = 1 + (at0 : Int) by omega] at this
                    rw [← hsa]
                    exact this : Calls Tryz.prog 45 #[.int .i64 (1 + (at0 : Int))] W fun e w' => e = .returned (.string sa) ∧ Grew W w'))
                  have HD2 := hid (fun (W : World) => (by rw [← hsn]; exact decimal45_any u u (Nat.le_refl _) (by omega) W : Calls Tryz.prog 45 #[.int .i64 (u : Int)] W fun e w' => e = .returned (.string sn) ∧ Grew W w'))
                  obtain ⟨ng, nof, nc2, cur, hv, hngb, hngo, -, -, hnat⟩ := HS5.out.at (by omega)
                  simp only [Value.slice.injEq] at hv
                  obtain ⟨rfl, -, rfl⟩ := hv
                  have nf := frozen_of_row w5 ng (nof + at0) _ _ hngo
                  have ncl := hnat at0 (by omega)
                  rw [List.getElem?_map, List.getElem?_eq_getElem hat9] at ncl
                  simp only [Option.map_some] at ncl
                  have HT6 := hid (HPA.out.grown (grew_setB HG5.out hngb (nof + at0) (.int .i64 (u : Int))))
                  have hl6 : Seg (w5.setCell ⟨ng, nof + at0, none⟩ (.int .i64 (u : Int))) wx.heap.size 3 1 (.slice (some ⟨ng, nof, none⟩) l.length xc) (l.set at0 u).length ((l.set at0 (u : Int)).map (.int .i64)) := by
                    rw [List.length_set, List.map_set]; exact Seg.set HS5.out rfl hat9 _
                  have HN6 := hid (nums_new hl6 HPA.out.q.ltF HPA.out.q.ltG)
                  clear hscr hmay hnx hr hr' hsa hsn hXl hXs hlineq hngo hnat hl6 hl20 hu9 hngb
                  go_wp2_with (first
                    | (go_at_call 32; (with_reducible refine (HCH.out _ HT6.out.q.mb).mono ?_); rintro e w7 ⟨rfl, ⟨G7, hm7, hG7⟩, hk7⟩; have HT7 := hid (HT6.out.turn (HT6.out.q.did hm7 hG7 hk7) hk7 wider_refl hG7); have HN7 := hid (Nums.turn HN6.out hk7 wider_refl hG7); clear hm7 hG7 hk7)
                    | (go_at_call 45; (with_reducible refine (HD1.out _).mono ?_); rintro e w4 ⟨rfl, hg⟩; have HT4 := hid (HT7.out.grown hg); have HN4 := hid (Reads.grew HN7.out hg); clear hg)
                    | (go_at_call 45; (with_reducible refine (HD2.out _).mono ?_); rintro e w8 ⟨rfl, hg⟩; have HT8 := hid (HT4.out.grown hg); have HN8 := hid (Reads.grew HN4.out hg); clear hg)
                    | (at_builtin; refine wpList_append_one rfl _ _ 22 rfl w.heap.size 9 Tryz.underlying22 Tryz.info9 rfl (by decide) (.slice la lsA.length lc) lsA.length _ rfl (HT8.out.lines.1.alloc _) _ _ _ rfl (one_new _ _ _) rfl (by have := HLLB.out; omega) ?_ ?_; (have := HT8.out.q.grew.size; simp only [World.size_alloc]; omega); intro v9 w9 hown9 hgrow9 hblk9; have ht9 := (HT8.out.grown (grew_alloc (grew_refl _) _)).line1 hown9 hgrow9 hblk9; have HN9 := hid (Nums.texts (Reads.grew HN8.out (grew_alloc (grew_refl _) _)) (HT8.out.lines.1.alloc _) hgrow9); obtain ⟨a9, c9, rfl, _⟩ := hown9.shape; have HT9 := hid ht9; clear hown9 hgrow9 hblk9 ht9))
                  go_meet
                  exact ⟨1 + at0, lsA ++ [X], G7, er, b', M', rfl, HR, hid (by rw [List.length_append]; have := HLLA.out; simp; omega), hid (fun y hy => by rcases List.mem_append.1 hy with h | h; exact HLSA.out y h; (rw [List.mem_singleton] at h; rw [h]; exact HXL.out.2)), hid (by rw [bytesOf_snoc, ← HXL.out.1]; exact HSCR.out), hid (by rw [HNX.out]; exact HN9.out), hid (.inl HMY.out), HT9⟩
            case rest =>
              obtain ⟨k, lsB, GB, er, b', M', rfl, HR, HLLC, HLSB, HSCB, HNB, HMAY, HPB⟩ := hcut
              rename World => wy
              obtain ⟨lb, lcb, rfl, -⟩ := HPB.out.lines.1.shape
              have HLLD := hid (show lsB.length ≤ 100 by have := HLLC.out; omega)
              have hsz := size_doD MA b k u
              rw [HR.out] at hsz
              have HSZB := hid (show M'.size ≤ 1 + 40 * j + 14 by have := HSZA.out; have := HSZ.out; simp only at hsz; omega)
              have hcase : (er = 0 ∧ Fine M' b' (nextD l k u)) ∨ (er = 4 ∧ b' = b ∧ M' = MA) ∨ (er = 101 ∧ b' = b ∧ ∃ K, Down MA M' K ∧ (Rec K l ∨ Rec K (nextD l k u))) := by
                rcases HMAY.out with hm | h4
                · have hd := doD_may HFA.out hm
                  rw [HR.out] at hd
                  rcases hd with ⟨h0, hf, _⟩ | ⟨h1, K, hd, hr⟩
                  · exact .inl ⟨h0, hf⟩
                  · simp only [Prod.mk.injEq] at h1
                    exact .inr (.inr ⟨h1.1, h1.2.1, K, hd, hr⟩)
                · simp only [Prod.mk.injEq] at h4
                  exact .inr (.inl h4)
              obtain ⟨l', hl'⟩ : ∃ l', nextD l k u = l' := ⟨_, rfl⟩
              rw [hl'] at hcase HNB
              obtain ⟨xb, xcb, rfl, -⟩ := id HNB.out
              have HSB2 := hid same_top
              clear hsz HMAY HR hl' HA HSEG HSRC HG5 HS5 HLLB y5
              rcases hcase with ⟨rfl, hf⟩ | ⟨rfl, rfl, rfl⟩ | ⟨rfl, rfl, K, hd, hrec⟩
              · as_aux_lemma =>
                  have HF := hid hf
                  have HEN := hid (fun (W : World) (G' : Nat → Prop) (h : IsBook W bb bm b' G') => entries_top bb bm b' G' l' W h HF.out.list (by have := HF.out.bk.1; rw [HF.out.list] at this; omega))
                  clear hf
                  go_wp2_with (first
                    | (at_builtin; refine wpList_append_one rfl _ _ 22 rfl w.heap.size 9 Tryz.underlying22 Tryz.info9 rfl (by decide) (.slice wa wsA.length wc) wsA.length _ rfl (HPB.out.want.1.alloc _) _ _ _ rfl (one_new _ _ _) rfl (by have := HWBA.out; omega) ?_ ?_; (have := HPB.out.q.grew.size; simp only [World.size_alloc]; omega); intro v10 w10 hown10 hgrow10 hblk10; have ht10 := (HPB.out.grown (grew_alloc (grew_refl _) _)).want1 hown10 hgrow10 hblk10; have HN10 := hid (Nums.texts (Reads.grew HNB.out (grew_alloc (grew_refl _) _)) (HPB.out.want.1.alloc _) hgrow10); obtain ⟨a10, c10, rfl, _⟩ := hown10.shape; have HT10 := hid ht10; clear hown10 hgrow10 hblk10 ht10)
                    | (go_at_call 19; (with_reducible refine (HEN.out _ _ HT10.out.q.mb.book).mono ?_); rintro e w11 ⟨u11, rfl, hs, hg⟩; obtain ⟨ea, ec, rfl, _⟩ := hs.shape; have HS11 := hid hs.isInts.any; have HT11 := hid (HT10.out.grown hg); have HN11 := hid (Reads.grew HN10.out hg); clear hs hg)
                    | (go_at_call 24; (with_reducible refine (HSB2.out _ _ l' l' true (by simp) _ HS11.out HN11.out.any).mono ?_); rintro e w12 ⟨rfl, hg⟩; have HT12 := hid (HT11.out.grown hg); have HN12 := hid (Reads.grew HN11.out hg); clear hg))
                  go_roundg (n - (j + 1))
                  case measure => have := HGK.out; omega
                  case rel => exact ⟨j + 1, M', b', bb, FA, GB, l', lsB, wsA ++ [⟨#[111, 107]⟩], by omega, by go_num, rfl, hid rfl, hid (by have := HSZB.out; omega), hid (by have := HLLC.out; omega), HLSB, HF, hid (by rw [bytesOf_snoc]; exact HSCB.out), hid { HT12.out with now := HN12.out }⟩
              · go_wp2_with (first
                  | (at_builtin; refine wpList_append_one rfl _ _ 22 rfl w.heap.size 9 Tryz.underlying22 Tryz.info9 rfl (by decide) (.slice wa wsA.length wc) wsA.length _ rfl (HPB.out.want.1.alloc _) _ _ _ rfl (one_new _ _ _) rfl (by have := HWBA.out; omega) ?_ ?_; (have := HPB.out.q.grew.size; simp only [World.size_alloc]; omega); intro v10 w10 hown10 hgrow10 hblk10; have ht10 := (HPB.out.grown (grew_alloc (grew_refl _) _)).want1 hown10 hgrow10 hblk10; have HN10 := hid (Nums.texts (Reads.grew HNB.out (grew_alloc (grew_refl _) _)) (HPB.out.want.1.alloc _) hgrow10); obtain ⟨a10, c10, rfl, _⟩ := hown10.shape; have HT10 := hid ht10; clear hown10 hgrow10 hblk10 ht10))
                go_roundg (n - (j + 1))
                case measure => have := HGK.out; omega
                case rel => exact ⟨j + 1, M', b', bb, FA, GB, l, lsB, wsA ++ [⟨#[101, 114, 114, 111, 114, 32, 52]⟩], by omega, by go_num, rfl, hid rfl, hid (by have := HSZB.out; omega), hid (by have := HLLC.out; omega), HLSB, HFA, hid (by rw [bytesOf_snoc]; have h := HSCB.out; rw [show ansT 4 = [101, 114, 114, 111, 114, 32, 52] by unfold ansT; rw [if_neg (by decide), err4]] at h; exact h), HT10⟩
              · as_aux_lemma =>
                  obtain ⟨l2, r1, hl2c, hrc, hss⟩ : ∃ (l2 : List Int) (r1 : Bool), Rec K l2 ∧ (l2 == l) = r1 ∧ (r1 = false → (l2 == l') = true) := by
                    rcases hrec with h | h
                    · exact ⟨l, true, h, by simp, fun e => by cases e⟩
                    · exact ⟨l', (l' == l), h, rfl, fun _ => by simp⟩
                  obtain ⟨b2, M2, hop, hf2⟩ := down_once hd hl2c
                  have hms := size_open M'
                  rw [hop] at hms
                  simp only at hms
                  have hscr : Scr askA (bytesOf lsB ++ [wOpen]) (bytesOf wsA ++ [ansT 101] ++ [[111, 107]]) M2 b2 := scr_open HSCB.out hop
                  rw [show ansT 101 = [101, 114, 114, 111, 114, 32, 49, 48, 49] by unfold ansT; rw [if_neg (by decide), err101]] at hscr
                  have HSCR := hid hscr; have HF2 := hid hf2; have HSS := hid hss; have HRC := hid hrc
                  have HM2B := hid (show M2.size ≤ 1 + 40 * (j + 1) by have := HSZB.out; omega)
                  have HOP := hid (fun (W : World) (h : IsMem W bm M' FA) => (by have := open41_mem bm M' FA W h hd.ok (by have := HSZB.out; omega); rw [hop] at this; exact this : Calls Tryz.prog 41 #[ptr bm] W (OpenLeft W bm FA (some b2, 0, M2))))
                  have HE2 := hid (fun (W : World) (q2 : Nat) (G' : Nat → Prop) (h : IsBook W q2 bm b2 G') => entries_top q2 bm b2 G' l2 W h HF2.out.list (by have := HF2.out.bk.1; rw [HF2.out.list] at this; omega))
                  clear hrec hl2c hrc hss hop hf2 hms hscr hd
                  cases r1
                  · go_wp2_with (first
                      | (at_builtin; refine wpList_append_two rfl _ _ 22 rfl w.heap.size 9 Tryz.underlying22 Tryz.info9 rfl (by decide) (.slice wa wsA.length wc) wsA.length _ rfl (HPB.out.want.1.alloc _) _ _ _ _ rfl (pair_new0 _ _ _ _) (pair_new1 _ _ _ _) rfl rfl (by have := HWBA.out; omega) ?_ ?_; (have := HPB.out.q.grew.size; simp only [World.size_alloc]; omega); intro v10 w10 hown10 hgrow10 hblk10; have ht10 := (HPB.out.grown (grew_alloc (grew_refl _) _)).want2 hown10 hgrow10 hblk10; have HN10 := hid (Nums.texts (Reads.grew HNB.out (grew_alloc (grew_refl _) _)) (HPB.out.want.1.alloc _) hgrow10); obtain ⟨a10, c10, rfl, _⟩ := hown10.shape; have HT10 := hid ht10; clear hown10 hgrow10 hblk10 ht10)
                      | (at_builtin; refine wpList_append_one rfl _ _ 22 rfl w.heap.size 9 Tryz.underlying22 Tryz.info9 rfl (by decide) (.slice lb lsB.length lcb) lsB.length _ rfl (HT10.out.lines.1.alloc _) _ _ _ rfl (one_new _ _ _) rfl (by have := HLLD.out; omega) ?_ ?_; (have := HT10.out.q.grew.size; simp only [World.size_alloc]; omega); intro v11 w11 hown11 hgrow11 hblk11; have ht11 := (HT10.out.grown (grew_alloc (grew_refl _) _)).line1 hown11 hgrow11 hblk11; have HN11 := hid (Nums.texts (Reads.grew HN10.out (grew_alloc (grew_refl _) _)) (HT10.out.lines.1.alloc _) hgrow11); obtain ⟨a11, c11, rfl, _⟩ := hown11.shape; have HT11 := hid ht11; clear hown11 hgrow11 hblk11 ht11)
                      | (go_at_call 41; (with_reducible refine (HOP.out _ HT11.out.q.mb.mem).mono ?_); rintro e w12 ⟨hm12, hk12, p2, G2, rfl, hb12, hG12⟩; have HT12 := hid (HT11.out.turn (HT11.out.q.newBook hm12 hk12 hb12 hG12) (keeps_inF hk12) wider_refl (fun k e => .inr (hG12 k e))); have HN12 := hid (Nums.turn HN11.out (keeps_inF hk12) wider_refl (fun k e => .inr (hG12 k e)) : Nums FA G2 w12 _ _); clear hm12 hk12 hb12 hG12)
                      | (go_at_call 19; (with_reducible refine (HE2.out _ _ _ HT12.out.q.mb.book).mono ?_); rintro e w13 ⟨u13, rfl, hs, hg⟩; have HN13 := hid (nums_new hs HT12.out.q.ltF HT12.out.q.ltG); have HX13 := hid (Reads.grew HN12.out hg); have HT13 := hid (HT12.out.grown hg); obtain ⟨ea, ec, rfl, _⟩ := hs.shape; clear hs hg)
                      | (go_at_call 24; (with_reducible refine (HSB2.out _ _ l2 l false HRC.out _ HN13.out.any HT13.out.now.any).mono ?_); rintro e w14 ⟨rfl, hg⟩; have HT14 := hid (HT13.out.grown hg); have HN14 := hid (Reads.grew HN13.out hg); have HX14 := hid (Reads.grew HX13.out hg); clear hg)
                      | (go_at_call 24; (with_reducible refine (HSB2.out _ _ l2 l' true (HSS.out (by first | rfl | trivial)) _ HN14.out.any HX14.out.any).mono ?_); rintro e w15 ⟨rfl, hg⟩; have HT15 := hid (HT14.out.grown hg); have HN15 := hid (Reads.grew HN14.out hg); clear hg))
                    go_roundg (n - (j + 1))
                    case measure => have := HGK.out; omega
                    case rel => exact ⟨j + 1, M2, b2, p2, FA, G2, l2, lsB ++ [⟨#[111, 112, 101, 110]⟩], wsA ++ [⟨#[101, 114, 114, 111, 114, 32, 49, 48, 49]⟩, ⟨#[111, 107]⟩], by omega, by go_num, rfl, hid rfl, HM2B, hid (by rw [List.length_append]; have := HLLC.out; simp; omega), hid (fun y hy => by rcases List.mem_append.1 hy with h | h; exact HLSB.out y h; (rw [List.mem_singleton] at h; rw [h]; decide)), HF2, hid (by rw [bytesOf_snoc, show bytesOf (wsA ++ [⟨#[101, 114, 114, 111, 114, 32, 49, 48, 49]⟩, ⟨#[111, 107]⟩]) = bytesOf wsA ++ [[101, 114, 114, 111, 114, 32, 49, 48, 49]] ++ [[111, 107]] by unfold bytesOf; simp]; exact HSCR.out), hid { HT15.out with now := HN15.out }⟩
                  · go_wp2_with (first
                      | (at_builtin; refine wpList_append_two rfl _ _ 22 rfl w.heap.size 9 Tryz.underlying22 Tryz.info9 rfl (by decide) (.slice wa wsA.length wc) wsA.length _ rfl (HPB.out.want.1.alloc _) _ _ _ _ rfl (pair_new0 _ _ _ _) (pair_new1 _ _ _ _) rfl rfl (by have := HWBA.out; omega) ?_ ?_; (have := HPB.out.q.grew.size; simp only [World.size_alloc]; omega); intro v10 w10 hown10 hgrow10 hblk10; have ht10 := (HPB.out.grown (grew_alloc (grew_refl _) _)).want2 hown10 hgrow10 hblk10; have HN10 := hid (Nums.texts (Reads.grew HNB.out (grew_alloc (grew_refl _) _)) (HPB.out.want.1.alloc _) hgrow10); obtain ⟨a10, c10, rfl, _⟩ := hown10.shape; have HT10 := hid ht10; clear hown10 hgrow10 hblk10 ht10)
                      | (at_builtin; refine wpList_append_one rfl _ _ 22 rfl w.heap.size 9 Tryz.underlying22 Tryz.info9 rfl (by decide) (.slice lb lsB.length lcb) lsB.length _ rfl (HT10.out.lines.1.alloc _) _ _ _ rfl (one_new _ _ _) rfl (by have := HLLD.out; omega) ?_ ?_; (have := HT10.out.q.grew.size; simp only [World.size_alloc]; omega); intro v11 w11 hown11 hgrow11 hblk11; have ht11 := (HT10.out.grown (grew_alloc (grew_refl _) _)).line1 hown11 hgrow11 hblk11; have HN11 := hid (Nums.texts (Reads.grew HN10.out (grew_alloc (grew_refl _) _)) (HT10.out.lines.1.alloc _) hgrow11); obtain ⟨a11, c11, rfl, _⟩ := hown11.shape; have HT11 := hid ht11; clear hown11 hgrow11 hblk11 ht11)
                      | (go_at_call 41; (with_reducible refine (HOP.out _ HT11.out.q.mb.mem).mono ?_); rintro e w12 ⟨hm12, hk12, p2, G2, rfl, hb12, hG12⟩; have HT12 := hid (HT11.out.turn (HT11.out.q.newBook hm12 hk12 hb12 hG12) (keeps_inF hk12) wider_refl (fun k e => .inr (hG12 k e))); have HN12 := hid (Nums.turn HN11.out (keeps_inF hk12) wider_refl (fun k e => .inr (hG12 k e)) : Nums FA G2 w12 _ _); clear hm12 hk12 hb12 hG12)
                      | (go_at_call 19; (with_reducible refine (HE2.out _ _ _ HT12.out.q.mb.book).mono ?_); rintro e w13 ⟨u13, rfl, hs, hg⟩; have HN13 := hid (nums_new hs HT12.out.q.ltF HT12.out.q.ltG); have HT13 := hid (HT12.out.grown hg); obtain ⟨ea, ec, rfl, _⟩ := hs.shape; clear hs hg)
                      | (go_at_call 24; (with_reducible refine (HSB2.out _ _ l2 l true HRC.out _ HN13.out.any HT13.out.now.any).mono ?_); rintro e w15 ⟨rfl, hg⟩; have HT15 := hid (HT13.out.grown hg); have HN15 := hid (Reads.grew HN13.out hg); clear hg))
                    go_roundg (n - (j + 1))
                    case measure => have := HGK.out; omega
                    case rel => exact ⟨j + 1, M2, b2, p2, FA, G2, l2, lsB ++ [⟨#[111, 112, 101, 110]⟩], wsA ++ [⟨#[101, 114, 114, 111, 114, 32, 49, 48, 49]⟩, ⟨#[111, 107]⟩], by omega, by go_num, rfl, hid rfl, HM2B, hid (by rw [List.length_append]; have := HLLC.out; simp; omega), hid (fun y hy => by rcases List.mem_append.1 hy with h | h; exact HLSB.out y h; (rw [List.mem_singleton] at h; rw [h]; decide)), HF2, hid (by rw [bytesOf_snoc, show bytesOf (wsA ++ [⟨#[101, 114, 114, 111, 114, 32, 49, 48, 49]⟩, ⟨#[111, 107]⟩]) = bytesOf wsA ++ [[101, 114, 114, 111, 114, 32, 49, 48, 49]] ++ [[111, 107]] by unfold bytesOf; simp]; exact HSCR.out), hid { HT15.out with now := HN15.out }⟩
    · as_aux_lemma =>
        obtain rfl : j = n := by omega
        have hls := HLL.out
        have d99 : decide ((99 : Int) < (ls.length : Int)) = false := by rw [decide_eq_false_iff_not]; omega
        have d99' : decide (99 < ls.length) = false := by rw [decide_eq_false_iff_not]; omega
        have HLL2 := hid (show ls.length ≤ 99 by omega)
        obtain ⟨sl, hsl⟩ : ∃ s, tx (Lib.decDigits l.length) = s := ⟨_, rfl⟩
        have HD := hid (fun (W : World) => (by rw [← hsl]; exact decimal45_any l.length l.length (Nat.le_refl _) (by have := HL20.out; omega) W : Calls Tryz.prog 45 #[.int .i64 (l.length : Int)] W fun e w' => e = .returned (.string sl) ∧ Grew W w'))
        have hpl : playM askA (bytesOf (ls ++ [⟨#[99, 111, 117, 110, 116]⟩])) = bytesOf (ws ++ [sl]) := by
          rw [bytesOf_snoc, bytesOf_snoc, ← hsl]
          have := scr_count HSC.out (ask_count b)
          rw [HFN.out.list] at this
          simpa [wCount] using this
        have HPLAY := hid (fun (W : World) (v : Value) (hg : Grew w W) (h : IsWds Any W v (ls ++ [⟨#[99, 111, 117, 110, 116]⟩])) => (by
          refine (play13_any askA v (ls ++ [⟨#[99, 111, 117, 110, 116]⟩]) W h (by rw [List.length_append]; have := HLL2.out; simp; omega) (fun y hy => by rcases List.mem_append.1 hy with h | h; (have := HLS.out y h; omega); (rw [List.mem_singleton] at h; rw [h]; decide)) (HLAY.out W hg) (fun _ => ⟨askOk, sm_ask⟩)).mono ?_
          rintro e w1 ⟨b, rfl, hg, ho, hb⟩
          rw [hpl, cellsT_map, map_bytesOf] at ho
          have hlen : (ls ++ [(⟨#[99, 111, 117, 110, 116]⟩ : ByteArray)]).length = (ws ++ [sl]).length := by rw [List.length_append, List.length_append, HWL.out]; rfl
          refine ⟨b, (ws ++ [sl]).length, rfl, ?_, hg, (wds_of_row ho (by rw [← hlen, List.length_append]; have := HLL2.out; simp; omega)).mono (fun _ _ _ => trivial)⟩
          rw [hlen] : Calls Tryz.prog 13 #[v] W fun e w' => ∃ (b m : Nat), m = (ws ++ [sl]).length ∧ e = .returned (.tuple #[.slice (some ⟨b, 0, none⟩) m m, .int .i64 0]) ∧ Grew W w' ∧ IsWds Any w' (.slice (some ⟨b, 0, none⟩) (ws ++ [sl]).length (ws ++ [sl]).length) (ws ++ [sl])))
        have HSAME := hid (fun (W : World) (v v' : Value) (h : IsWds Any W v (ws ++ [sl])) (h' : IsWds Any W v' (ws ++ [sl])) => ((same15_any v v' _ _ W h h').mono fun e w' hx => (by rw [hx.1, decide_eq_true rfl]; exact ⟨rfl, hx.2⟩ : e = .returned (.bool true) ∧ Grew W w')))
        clear hls hsl hpl
        go_wp2_with (first
          | (at_builtin; refine wpList_append_one rfl _ _ 22 rfl w.heap.size 9 Tryz.underlying22 Tryz.info9 rfl (by decide) (.slice la ls.length lc) ls.length _ rfl (HP.out.lines.1.alloc _) _ _ _ rfl (one_new _ _ _) rfl (by have := HLL2.out; omega) ?_ ?_; (have := HP.out.q.grew.size; simp only [World.size_alloc]; omega); intro v9 w9 hown9 hgrow9 hblk9; have ht9 := (HP.out.grown (grew_alloc (grew_refl _) _)).line1 hown9 hgrow9 hblk9; obtain ⟨a9, c9, rfl, _⟩ := hown9.shape; have HT9 := hid ht9; clear hown9 hgrow9 hblk9 ht9)
          | (go_at_call 45; (with_reducible refine (HD.out _).mono ?_); rintro e w2 ⟨rfl, hg⟩; have HT2 := hid (HT9.out.grown hg); clear hg)
          | (at_builtin; refine wpList_append_one rfl _ _ 22 rfl w.heap.size 9 Tryz.underlying22 Tryz.info9 rfl (by decide) (.slice wa ws.length wc) ws.length _ rfl (HT2.out.want.1.alloc _) _ _ _ rfl (one_new _ _ _) rfl (by have := HWB.out; omega) ?_ ?_; (have := HT2.out.q.grew.size; simp only [World.size_alloc]; omega); intro v3 w3 hown3 hgrow3 hblk3; have ht3 := (HT2.out.grown (grew_alloc (grew_refl _) _)).want1 hown3 hgrow3 hblk3; obtain ⟨a3, c3, rfl, _⟩ := hown3.shape; have HT3 := hid ht3; clear hown3 hgrow3 hblk3 ht3)
          | (go_at_call 13; (with_reducible refine (HPLAY.out _ _ HT3.out.q.grew (txt_wds HT3.out.lines)).mono ?_); rintro e w4 ⟨q4, m4, hm4, rfl, hg, hw4⟩; rw [← hm4] at hw4; have HM4 := hid hm4; have HT4 := hid (HT3.out.grown hg); have HW4 := hid hw4; clear hg hw4 hm4)
          | (go_at_call 15; (with_reducible refine (HSAME.out _ _ _ HW4.out (txt_wds HT4.out.want)).mono ?_); rintro e w5 ⟨rfl, hg⟩; have HT5 := hid (HT4.out.grown hg); clear hg)
          | (go_at_call 12; (with_reducible refine (HSANE.out _ HT5.out.q.grew).mono ?_); rintro e w6 ⟨rfl, hg⟩; have HG6 := hid (grew_trans HT5.out.q.grew hg); clear hg))
        go_ret
        exact ⟨rfl, HG6.out⟩

end Go.Proofs.YtmohnddglmolgaaGreatDoor
