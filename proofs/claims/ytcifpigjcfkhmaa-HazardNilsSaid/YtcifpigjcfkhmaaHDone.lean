/- A shape that came in; walks: done, has. -/
import Derived.Test.YtcifpigjcfkhmaaHSane
import Derived.OpenShut
namespace Go.Proofs.Ytcifpigjcfkhmaa
open Go Go.RowKit Go.ChangeShapes Go.WideShapes Go.ChangeAt Go.Lin Go.Lin.Hz

/-- Two bytes. -/
def IsShape (v : Value) (m : Int × Int) : Prop := v = .agg #[.int .u8 m.1, .int .u8 m.2] ∧ (0 ≤ m.1 ∧ m.1 ≤ 255) ∧ (0 ≤ m.2 ∧ m.2 ≤ 255)

theorem two_of {l : List Value} (h : l.length = 2) : ∃ a b, l = [a, b] := by
  match l, h with
  | [a, b], _ => exact ⟨a, b, rfl⟩

theorem okWide_pair {P : Program} {w : World} {r : Reach} {base : Nat} {t e : TypeId} {n : Nat} {v : Value} (ht : P.underlying t = some (.array n e)) (h : Value.okWide P w r base t v) : ∃ cs, v = .agg cs ∧ cs.size = P.cellsOf t := by
  unfold Value.okWide at h
  rw [ht] at h
  cases v <;> simp_all

set_option maxRecDepth 100000 in
theorem shapeIn {H : Type} {enc : TypeId × Value → H} {w : World} {base : Nat} {held : Bool} {r : Reach} {b0 : Nat} {v : Value} {d : DataW H} {p : List MemPlace}
    (hv : Value.okWide Try.prog w r b0 36 v) (h : DataW.Trod enc Try.prog w base (fun _ => true) held 36 v d p) : ∃ m, IsShape v m := by
  obtain ⟨cs, rfl, hsz⟩ := okWide_pair Try.underlying36 hv
  obtain ⟨c0, c1, rfl⟩ := Joins.array2 (hsz.trans (show Try.prog.cellsOf 36 = 2 by kernel_rfl))
  obtain ⟨fuel, hf⟩ := h
  obtain ⟨xs, m, _, _, _, hl, hel⟩ := DataW.trod_array Try.underlying36 hf
  have c5 : Try.prog.cellsOf 5 = 1 := by kernel_rfl
  have e0 := hel 0 (by omega)
  have e1 := hel 1 (by omega)
  rw [c5, List.getElem?_eq_getElem (by omega)] at e0 e1
  obtain ⟨z0, q0, _, w0⟩ := DataW.trod_int Try.underlying5 e0
  obtain ⟨z1, q1, _, w1⟩ := DataW.trod_int Try.underlying5 e1
  simp [Value.cells] at q0 q1
  subst q0 q1
  have b0 := bounds_u8 w0
  have b1 := bounds_u8 w1
  exact ⟨(z0, z1), rfl, b0, b1⟩

theorem Try.read_shape : Try.prog.readableRec 36 = true := by kernel_rfl

/-- The yard of a shape. -/
def shaped (m : Int × Int) : Yd := new (1 + m.1 % 4) (1 + m.2 % 4)

theorem shaped_new {m : Int × Int} (_h1 : 0 ≤ m.1) (_h2 : 0 ≤ m.2) : isNew (1 + m.1 % 4) (1 + m.2 % 4) = true := by
  have := Int.emod_nonneg m.1 (show (4 : Int) ≠ 0 by decide)
  have := Int.emod_nonneg m.2 (show (4 : Int) ≠ 0 by decide)
  have := Int.emod_lt_of_pos m.1 (show (0 : Int) < 4 by decide)
  have := Int.emod_lt_of_pos m.2 (show (0 : Int) < 4 by decide)
  simp [isNew]; omega

set_option maxHeartbeats 8000000 in
theorem done_any (m : Int × Int) (hm1 : 0 ≤ m.1 ∧ m.1 ≤ 255) (hm2 : 0 ≤ m.2 ∧ m.2 ≤ 255) (l : List Dd) (v : Value) (w : World) (hv : IsDeeds w v l) :
    Calls Try.prog 17 #[.agg #[.int .u8 m.1, .int .u8 m.2], v] w fun e w' => ∃ B Fp, e = .returned (.pointer (some ⟨B, 0, none⟩)) ∧ YNew w.heap.size w' B (after (shaped m) l) Fp ∧ Grew w w' := by
  have hN := shaped_new hm1.1 hm2.1
  have hI0 : Hz.Inv (shaped m) := new_inv hN
  have HN := hid (fun y => new_ok (1 + m.1 % 4) (1 + m.2 % 4) y hN)
  obtain ⟨Y0, hY0⟩ : ∃ Y0, shaped m = Y0 := ⟨_, rfl⟩
  rw [hY0] at hI0 ⊢
  rw [show new (1 + m.1 % 4) (1 + m.2 % 4) = Y0 from hY0] at HN
  obtain ⟨a, b⟩ := m
  simp only at hm1 hm2 HN ⊢
  obtain ⟨a0, a1⟩ := hm1
  obtain ⟨b0, b1⟩ := hm2
  obtain ⟨va, vc, rfl, hm, hdd⟩ := hv
  obtain ⟨n, hn⟩ : ∃ n, l.length = n := ⟨_, rfl⟩
  have HLN := hid hn
  have HDD := hid hdd
  rw [hn] at hm ⊢
  have hg := grew_refl w
  clear hn hdd hN hY0
  go_enter Try.func17, Try.ntmps17
  go_wp2_with (go_at_call 27; (with_reducible refine (HN.out _).mono ?_); rintro e w2 ⟨B, Fp, rfl, hy, hlo, hx⟩; have HY := hid hy; have HLO := hid hlo; have HX := hid hx; clear hy hlo hx)
  have HY2 := hid (show YNew w.heap.size w2 B Y0 Fp from ⟨HY.out, fun k hk => by have := HLO.out k hk; simp at this; omega, hI0⟩)
  have HG := hid (show Grew w w2 from grew_trans (grew_alloc (grew_refl w) _) HX.out)
  clear hg HY HLO HX
  go_loopg [7] n (fun k i wr => ∃ (j : Nat) (Fp : List Nat), j ≤ n ∧ i = .int .i64 j ∧ k = n - j ∧ Hid (YNew w.heap.size wr B (after Y0 (l.take j)) Fp) ∧ Hid (Grew w wr))
  case atStart => exact ⟨0, Fp, by omega, rfl, rfl, HY2, HG⟩
  case round =>
    obtain ⟨j, Fp, hj, rfl, hk, HYJ, HGR⟩ := hrel
    have HK := hid hk; clear hk
    have hwr := HGR.out.size
    by_cases hlt : j < n
    · obtain ⟨x, hx⟩ : ∃ x, l[j]? = some x := ⟨_, List.getElem?_eq_getElem (by rw [HLN.out]; exact hlt)⟩
      obtain ⟨b, off, rfl, hda⟩ := HDD.out j x hx
      have hda' := hda.grew hda.lt HGR.out
      have k0 := hda'.c0
      have k1 := hda'.c1
      have k2 := hda'.c2
      have k3 := hda'.c3
      have hbw := hda'.lt
      obtain ⟨d, a, bb, c⟩ := x
      simp only at k0 k1 k2 k3
      have HTK := hid (take_snoc hx)
      rename World => wr
      have HDO := hid (do_any (after Y0 (l.take j)) HYJ.out.inv B Fp d a bb c wr HYJ.out.yard)
      have has := after_snoc Y0 (l.take j) ⟨d, a, bb, c⟩
      have hIs := HYJ.out.inv.doD d a bb c
      have HAS := hid has
      have HIS := hid hIs
      clear has hIs hx hda hda'
      go_wp2_with (go_at_call 18; (with_reducible refine HDO.out.mono ?_); go_loud (
        rintro e w5 hdp
        unfold DoPost at hdp
        obtain ⟨rfl, hdoes⟩ := hdp
        obtain ⟨Fp', hy5, hb5, -, -⟩ := HYJ.out.does hwr hdoes HIS.out
        have HY5 := hid hy5
        have HB5 := hid (HGR.out.trans hb5)
        clear hy5 hb5 hdoes))
      go_roundg (n - (j + 1))
      case measure => have := HK.out; omega
      case rel => exact ⟨j + 1, Fp', by omega, by go_num, rfl, hid (by rw [HTK.out, HAS.out]; exact HY5.out), HB5⟩
    · obtain rfl : j = n := by omega
      go_wp2
      go_ret
      have htk : l.take j = l := List.take_of_length_le (by rw [HLN.out]; omega)
      have h1 := HYJ.out
      rw [htk] at h1
      exact ⟨B, Fp, rfl, h1, HGR.out⟩

set_option maxHeartbeats 2000000 in
theorem has_any (v : Value) (l : List Int) (x : Int) (w : World) (hv : IsInts Any w v l) : Calls Try.prog 23 #[v, .int .i64 x] w fun e w' => e = .returned (.bool (decide (x ∈ l))) ∧ w = w' := by
  obtain ⟨a, cap, rfl, hm, hc⟩ := hv
  have HC := hid hc; clear hc
  obtain ⟨n, hn⟩ : ∃ n, l.length = n := ⟨_, rfl⟩
  obtain ⟨r, hr⟩ : ∃ r, decide (x ∈ l) = r := ⟨_, rfl⟩
  rw [hn] at hm HC ⊢
  rw [hr]
  have HN := hid hn
  have HR := hid hr
  clear hn hr
  go_enter Try.func23, Try.ntmps23
  go_wp2
  go_loopg [5] n (fun k i wr => ∃ j : Nat, j ≤ n ∧ i = .int .i64 j ∧ k = n - j ∧ Hid (∀ t, t < j → nth l t ≠ x) ∧ w = wr)
  case atStart => exact ⟨0, by omega, rfl, rfl, hid (fun t ht => by omega), rfl⟩
  case round =>
    obtain ⟨j, hj, rfl, hk, HT, rfl⟩ := hrel
    have HK := hid hk; clear hk
    by_cases hlt : j < n
    · obtain ⟨b, off, o, rfl, hb, _, hcj⟩ := HC.out j hlt
      have hbl := lt_of_obj hb
      replace hcj : _ = some (Value.int .i64 (nth l j)) := hcj
      by_cases hop : nth l j = x
      · have hop2 : (nth l j == x) = true := by simpa using hop
        have HOP := hid hop
        clear hop
        go_wp2
        go_ret
        refine ⟨ret_bool (Eq.trans ?_ HR.out), rfl⟩
        symm
        rw [decide_eq_true_iff, ← HOP.out, nth_lt (by rw [HN.out]; exact hlt)]
        exact List.getElem_mem _
      · have hop2 : (nth l j == x) = false := by simpa using hop
        have HOP := hid hop
        clear hop
        go_wp2
        go_roundg (n - (j + 1))
        case measure => have := HK.out; omega
        case rel => exact ⟨j + 1, by omega, by go_num, rfl, hid (lt_succ_all HT.out HOP.out), rfl⟩
    · obtain rfl : j = n := by omega
      go_wp2
      go_ret
      refine ⟨ret_bool (Eq.trans ?_ HR.out), rfl⟩
      symm
      rw [decide_eq_false_iff_not]
      intro hx
      obtain ⟨i, hi, rfl⟩ := List.getElem_of_mem hx
      exact HT.out i (by rw [← HN.out]; exact hi) (nth_lt hi)

end Go.Proofs.Ytcifpigjcfkhmaa
