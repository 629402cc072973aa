/- Walk: Play. -/
import Derived.Test.YtcifpigjcfkhmaaHRef8
namespace Go.Lin.Hz

instance : Inhabited Dd := ⟨⟨0, 0, 0, 0⟩⟩

def resN (p : Int × Int) : Int := if p.2 = 0 then p.1 else -p.2
/-- The numbers that Play returns. -/
def playL (Y : Yd) (l : List Dd) : List Int := (given Y l).map resN

theorem playL_snoc (Y : Yd) (l : List Dd) (x : Dd) : playL Y (l ++ [x]) = playL Y l ++ [resN (doD (after Y l) x.d x.a x.b x.c).2] := by
  unfold playL
  rw [given_append, List.map_append]
  rfl

theorem after_snoc (Y : Yd) (l : List Dd) (x : Dd) : after Y (l ++ [x]) = (doD (after Y l) x.d x.a x.b x.c).1 := by
  rw [after_append]; rfl

theorem doD_f (Y : Yd) (d a b c : Int) : (doD Y d a b c).2.2 = 0 ∨ (doD Y d a b c).2.2 = 2 ∨ (doD Y d a b c).2.2 = 5 := by
  unfold doD take point clear putBy sweep use
  grind

theorem take_snoc {α : Type} {l : List α} {j : Nat} {x : α} (h : l[j]? = some x) : l.take (j + 1) = l.take j ++ [x] := by
  rw [List.take_add_one, h]; rfl

end Go.Lin.Hz
namespace Go.Proofs.Ytcifpigjcfkhmaa
open Go.RowKit Go.Lin Go.Lin.Hz

/-- The deed at the index i lies there. -/
structure DeedAt (w : World) (b o : Nat) (x : Dd) : Prop where
  lt : b < w.heap.size
  c0 : w.cell? ⟨b, o, none⟩ = some (.int .i64 x.d)
  c1 : w.cell? ⟨b, o + 1, none⟩ = some (.int .i64 x.a)
  c2 : w.cell? ⟨b, o + 2, none⟩ = some (.int .i64 x.b)
  c3 : w.cell? ⟨b, o + 3, none⟩ = some (.int .i64 x.c)

theorem DeedAt.grew {B : Nat} {w w' : World} {b o : Nat} {x : Dd} (h : DeedAt w b o x) (hb : b < B) (hg : Below B w w') : DeedAt w' b o x :=
  ⟨Nat.lt_of_lt_of_le h.lt hg.size, (hg.cell (p := ⟨b, o, none⟩) hb).trans h.c0, (hg.cell (p := ⟨b, o + 1, none⟩) hb).trans h.c1, (hg.cell (p := ⟨b, o + 2, none⟩) hb).trans h.c2, (hg.cell (p := ⟨b, o + 3, none⟩) hb).trans h.c3⟩

/-- A slice of deeds. -/
def IsDeeds (w : World) (v : Value) (l : List Dd) : Prop :=
  ∃ (a : Option Addr) (cap : Nat), v = .slice a l.length cap ∧ l.length ≤ 9223372036854775807 ∧ ∀ i x, l[i]? = some x → ∃ b off, a = some ⟨b, off, none⟩ ∧ DeedAt w b (off + i * 4) x

theorem IsDeeds.grew {w w' : World} {v : Value} {l : List Dd} (h : IsDeeds w v l) (hg : Grew w w') : IsDeeds w' v l := by
  obtain ⟨a, cap, h1, h2, h3⟩ := h
  refine ⟨a, cap, h1, h2, fun i x hx => ?_⟩
  obtain ⟨b, off, h4, h5⟩ := h3 i x hx
  exact ⟨b, off, h4, h5.grew h5.lt hg⟩

/-- A yard that lies in new blocks. -/
structure YNew (base : Nat) (w : World) (B : Nat) (Y : Yd) (Fp : List Nat) : Prop where
  yard : IsYard w B Y Fp
  lo : ∀ k ∈ Fp, base ≤ k
  inv : Hz.Inv Y

theorem YNew.does {base : Nat} {w w' : World} {B : Nat} {Y Y' : Yd} {Fp : List Nat} (h : YNew base w B Y Fp) (hb : base ≤ w.heap.size) (hd : Does w w' B Fp Y') (hI : Hz.Inv Y') : ∃ Fp', YNew base w' B Y' Fp' ∧ Below base w w' ∧ Keeps (fun k _ => k ∈ Fp) w w' ∧ ∀ k ∈ Fp', k ∈ Fp ∨ w.heap.size ≤ k := by
  obtain ⟨F, h1, h2, h3⟩ := hd
  exact ⟨F, ⟨h1, fun k hk => (h3 k hk).elim (h.lo k) (fun h => Nat.le_trans hb h), hI⟩, h2.below hb (fun k _ hk => h.lo k hk), h2, h3⟩

theorem YNew.grew {base : Nat} {w w' : World} {B : Nat} {Y : Yd} {Fp : List Nat} (h : YNew base w B Y Fp) (hg : Grew w w') : YNew base w' B Y Fp := ⟨IsYardAt.grew h.yard hg, h.lo, h.inv⟩

theorem YNew.lt {base : Nat} {w : World} {B : Nat} {Y : Yd} {Fp : List Nat} (h : YNew base w B Y Fp) : ∀ k ∈ Fp, k < w.heap.size := IsYardAt.lt h.yard

theorem below_of_grew {B : Nat} {a b c : World} (h : Below B a b) (hB : B ≤ b.heap.size) (hg : Grew b c) : Below B a c := h.trans (hg.mono hB)

set_option maxHeartbeats 4000000 in
theorem play_bad (t s : Int) (v : Value) (l : List Dd) (w : World) (hv : IsDeeds w v l) (h : isNew t s = false ∨ 100 < l.length) :
    Calls Try.prog 13 #[.int .i64 t, .int .i64 s, v] w fun e w' => e = .returned (.tuple #[.slice none 0 0, .int .i64 2]) ∧ Grew w w' := by
  obtain ⟨va, vc, rfl, hm, -⟩ := hv
  obtain ⟨n, hn⟩ : ∃ n, l.length = n := ⟨_, rfl⟩
  rw [hn] at h hm ⊢
  have hg := grew_refl w
  cases hN : isNew t s
  · have HN := hid (new_bad t s w hN)
    clear hN h hn
    go_enter Try.func13, Try.ntmps13
    go_wp2_with (go_at_call 27; with_reducible refine HN.out.mono ?_; rintro e w1 ⟨rfl, hx⟩; replace hg := grew_trans hg hx; have hc := (bcell hg).1)
    go_ret2
    exact ⟨rfl, hg⟩
  · have h100 : 100 < n := by rcases h with h | h; rw [hN] at h; cases h; exact h
    have HN := hid (new_ok t s w hN)
    have hd : decide (100 < (n : Int)) = true := by simp; omega
    clear hN h hn
    go_enter Try.func13, Try.ntmps13
    go_wp2_with (go_at_call 27; with_reducible refine HN.out.mono ?_; rintro e w1 ⟨B, Fp, rfl, -, -, hx⟩; replace hg := grew_trans hg hx; have hc := (bcell hg).1)
    go_ret2
    exact ⟨rfl, hg⟩

set_option maxHeartbeats 8000000 in
theorem play_ok (t s : Int) (v : Value) (l : List Dd) (w : World) (hv : IsDeeds w v l) (h : isNew t s = true) (hl : l.length ≤ 100) :
    Calls Try.prog 13 #[.int .i64 t, .int .i64 s, v] w fun e w' => ∃ u, e = .returned (.tuple #[u, .int .i64 0]) ∧ IsInts Any w' u (playL (new t s) l) ∧ Grew w w' := by
  obtain ⟨va, vc, rfl, hm, hdd⟩ := hv
  obtain ⟨n, hn⟩ : ∃ n, l.length = n := ⟨_, rfl⟩
  rw [hn] at hm hl ⊢
  have HD := hid hdd
  have HN := hid (new_ok t s w h)
  have hI0 := new_inv h
  obtain ⟨Y0, hY0⟩ : ∃ Y0, new t s = Y0 := ⟨_, rfl⟩
  rw [hY0] at HN hI0 ⊢
  have HLN := hid hn
  have hd : decide (100 < (n : Int)) = false := by simp; omega
  clear hdd h hn hY0
  go_enter Try.func13, Try.ntmps13
  go_wp2_with (go_at_call 27; with_reducible refine HN.out.mono ?_; rintro e w1 ⟨B, Fp, rfl, hy, hlo, hg⟩; have HY := hid (show YNew w.heap.size w1 B Y0 Fp from ⟨hy, hlo, hI0⟩); clear hy hlo)
  go_loopg [10, 12, 13, 14, 30, 34] n (fun k out _ _ _ i _ wr => ∃ (j : Nat) (Fp : List Nat), j ≤ n ∧ i = .int .i64 j ∧ k = n - j ∧ Hid (YNew w.heap.size wr B (after Y0 (l.take j)) Fp) ∧ Hid (Seg wr w.heap.size 3 1 out j ((playL Y0 (l.take j)).map (.int .i64))) ∧ Hid (∀ k, out.ownBlock = some k → k ∉ Fp) ∧ Grew w wr)
  case atStart => exact ⟨0, Fp, by omega, rfl, rfl, HY, hid (Seg.nil _ _ _ _), hid (by simp [Value.ownBlock]), hg⟩
  case round =>
    clear hg
    obtain ⟨j, Fp, hj, rfl, hk, HYJ, HS, HO, hg⟩ := hrel
    have HK := hid hk; clear hk
    by_cases hlt : j < n
    · obtain ⟨x, hx⟩ : ∃ x, l[j]? = some x := ⟨_, List.getElem?_eq_getElem (by rw [HLN.out]; exact hlt)⟩
      obtain ⟨b, off, rfl, hda⟩ := HD.out j x hx
      have hblt := hda.lt
      have hda' := hda.grew hblt hg
      have k0 := hda'.c0
      have k1 := hda'.c1
      have k2 := hda'.c2
      have k3 := hda'.c3
      have hbw := hda'.lt
      obtain ⟨d, a, bb, c⟩ := x
      simp only at k0 k1 k2 k3
      have HTK := hid (take_snoc hx)
      rename World => wr
      obtain ⟨W4, hW4, g4, b0, b1, b2, b3, hz4⟩ := box4 wr (.int .i64 d) (.int .i64 a) (.int .i64 bb) (.int .i64 c) 32
      have HDO := hid (do_any (after Y0 (l.take j)) HYJ.out.inv B Fp d a bb c W4 (IsYardAt.grew HYJ.out.yard g4))
      have hf := doD_f (after Y0 (l.take j)) d a bb c
      have hps := playL_snoc Y0 (l.take j) ⟨d, a, bb, c⟩
      have has := after_snoc Y0 (l.take j) ⟨d, a, bb, c⟩
      have hIs := HYJ.out.inv.doD d a bb c
      obtain ⟨Y', n', f', hr⟩ : ∃ Y' n' f', doD (after Y0 (l.take j)) d a bb c = (Y', n', f') := ⟨_, _, _, rfl⟩
      have HDR := hid hr
      simp only [hr] at hf hps has hIs
      have HPS := hid hps
      have HAS := hid has
      have HIS := hid hIs
      obtain ⟨vs, hvs⟩ : ∃ vs, (playL Y0 (l.take j)).map (Value.int .i64) = vs := ⟨_, rfl⟩
      have HVS := hid hvs
      rw [hvs] at HS
      have HG := hid hg
      have hwr := hg.size
      clear hr hps has hIs hvs hx hda hda' hg
      rcases hf with rfl | rfl | rfl
      all_goals
        go_wp2_with (first
          | (go_at_call 18; (with_reducible refine HDO.out.mono ?_); go_loud (
              rintro e w5 hdp
              unfold DoPost at hdp
              rw [HDR.out] at hdp
              obtain ⟨rfl, hdoes⟩ := hdp
              obtain ⟨Fp', hy5, hb5, hk5, hf5⟩ := (HYJ.out.grew g4).does (Nat.le_trans hwr g4.size) hdoes HIS.out
              have hsz5 := hk5.size
              have hseg := ((HS.out.grew g4).keeps hk5 (fun k o hk _ => HO.out k hk))
              have HY5 := hid hy5
              have HB5 := hid hb5
              have HO5 := hid (show ∀ k, Value.ownBlock _ = some k → k ∉ Fp' from fun k hk hm => (hf5 k hm).elim (HO.out k hk) (fun h => by have := ((HS.out.grew g4).own k hk).2.1; omega))
              have hg5 : Grew w w5 := (below_of_grew HG.out hwr g4).trans hb5
              have hsw5 := hg5.size
              have hc5 : w5.cell? ⟨wr.heap.size, 0, none⟩ = W4.cell? ⟨wr.heap.size, 0, none⟩ := keeps_cell hk5 0 hz4 (fun _ hm => by have := HYJ.out.lt _ hm; omega)
              clear hy5 hb5 hk5 hf5 hdoes))
          | (at_builtin; refine wpList_append_one rfl _ _ 24 rfl w.heap.size 3 Try.underlying24 Try.info3 rfl (by decide) _ j _ rfl (hseg.alloc _) _ _ _ rfl (one_new _ _ _) rfl (by omega) ?_ ?_; (simp only [World.size_alloc]; omega); intro v9 w9 hown9 hgrow9 hblk9; have HGR9 := hid hgrow9; have HBL9 := hid hblk9; clear hgrow9 hblk9))
        have hk9 := ((Keeps.refl (fun k _ => u10.ownBlock = some k) w5).alloc _).trans (keeps_of_grown HGR9.out)
        have hb9 : Below w.heap.size w5 w9 := hk9.below hsw5 (fun k o e => (hseg.own k e).1)
        have HY9 := hid (show YNew w.heap.size w9 B (after Y0 (l.take (j + 1))) Fp' by
          rw [HTK.out, HAS.out]
          exact ⟨IsYardAt.keeps HY5.out.yard hk9 (fun k o hk e => HO5.out k e hk), HY5.out.lo, HY5.out.inv⟩)
        have HS9 := hid (show Seg w9 w.heap.size 3 1 v9 (j + 1) ((playL Y0 (l.take (j + 1))).map (.int .i64)) by
          rw [HTK.out, HPS.out]; simpa [HVS.out, resN] using hown9)
        have HO9 := hid (show ∀ k, v9.ownBlock = some k → k ∉ Fp' from fun k hk hm => by
          rcases HBL9.out with h | h
          · rw [h] at hk; exact HO5.out k hk hm
          · rw [h] at hk; simp at hk; have := HY5.out.lt k hm; omega)
        have HG9 := hid (hg5.trans hb9)
        clear hk9 hb9 hown9 hseg hc5
        go_roundg (n - (j + 1))
        case measure => have := HK.out; omega
        case rel => exact ⟨j + 1, Fp', by omega, by go_num, rfl, HY9, HS9, HO9, HG9.out⟩
    · obtain rfl : j = n := by omega
      go_wp2
      go_ret2
      have htk : l.take j = l := List.take_of_length_le (by rw [HLN.out]; omega)
      have h1 := HS.out
      rw [htk] at h1
      have hlen : (playL Y0 l).length = j := by have := h1.1; simpa using this
      refine ⟨_, rfl, (Lst.reads (Lst.of_seg (l := playL Y0 l) (by rw [hlen]; exact h1)).1).any, hg⟩

end Go.Proofs.Ytcifpigjcfkhmaa
