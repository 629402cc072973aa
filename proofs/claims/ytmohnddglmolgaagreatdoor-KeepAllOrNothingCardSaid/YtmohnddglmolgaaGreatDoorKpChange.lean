/- Walk: Change (32). -/
import Derived.Test.YtmohnddglmolgaaGreatDoorKpAdd
namespace Go.Lin
open Go Go.RowKit
theorem Seg.set {w : World} {base n j : Nat} {v : Value} {xs : List Value} (h : Seg w base 3 1 v n xs) {g off cap : Nat} (hv : v = .slice (some ⟨g, off, none⟩) n cap) (hj : j < n) (u : Value) :
    Seg (w.setCell ⟨g, off + j, none⟩ u) base 3 1 v n (xs.set j u) := by
  obtain ⟨h1, h2⟩ := h
  refine ⟨by rw [List.length_set]; exact h1, ?_⟩
  rcases h2 with ⟨rfl, _⟩ | ⟨g', off', cap', cur, rfl, hb, hg, hn, hm, hs, ht⟩
  · simp at hv
  · simp only [Value.slice.injEq, Option.some.injEq, Addr.mk.injEq, and_true] at hv
    obtain ⟨⟨rfl, rfl⟩, -, rfl⟩ := hv
    refine .inr ⟨g', off', cap', _, rfl, hb, heap_setCell_same w g' (off' + j) cur 3 u hg, hn, hm, by simpa using hs, ?_⟩
    rw [← ht]
    have hlen : ((cur.toList.drop off').take (n * 1)).length = n := by rw [List.length_take, List.length_drop, Array.length_toList]; omega
    apply List.ext_getElem?
    intro t
    by_cases htj : t = j
    · subst htj
      rw [List.getElem?_take_of_lt (by omega), List.getElem?_drop, Array.getElem?_toList, Array.getElem?_setIfInBounds, if_pos rfl, if_pos (by omega), List.getElem?_set_self (by omega)]
    · rw [List.getElem?_set_ne (by omega)]
      by_cases ht : t < n * 1
      · rw [List.getElem?_take_of_lt ht, List.getElem?_take_of_lt ht, List.getElem?_drop, List.getElem?_drop, Array.getElem?_toList, Array.getElem?_toList, Array.getElem?_setIfInBounds, if_neg (by omega)]
      · rw [List.getElem?_eq_none (by rw [List.length_take]; omega), List.getElem?_eq_none (by rw [List.length_take]; omega)]
end Go.Lin
namespace Go.Proofs.YtmohnddglmolgaaGreatDoor
open Go Go.RowKit Go.Lin Go.Lin.Kp

/-- An entry is changed. -/
theorem book_set {w : World} {bb bm g off i : Nat} {c : Nat} {b : Bk} {G : Nat → Prop} {y : Int} (h : BookIs w bb bm (.slice (some ⟨g, off, none⟩) b.list.length c) b G) (hi : i < b.list.length) (hg : (Value.slice (some ⟨g, off, none⟩) b.list.length c).ownBlock = some g) :
    IsBook (w.setCell ⟨g, off + i, none⟩ (.int .i64 y)) bb bm { b with list := b.list.set i y } G ∧ Keeps (fun k _ => G k) w (w.setCell ⟨g, off + i, none⟩ (.int .i64 y)) := by
  have hne := h.ne g hg
  have hk : Keeps (fun k _ => G k) w (w.setCell ⟨g, off + i, none⟩ (.int .i64 y)) := keeps_set1 _ _ (fun _ => h.inL g hg)
  refine ⟨⟨.slice (some ⟨g, off, none⟩) b.list.length c, (keeps_set1 _ (fun k _ => k = g) (fun _ => rfl)).obj _ _ h.obj (fun e => hne e.symm), ?_, h.inB, h.inL, fun k hG => Nat.lt_of_lt_of_le (h.lt k hG) hk.size⟩, hk⟩
  have := Seg.set h.list rfl hi (.int .i64 y)
  simpa [List.map_set] using this

set_option maxHeartbeats 4000000 in
set_option maxRecDepth 20000 in
theorem change32_any (bb bm : Nat) (b : Bk) (M : Mem) (F G : Nat → Prop) (number n : Int) (w : World) (hB : IsBook w bb bm b G) (h : IsMem w bm M F) (hFG : ∀ k, F k → ¬ G k) (hok : Ok M) (hsz : M.size + 20 < 1000000000) (hlen : b.list.length ≤ 20) :
    Calls Tryz.prog 32 #[ptr bb, .int .i64 number, .int .i64 n] w (DeedLeft w bb bm F G (M.change b number n)) := by
  have HA := hid (asked64_any bb bm b G M F n w hB h)
  have HB := hid hB; have HM := hid h
  unfold Mem.change
  obtain ⟨q, hq⟩ : ∃ q, askedB M b n = q := ⟨_, rfl⟩
  rw [hq] at HA ⊢
  clear hq h
  by_cases h0 : q = 0
  · subst h0
    rw [if_pos rfl]
    obtain ⟨v, hb⟩ := hB
    obtain ⟨va, vc, rfl, hvl⟩ := hb.list.shape
    obtain ⟨l, hl⟩ : ∃ l, b.list.length = l := ⟨_, rfl⟩
    rw [hl] at hb hlen ⊢
    have HL := hid hl
    have HBI := hid hb
    have c0 := hb.c0; have c2 := hb.c2
    have hbl := lt_of_obj hb.obj
    have HBE := hid (fun W => between54_any 1 number (l : Int) W)
    clear hvl hl hb
    by_cases hA : 1 ≤ number ∧ number ≤ (l : Int)
    · rw [if_pos hA]
      obtain ⟨hA1, hA2⟩ := hA
      rw [show (decide (1 ≤ number) && decide (number ≤ (l : Int))) = true by simp [hA1, hA2]] at HBE
      obtain ⟨i, rfl⟩ : ∃ i : Nat, number = ((i : Int) + 1) := ⟨(number - 1).toNat, by omega⟩
      have hil : i < l := by omega
      rw [show ((i : Int) + 1 - 1).toNat = i by omega]
      obtain ⟨g, off, gc0, cur, hv, hg0, hgo, hcap, hcapm, hcells⟩ := HBI.out.list.at (by rw [HL.out]; omega)
      rw [HL.out] at hv
      cases hv
      have hgl := lt_of_obj hgo
      have hci := hcells i (by rw [HL.out]; omega)
      obtain ⟨was, hwas⟩ : ∃ x, nth b.list i = x := ⟨_, rfl⟩
      rw [List.getElem?_map, List.getElem?_eq_getElem (by rw [HL.out]; exact hil), Option.map_some, ← nth_lt (by rw [HL.out]; exact hil), hwas] at hci
      rw [hwas]
      unfold changeO
      obtain ⟨o1, h1⟩ : ∃ o, Ord.write (0, M) 41 ((i : Int) + 1) = o := ⟨_, rfl⟩
      obtain ⟨o2, h2⟩ : ∃ o, Ord.write o1 42 was = o := ⟨_, rfl⟩
      obtain ⟨o3, h3⟩ : ∃ o, Ord.flush o2 41 = o := ⟨_, rfl⟩
      obtain ⟨o4, h4⟩ : ∃ o, Ord.flush o3 42 = o := ⟨_, rfl⟩
      obtain ⟨o5, h5⟩ : ∃ o, Ord.fence o4 = o := ⟨_, rfl⟩
      obtain ⟨o6, h6⟩ : ∃ o, Ord.put o5 40 1 = o := ⟨_, rfl⟩
      obtain ⟨o7, h7⟩ : ∃ o, Ord.put o6 ((i : Int) + 1) n = o := ⟨_, rfl⟩
      obtain ⟨o8, h8⟩ : ∃ o, Ord.put o7 40 0 = o := ⟨_, rfl⟩
      rw [h1, h2, h3, h4, h5, h6, h7, h8]
      dsimp only
      have k1 : Ok o1.2 := h1 ▸ ok_owrite hok _ _
      have k2 : Ok o2.2 := h2 ▸ ok_owrite k1 _ _
      have k3 : Ok o3.2 := h3 ▸ ok_oflush k2 _
      have k4 : Ok o4.2 := h4 ▸ ok_oflush k3 _
      have k5 : Ok o5.2 := h5 ▸ ok_ofence k4
      have k6 : Ok o6.2 := h6 ▸ ok_put k5 _ _
      have k7 : Ok o7.2 := h7 ▸ ok_put k6 _ _
      have s1 : o1.2.size ≤ M.size + 1 := h1 ▸ size_owrite (0, M) _ _
      have s2 : o2.2.size ≤ o1.2.size + 1 := h2 ▸ size_owrite o1 _ _
      have s3 : o3.2.size ≤ o2.2.size + 1 := h3 ▸ size_oflush o2 _
      have s4 : o4.2.size ≤ o3.2.size + 1 := h4 ▸ size_oflush o3 _
      have s5 : o5.2.size ≤ o4.2.size + 1 := h5 ▸ size_ofence o4
      have s6 : o6.2.size ≤ o5.2.size + 3 := h6 ▸ size_put o5 _ _
      have s7 : o7.2.size ≤ o6.2.size + 3 := h7 ▸ size_put o6 _ _
      have P1 := hid (fun (W : World) (bo : Nat) (hb : OrdAt W bo bm 0) (hnF : ¬ F bo) (h : IsMem W bm M F) => (by rw [← h1]; exact owrite66_any bo bm (0, M) F W _ _ hb hnF h hok (by dsimp only; omega) : Calls Tryz.prog 66 #[ptr bo, .int .i64 41, .int .i64 ((i : Int) + 1)] W (LeftO W bo bm o1 F)))
      have P2 := hid (fun (W : World) (bo : Nat) (hb : OrdAt W bo bm o1.1) (hnF : ¬ F bo) (h : IsMem W bm o1.2 F) => (by rw [← h2]; exact owrite66_any bo bm o1 F W _ _ hb hnF h k1 (by omega) : Calls Tryz.prog 66 #[ptr bo, .int .i64 42, .int .i64 was] W (LeftO W bo bm o2 F)))
      have P3 := hid (fun (W : World) (bo : Nat) (hb : OrdAt W bo bm o2.1) (hnF : ¬ F bo) (h : IsMem W bm o2.2 F) => (by rw [← h3]; exact oflush67_any bo bm o2 F W _ hb hnF h k2 (by omega) : Calls Tryz.prog 67 #[ptr bo, .int .i64 41] W (LeftO W bo bm o3 F)))
      have P4 := hid (fun (W : World) (bo : Nat) (hb : OrdAt W bo bm o3.1) (hnF : ¬ F bo) (h : IsMem W bm o3.2 F) => (by rw [← h4]; exact oflush67_any bo bm o3 F W _ hb hnF h k3 (by omega) : Calls Tryz.prog 67 #[ptr bo, .int .i64 42] W (LeftO W bo bm o4 F)))
      have P5 := hid (fun (W : World) (bo : Nat) (hb : OrdAt W bo bm o4.1) (hnF : ¬ F bo) (h : IsMem W bm o4.2 F) => (by rw [← h5]; exact ofence68_any bo bm o4 F W hb hnF h k4 (by omega) : Calls Tryz.prog 68 #[ptr bo] W (LeftO W bo bm o5 F)))
      have P6 := hid (fun (W : World) (bo : Nat) (hb : OrdAt W bo bm o5.1) (hnF : ¬ F bo) (h : IsMem W bm o5.2 F) => (by rw [← h6]; exact put65_any bo bm o5 F W _ _ hb hnF h k5 (by omega) : Calls Tryz.prog 65 #[ptr bo, .int .i64 40, .int .i64 1] W (LeftO W bo bm o6 F)))
      have P7 := hid (fun (W : World) (bo : Nat) (c : Int) (hc : c = (i : Int) + 1) (hb : OrdAt W bo bm o6.1) (hnF : ¬ F bo) (h : IsMem W bm o6.2 F) => (by rw [hc, ← h7]; exact put65_any bo bm o6 F W _ _ hb hnF h k6 (by omega) : Calls Tryz.prog 65 #[ptr bo, .int .i64 c, .int .i64 n] W (LeftO W bo bm o7 F)))
      have P8 := hid (fun (W : World) (bo : Nat) (hb : OrdAt W bo bm o7.1) (hnF : ¬ F bo) (h : IsMem W bm o7.2 F) => (by rw [← h8]; exact put65_any bo bm o7 F W _ _ hb hnF h k7 (by omega) : Calls Tryz.prog 65 #[ptr bo, .int .i64 40, .int .i64 0] W (LeftO W bo bm o8 F)))
      obtain ⟨eV, heV⟩ : ∃ e, o8.1 = e := ⟨_, rfl⟩
      rw [heV]
      have D1 := hid (fun (W : World) (bo : Nat) (h : OrdAt W bo bm o8.1) => (by rw [← heV]; exact h.c1 : W.cell? ⟨bo, 1, none⟩ = some (.int .i64 eV)))
      have HFG := hid hFG
      have HFl := hid (fun k (e : F k) => (by obtain ⟨_, _, h⟩ := HM.out; exact h.lt k e : k < w.heap.size))
      have hwl : IntKind.i64.wrap ((i : Int) + 1 - 1) = (i : Int) := by rw [Int.add_sub_cancel]; exact IntWalk.i64_in _ (by omega)
      have hilI : (i : Int) < (l : Int) := by omega
      have HCI := hid (fun (W : World) (h : BookIs W bb bm (.slice (some ⟨g, off, none⟩) l vc) b G) => (by
        obtain ⟨_, _, e, _, hc⟩ := h.list.isInts
        simp only [Value.slice.injEq] at e
        obtain ⟨rfl, -, -⟩ := e
        obtain ⟨b', off', o', e1, _, _, e4⟩ := hc i (by rw [HL.out]; exact hil)
        cases e1
        rw [← hwas]; exact e4 : W.cell? ⟨g, off + i, none⟩ = some (.int .i64 was)))
      have HFR := hid (fun (W : World) (h : BookIs W bb bm (.slice (some ⟨g, off, none⟩) l vc) b G) => (by
        obtain ⟨_, _, cur, hc⟩ := h.list.own g rfl
        exact frozen_of_row _ _ _ _ _ hc : W.frozen? ⟨g, off + i, none⟩ = false))
      have HOB := hid (show (Value.slice (some ⟨g, off, none⟩) l vc).ownBlock = some g from rfl)
      clear h1 h2 h3 h4 h5 h6 h7 h8 k1 k2 k3 k4 k5 k6 k7 s1 s2 s3 s4 s5 s6 s7 heV hFG hsz hwas hcells hcap hcapm hg0 hgo
      by_cases he : eV = 0
      · subst he
        rw [if_pos rfl]
        go_enter Tryz.func32, Tryz.ntmps32
        go_wp2_with (first
          | (go_at_call 64; (with_reducible refine HA.out.mono ?_); rintro e w1 ⟨rfl, hg⟩; obtain ⟨w2, hw2, g2, hoo, hz2⟩ := ord_new w1 bm; have d0 := (hg.cell (p := ⟨bb, 0, none⟩) hbl).trans c0; have d2 := (hg.cell (p := ⟨bb, 2, none⟩) hbl).trans c2; have hg2 := grew_trans hg g2; have HM2 := hid (HM.out.grew hg2); have HBI2 := hid (HBI.out.grew hg2); have HO2 := hid hoo; have HG2 := hid hg2; have hnF : ¬ F w1.heap.size := (fun e => by have := HFl.out _ e; have := hg.size; omega); have HW1 := hid hg.size; have HW2 := hid g2.size; have HNG : Hid (∀ k, G k → k ≠ w1.heap.size) := hid (fun k hG e => by have := HBI.out.lt k hG; have := hg.size; omega); clear hg g2 hoo hg2)
          | (go_at_call 54; (with_reducible refine (HBE.out _).mono ?_); rintro e wq ⟨rfl, rfl⟩)
          | (go_at_call 66; (with_reducible refine (P1.out _ _ HO2.out hnF HM2.out).mono ?_); rintro e w3 ⟨rfl, hm, ho, hk⟩; have HM3 := hid hm; have HO3 := hid ho; have HK3 := hid hk; have hbk := HBI2.out.keeps hk (fun k o hG e => e.elim (fun e => HFG.out k e hG) (fun e => HNG.out k hG e)); have HBI3 := hid hbk; have b2 := hbk.c2; have y0 := HCI.out _ hbk; clear hm ho hk hbk)
          | (go_at_call 66; (with_reducible refine (P2.out _ _ HO3.out hnF HM3.out).mono ?_); rintro e w4 ⟨rfl, hm, ho, hk⟩; have HM4 := hid hm; have HO4 := hid ho; have HK4 := hid hk; have hbk := HBI3.out.keeps hk (fun k o hG e => e.elim (fun e => HFG.out k e hG) (fun e => HNG.out k hG e)); have HBI4 := hid hbk; clear hm ho hk hbk)
          | (go_at_call 67; (with_reducible refine (P3.out _ _ HO4.out hnF HM4.out).mono ?_); rintro e w5 ⟨rfl, hm, ho, hk⟩; have HM5 := hid hm; have HO5 := hid ho; have HK5 := hid hk; have hbk := HBI4.out.keeps hk (fun k o hG e => e.elim (fun e => HFG.out k e hG) (fun e => HNG.out k hG e)); have HBI5 := hid hbk; clear hm ho hk hbk)
          | (go_at_call 67; (with_reducible refine (P4.out _ _ HO5.out hnF HM5.out).mono ?_); rintro e w6 ⟨rfl, hm, ho, hk⟩; have HM6 := hid hm; have HO6 := hid ho; have HK6 := hid hk; have hbk := HBI5.out.keeps hk (fun k o hG e => e.elim (fun e => HFG.out k e hG) (fun e => HNG.out k hG e)); have HBI6 := hid hbk; clear hm ho hk hbk)
          | (go_at_call 68; (with_reducible refine (P5.out _ _ HO6.out hnF HM6.out).mono ?_); rintro e w7 ⟨rfl, hm, ho, hk⟩; have HM7 := hid hm; have HO7 := hid ho; have HK7 := hid hk; have hbk := HBI6.out.keeps hk (fun k o hG e => e.elim (fun e => HFG.out k e hG) (fun e => HNG.out k hG e)); have HBI7 := hid hbk; clear hm ho hk hbk)
          | (go_at_call 65; (with_reducible refine (P6.out _ _ HO7.out hnF HM7.out).mono ?_); rintro e w8 ⟨rfl, hm, ho, hk⟩; have HM8 := hid hm; have HO8 := hid ho; have HK8 := hid hk; have hbk := HBI7.out.keeps hk (fun k o hG e => e.elim (fun e => HFG.out k e hG) (fun e => HNG.out k hG e)); have HBI8 := hid hbk; clear hm ho hk hbk)
          | (go_at_call 65; (with_reducible refine (P7.out _ _ _ (by omega) HO8.out hnF HM8.out).mono ?_); rintro e w9 ⟨rfl, hm, ho, hk⟩; have HM9 := hid hm; have HO9 := hid ho; have HK9 := hid hk; have hbk := HBI8.out.keeps hk (fun k o hG e => e.elim (fun e => HFG.out k e hG) (fun e => HNG.out k hG e)); have HBI9 := hid hbk; clear hm ho hk hbk)
          | (go_at_call 65; (with_reducible refine (P8.out _ _ HO9.out hnF HM9.out).mono ?_); rintro e w10 ⟨rfl, hm, ho, hk⟩; have HM10 := hid hm; have HO10 := hid ho; have HK10 := hid hk; have hbk := HBI9.out.keeps hk (fun k o hG e => e.elim (fun e => HFG.out k e hG) (fun e => HNG.out k hG e)); have HBI10 := hid hbk; have d1 := D1.out _ _ ho; have b28 := hbk.c2; have y8 := HCI.out _ hbk; have y9 := HFR.out _ hbk; have d9 : (w10.setCell ⟨g, off + i, none⟩ (.int .i64 n)).cell? ⟨w1.heap.size, 1, none⟩ = some (.int .i64 0) := (by rw [World.cell?_setCell_other _ _ _ _ (fun h => by have h2 : g = w1.heap.size := congrArg Addr.block h; exact HNG.out g (HBI.out.inL g HOB.out) h2)]; exact d1); clear hm ho hk hbk))
        go_ret
        have hk10 := (((((((HK3.out.trans HK4.out).trans HK5.out).trans HK6.out).trans HK7.out).trans HK8.out).trans HK9.out).trans HK10.out)
        have hkw := (keepsO ((HG2.out.keeps).trans hk10) HW1.out).mono (may' := fun k _ => F k ∨ G k) (fun k _ h => .inl h)
        have hs := book_set (y := n) (show BookIs w10 bb bm (.slice (some ⟨g, off, none⟩) b.list.length vc) b G by rw [HL.out]; exact HBI10.out) (by rw [HL.out]; exact hil) rfl
        exact ⟨rfl, HM10.out.keeps hs.2 (fun k _ hF hG => HFG.out k hF hG), ⟨G, hs.1, fun k h => .inl h⟩, hkw.trans (hs.2.mono (fun k _ h => .inr h))⟩
      · rw [if_neg he]
        have e8 : (eV == 0) = false := by simpa using he
        clear he
        go_enter Tryz.func32, Tryz.ntmps32
        go_wp2_with (first
          | (go_at_call 64; (with_reducible refine HA.out.mono ?_); rintro e w1 ⟨rfl, hg⟩; obtain ⟨w2, hw2, g2, hoo, hz2⟩ := ord_new w1 bm; have d0 := (hg.cell (p := ⟨bb, 0, none⟩) hbl).trans c0; have d2 := (hg.cell (p := ⟨bb, 2, none⟩) hbl).trans c2; have hg2 := grew_trans hg g2; have HM2 := hid (HM.out.grew hg2); have HBI2 := hid (HBI.out.grew hg2); have HO2 := hid hoo; have HG2 := hid hg2; have hnF : ¬ F w1.heap.size := (fun e => by have := HFl.out _ e; have := hg.size; omega); have HW1 := hid hg.size; have HW2 := hid g2.size; have HNG : Hid (∀ k, G k → k ≠ w1.heap.size) := hid (fun k hG e => by have := HBI.out.lt k hG; have := hg.size; omega); clear hg g2 hoo hg2)
          | (go_at_call 54; (with_reducible refine (HBE.out _).mono ?_); rintro e wq ⟨rfl, rfl⟩)
          | (go_at_call 66; (with_reducible refine (P1.out _ _ HO2.out hnF HM2.out).mono ?_); rintro e w3 ⟨rfl, hm, ho, hk⟩; have HM3 := hid hm; have HO3 := hid ho; have HK3 := hid hk; have hbk := HBI2.out.keeps hk (fun k o hG e => e.elim (fun e => HFG.out k e hG) (fun e => HNG.out k hG e)); have HBI3 := hid hbk; have b2 := hbk.c2; have y0 := HCI.out _ hbk; clear hm ho hk hbk)
          | (go_at_call 66; (with_reducible refine (P2.out _ _ HO3.out hnF HM3.out).mono ?_); rintro e w4 ⟨rfl, hm, ho, hk⟩; have HM4 := hid hm; have HO4 := hid ho; have HK4 := hid hk; have hbk := HBI3.out.keeps hk (fun k o hG e => e.elim (fun e => HFG.out k e hG) (fun e => HNG.out k hG e)); have HBI4 := hid hbk; clear hm ho hk hbk)
          | (go_at_call 67; (with_reducible refine (P3.out _ _ HO4.out hnF HM4.out).mono ?_); rintro e w5 ⟨rfl, hm, ho, hk⟩; have HM5 := hid hm; have HO5 := hid ho; have HK5 := hid hk; have hbk := HBI4.out.keeps hk (fun k o hG e => e.elim (fun e => HFG.out k e hG) (fun e => HNG.out k hG e)); have HBI5 := hid hbk; clear hm ho hk hbk)
          | (go_at_call 67; (with_reducible refine (P4.out _ _ HO5.out hnF HM5.out).mono ?_); rintro e w6 ⟨rfl, hm, ho, hk⟩; have HM6 := hid hm; have HO6 := hid ho; have HK6 := hid hk; have hbk := HBI5.out.keeps hk (fun k o hG e => e.elim (fun e => HFG.out k e hG) (fun e => HNG.out k hG e)); have HBI6 := hid hbk; clear hm ho hk hbk)
          | (go_at_call 68; (with_reducible refine (P5.out _ _ HO6.out hnF HM6.out).mono ?_); rintro e w7 ⟨rfl, hm, ho, hk⟩; have HM7 := hid hm; have HO7 := hid ho; have HK7 := hid hk; have hbk := HBI6.out.keeps hk (fun k o hG e => e.elim (fun e => HFG.out k e hG) (fun e => HNG.out k hG e)); have HBI7 := hid hbk; clear hm ho hk hbk)
          | (go_at_call 65; (with_reducible refine (P6.out _ _ HO7.out hnF HM7.out).mono ?_); rintro e w8 ⟨rfl, hm, ho, hk⟩; have HM8 := hid hm; have HO8 := hid ho; have HK8 := hid hk; have hbk := HBI7.out.keeps hk (fun k o hG e => e.elim (fun e => HFG.out k e hG) (fun e => HNG.out k hG e)); have HBI8 := hid hbk; clear hm ho hk hbk)
          | (go_at_call 65; (with_reducible refine (P7.out _ _ _ (by omega) HO8.out hnF HM8.out).mono ?_); rintro e w9 ⟨rfl, hm, ho, hk⟩; have HM9 := hid hm; have HO9 := hid ho; have HK9 := hid hk; have hbk := HBI8.out.keeps hk (fun k o hG e => e.elim (fun e => HFG.out k e hG) (fun e => HNG.out k hG e)); have HBI9 := hid hbk; clear hm ho hk hbk)
          | (go_at_call 65; (with_reducible refine (P8.out _ _ HO9.out hnF HM9.out).mono ?_); rintro e w10 ⟨rfl, hm, ho, hk⟩; have HM10 := hid hm; have HO10 := hid ho; have HK10 := hid hk; have hbk := HBI9.out.keeps hk (fun k o hG e => e.elim (fun e => HFG.out k e hG) (fun e => HNG.out k hG e)); have HBI10 := hid hbk; have d1 := D1.out _ _ ho; have b28 := hbk.c2; have y8 := HCI.out _ hbk; have y9 := HFR.out _ hbk; have d9 : (w10.setCell ⟨g, off + i, none⟩ (.int .i64 n)).cell? ⟨w1.heap.size, 1, none⟩ = some (.int .i64 eV) := (by rw [World.cell?_setCell_other _ _ _ _ (fun h => by have h2 : g = w1.heap.size := congrArg Addr.block h; exact HNG.out g (HBI.out.inL g HOB.out) h2)]; exact d1); clear hm ho hk hbk))
        go_ret
        have hk10 := (((((((HK3.out.trans HK4.out).trans HK5.out).trans HK6.out).trans HK7.out).trans HK8.out).trans HK9.out).trans HK10.out)
        have hkw := (keepsO ((HG2.out.keeps).trans hk10) HW1.out).mono (may' := fun k _ => F k ∨ G k) (fun k _ h => .inl h)
        exact ⟨rfl, HM10.out, ⟨G, ⟨_, HBI10.out⟩, fun k h => .inl h⟩, hkw⟩
    · rw [if_neg hA]
      rw [show (decide (1 ≤ number) && decide (number ≤ (l : Int))) = false by
        rw [Bool.and_eq_false_iff]; by_cases h2 : 1 ≤ number
        · right; simp; omega
        · left; simp; omega] at HBE
      clear hA
      go_enter Tryz.func32, Tryz.ntmps32
      go_wp2_with (first
        | (go_at_call 64; (with_reducible refine HA.out.mono ?_); rintro e w1 ⟨rfl, hg⟩; have HG := hid hg; have d0 := (hg.cell (p := ⟨bb, 0, none⟩) hbl).trans c0; have d2 := (hg.cell (p := ⟨bb, 2, none⟩) hbl).trans c2; clear hg)
        | (go_at_call 54; (with_reducible refine (HBE.out _).mono ?_); rintro e w2 ⟨rfl, rfl⟩))
      go_ret
      exact ⟨rfl, HM.out.grew HG.out, ⟨G, HB.out.grew HG.out, fun k h => .inl h⟩, HG.out.keeps⟩
  · rw [if_neg h0]
    have e1 : (q != 0) = true := by rw [bne_iff_ne]; exact h0
    clear h0
    go_enter Tryz.func32, Tryz.ntmps32
    go_wp2_with (go_at_call 64; (with_reducible refine HA.out.mono ?_); rintro e w1 ⟨rfl, hg⟩; have HG := hid hg; clear hg)
    go_ret
    exact ⟨rfl, HM.out.grew HG.out, ⟨G, HB.out.grew HG.out, fun k h => .inl h⟩, HG.out.keeps⟩

end Go.Proofs.YtmohnddglmolgaaGreatDoor
