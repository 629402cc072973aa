/- Walks: a sweep: what it says of a node, where the first one lies that goes, what is deleted. -/
import Derived.Test.YtcifpigjcfkhmaaHPoint
namespace Go.Proofs.Ytcifpigjcfkhmaa
open Go.RowKit Go.Lin Go.Lin.Hz

/-- A yard in the middle of a sweep: its own block as an object, its threads as they lie. -/
structure YRun (w : World) (b : Nat) (Y : Yd) (tb cap : Nat) (lv : List Value) : Prop where
  obj : w.heap[b]? = some (.cells (yCells Y (.slice (some ⟨tb, 0, none⟩) Y.th.length cap)).toArray 66 (0, 0))
  st : Y.st.length = 8
  len : Y.th.length ≤ 4
  th : ThAt w tb Y.th lv
  tobj : ∃ cur, w.heap[tb]? = some (.cells cur 81 (0, 0))
  ne : tb ≠ b

theorem YRun.view {w : World} {b : Nat} {Y : Yd} {tb cap : Nat} {lv : List Value} (h : YRun w b Y tb cap lv) : YView w b Y tb cap lv := by
  obtain ⟨c0, cs, c9⟩ := yCells_at (Y := Y) (tv := .slice (some ⟨tb, 0, none⟩) Y.th.length cap) h.st
  refine ⟨⟨lt_of_obj h.obj, ?_, fun i hi => ?_, tb, cap, ?_⟩, ?_, h.th⟩
  all_goals rw [cell_of_row w b _ _ _ _ h.obj]
  · simpa using c0
  · simpa using cs i hi
  · simpa using c9
  · simpa using c9

theorem ThAt.keeps {may : Nat → Obj → Prop} {w w' : World} {tb : Nat} {th : List Th} {lv : List Value} (h : ThAt w tb th lv) (hk : Keeps may w w') (hm : ∀ o, ¬ may tb o) : ThAt w' tb th lv := by
  have ho := hk.obj tb _ (Array.getElem?_eq_getElem h.lt) (hm _)
  have hc : ∀ j v, w.cell? ⟨tb, j, none⟩ = v → w'.cell? ⟨tb, j, none⟩ = v := by
    intro j v hv
    rw [World.cell?_of_block (w := w) (a := ⟨tb, j, none⟩) (ho.trans (Array.getElem?_eq_getElem h.lt).symm)]; exact hv
  exact ⟨Nat.lt_of_lt_of_le h.lt hk.size, fun i hi => hc _ _ (h.a i hi), fun i hi => hc _ _ (h.b i hi), fun i hi => hc _ _ (h.l i hi), h.len⟩

theorem YRun.keeps {may : Nat → Obj → Prop} {w w' : World} {b : Nat} {Y : Yd} {tb cap : Nat} {lv : List Value} (h : YRun w b Y tb cap lv) (hk : Keeps may w w') (hb : ∀ o, ¬ may b o) (ht : ∀ o, ¬ may tb o) : YRun w' b Y tb cap lv :=
  let ⟨cur, hc⟩ := h.tobj
  ⟨hk.obj _ _ h.obj (hb _), h.st, h.len, h.th.keeps hk ht, ⟨cur, hk.obj _ _ hc (ht _)⟩, h.ne⟩

theorem YRun.grew {w w' : World} {b : Nat} {Y : Yd} {tb cap : Nat} {lv : List Value} (h : YRun w b Y tb cap lv) (hg : Grew w w') : YRun w' b Y tb cap lv :=
  h.keeps (Grew.keeps (may := fun _ _ => False) hg) (fun _ h => h) (fun _ h => h)

theorem YRun.setN {w : World} {b : Nat} {Y : Yd} {tb cap : Nat} {lv : List Value} (h : YRun w b Y tb cap lv) {k : Nat} (hk : k < 8) (v : Int) : YRun (w.setCell ⟨b, 1 + k, none⟩ (.int .i64 v)) b (Hz.setN Y k v) tb cap lv := by
  have hkp := keeps_store w b (1 + k) (.int .i64 v)
  obtain ⟨cur, hc⟩ := h.tobj
  refine ⟨?_, by simpa [Hz.setN] using h.st, h.len, ThAt.keeps h.th hkp (fun _ e => h.ne e), ⟨cur, hkp.obj _ _ hc (fun e => h.ne e)⟩, h.ne⟩
  rw [heap_setCell_same _ _ _ _ _ _ h.obj, yCells_setN h.st hk]; rfl

theorem YRun.of {w : World} {b : Nat} {Y : Yd} {Fp : List Nat} (h : IsYard w b Y Fp) (hI : Inv Y) : ∃ tb cap lv, YRun w b Y tb cap lv ∧ b ∈ Fp ∧ tb ∈ Fp := by
  obtain ⟨tb, cap, lv, hv, -, -, h1, h2⟩ := IsYard.view h hI
  obtain ⟨tb', cap', cur, lv', g1, g2, -, -, -, -, -, -, rfl, hn⟩ := h
  have hc := (yCells_at (Y := Y) (tv := .slice (some ⟨tb', 0, none⟩) Y.th.length cap') hI.st).2.2
  have h9 := hv.c9
  rw [cell_of_row w b _ _ _ _ g1] at h9
  simp [hc] at h9
  obtain ⟨rfl, rfl⟩ := h9
  simp only [List.nodup_cons, List.mem_cons, not_or] at hn
  exact ⟨_, _, lv, ⟨g1, hI.st, hI.th.2, hv.th, ⟨cur, g2⟩, fun e => hn.1.1 e.symm⟩, h1, h2⟩

/-- What a node's test leaves. -/
def testY (Y : Yd) (n : Int) : Yd := if held Y n then Y else setN Y n 0

set_option maxHeartbeats 1000000 in
theorem sweep1_any (Y : Yd) (b tb cap B : Nat) (lv : List Value) (n : Int) (w : World) (hr : YRun w b Y tb cap lv) (hn : isN n = true) (hlt : B < w.heap.size) (hB : w.cell? ⟨B, 0, none⟩ = some (.pointer (some ⟨b, 0, none⟩))) :
    Calls Try.prog 83 #[.int .i64 n, .pointer (some ⟨B, 0, none⟩)] w fun e w' => e = .returned (.bool (!held Y n)) ∧ YRun w' b (testY Y n) tb cap lv ∧ Keeps (fun k _ => k = b) w w' := by
  have hg := grew_refl w
  have HH := hid (fun (y : World) (hy : Grew w y) => held57_any Y hr.len b tb cap lv n y ((hr.view).grew hy))
  have HR := hid hr
  rw [isN_iff] at hn
  obtain ⟨k, rfl⟩ : ∃ k : Nat, n = k := ⟨n.toNat, by omega⟩
  have hk8 : k < 8 := by omega
  have hlb := lt_of_obj hr.obj
  obtain ⟨p, hp⟩ : ∃ p, held Y (k : Int) = p := ⟨_, rfl⟩
  have ht : testY Y (k : Int) = if p then Y else setN Y k 0 := by unfold testY; rw [hp]
  rw [hp] at HH ⊢
  rw [ht]
  have hfz := frozen_of_row _ _ (1 + k) _ _ hr.obj
  have hcl := hr.view.head.cs k hk8
  clear hr ht hp hn
  cases p
  · go_enter Try.func83, Try.ntmps83
    go_wp2_with (go_at_call 57; with_reducible refine (HH.out _ hg).mono ?_; rintro e w1 ⟨rfl, hx⟩; replace hg := grew_trans hg hx; have hc := (bcell hg).1; have hfz' := (hg.frozen (p := ⟨b, 1 + k, none⟩) hlb).trans hfz; have hcl' := (hg.cell (p := ⟨b, 1 + k, none⟩) hlb).trans hcl)
    go_ret
    exact ⟨rfl, (HR.out.grew hg).setN hk8 0, (Grew.keeps hg).trans (keeps_store _ _ _ _)⟩
  · go_enter Try.func83, Try.ntmps83
    go_wp2_with (go_at_call 57; with_reducible refine (HH.out _ hg).mono ?_; rintro e w1 ⟨rfl, hx⟩; replace hg := grew_trans hg hx; have hc := (bcell hg).1)
    go_ret
    exact ⟨rfl, HR.out.grew hg, Grew.keeps hg⟩

theorem keeps_cell {may : Nat → Obj → Prop} {w w' : World} (hk : Keeps may w w') {B : Nat} (j : Nat) (hlt : B < w.heap.size) (hn : ∀ o, ¬ may B o) : w'.cell? ⟨B, j, none⟩ = w.cell? ⟨B, j, none⟩ := by
  have ho := hk.obj B _ (Array.getElem?_eq_getElem hlt) (hn _)
  exact World.cell?_of_block (w := w) (a := ⟨B, j, none⟩) (ho.trans (Array.getElem?_eq_getElem hlt).symm)

theorem entered83 (args : Array Value) (w : World) : (callFunc 83 args).run Try.prog w = .ok (.enter 83 args) w := by kernel_rfl

set_option maxHeartbeats 1000000 in
theorem index75_any (Y : Yd) (b tb cap B : Nat) (lv : List Value) (v : Value) (xs : List Int) (w : World) (hr : YRun w b Y tb cap lv) (hN : ∀ x ∈ xs, isN x = true) (hlt : B < w.heap.size) (hBb : B ≠ b) (hB : w.cell? ⟨B, 0, none⟩ = some (.pointer (some ⟨b, 0, none⟩)))
    (hx : IsInts (fun k _ => k ≠ b) w v xs) :
    Calls Try.prog 75 #[v, .func (.func 83) #[] #[.pointer (some ⟨B, 0, none⟩)]] w fun e w' => ∃ r : Int, e = .returned (.int .i64 r) ∧ Keeps (fun k _ => k = b) w w' ∧
      ((r = -1 ∧ (∀ x ∈ xs, held Y x = true) ∧ YRun w' b Y tb cap lv) ∨
       (∃ i : Nat, i < xs.length ∧ r = i ∧ (∀ t, t < i → held Y (nth xs t) = true) ∧ held Y (nth xs i) = false ∧ YRun w' b (setN Y (nth xs i) 0) tb cap lv)) := by
  have HX := hid hx
  obtain ⟨a, cap', rfl, hm, hc⟩ := hx
  clear hc
  have HR := hid hr; clear hr
  have HN := hid hN; clear hN
  have HE := hid hB; clear hB
  have HBb := hid hBb; clear hBb
  have hcf' : ∀ args w, (callFunc 83 args).run Try.prog w = .ok (.enter 83 args) w := entered83
  go_enter Try.func75, Try.ntmps75
  go_wp2
  go_loopg [5, 8] (xs.length) (fun k _ i wr => ∃ j : Nat, j ≤ xs.length ∧ i = .int .i64 j ∧ k = xs.length - j ∧ Hid (∀ t, t < j → held Y (nth xs t) = true) ∧ Hid (Keeps (fun k _ => k = b) w wr) ∧ Hid (YRun wr b Y tb cap lv))
  case atStart => exact ⟨0, Nat.zero_le _, rfl, rfl, hid (fun t ht => by omega), hid (Keeps.refl _ _), HR⟩
  case round =>
    obtain ⟨j, hj, rfl, hk, HT, HK0, HRj⟩ := hrel
    have HK := hid hk; clear hk
    by_cases hjm : j < xs.length
    · obtain ⟨a', c', hv', hm', hc⟩ := HX.out.keeps HK0.out (fun k o h e => h e)
      simp only [Value.slice.injEq] at hv'
      obtain ⟨rfl, -, rfl⟩ := hv'
      obtain ⟨g, off, o, rfl, hb, _, hcj⟩ := hc j hjm
      clear hc hb
      have hxn := HN.out (nth xs j) (by rw [nth_lt hjm]; exact List.getElem_mem hjm)
      have H1 := hid (sweep1_any Y b tb cap B lv (nth xs j) wr HRj.out hxn (Nat.lt_of_lt_of_le hlt HK0.out.size) ((keeps_cell HK0.out 0 hlt (fun _ e => HBb.out e)).trans HE.out))
      clear hxn
      obtain ⟨x, hxx⟩ : ∃ x, nth xs j = x := ⟨_, rfl⟩
      replace hcj : wr.cell? ⟨g, off + j, none⟩ = some (.int .i64 (nth xs j)) := hcj
      rw [hxx] at hcj
      rw [hxx] at H1
      have HXX := hid hxx; clear hxx
      obtain ⟨p, hp⟩ : ∃ p, held Y x = p := ⟨_, rfl⟩
      have ht : testY Y x = if p then Y else setN Y x 0 := by unfold testY; rw [hp]
      rw [hp, ht] at H1
      have HP := hid hp; clear hp ht
      cases p
      · go_wp2_with (refine (show Calls _ _ _ _ _ from H1.out).mono ?_; rintro e w1 ⟨rfl, hr1, hk1⟩; have HR1 := hid hr1; have HK1 := hid (HK0.out.trans hk1); clear hr1 hk1)
        go_ret
        exact ⟨(j : Int), rfl, HK1.out, .inr ⟨j, hjm, rfl, HT.out, by rw [HXX.out]; exact HP.out, by rw [HXX.out]; exact HR1.out⟩⟩
      · go_wp2_with (refine (show Calls _ _ _ _ _ from H1.out).mono ?_; rintro e w1 ⟨rfl, hr1, hk1⟩; have HR1 := hid hr1; have HK1 := hid (HK0.out.trans hk1); clear hr1 hk1)
        go_roundg (xs.length - (j + 1))
        case measure => have := HK.out; omega
        case rel => exact ⟨j + 1, by omega, by go_num, rfl, hid (lt_succ_all HT.out (by rw [HXX.out]; exact HP.out)), HK1, HR1⟩
    · obtain rfl : j = xs.length := by omega
      go_wp2
      go_ret
      refine ⟨-1, rfl, HK0.out, .inl ⟨rfl, ?_, HRj.out⟩⟩
      intro x hx
      obtain ⟨i, hi, rfl⟩ := List.getElem_of_mem hx
      have := HT.out i hi
      rwa [nth_lt hi] at this

end Go.Proofs.Ytcifpigjcfkhmaa
