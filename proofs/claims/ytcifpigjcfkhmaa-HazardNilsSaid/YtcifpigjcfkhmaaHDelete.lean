/- Walk: slices.DeleteFunc with a sweep's test, over a list that lies in a block of its own. -/
import Derived.Test.YtcifpigjcfkhmaaHSweep
namespace Go.Proofs.Ytcifpigjcfkhmaa
open Go.RowKit Go.Lin Go.Lin.Hz

/-- A list's block, in the middle of a deletion. -/
def LRun (w : World) (g off sz n : Nat) (ys : List Int) : Prop :=
  ys.length = n ∧ ∃ cur : Array Value, w.heap[g]? = some (.cells cur 3 (0, 0)) ∧ cur.size = sz ∧ off + n ≤ sz ∧ ∀ t, t < n → cur[off + t]? = some (.int .i64 (nth ys t))

theorem LRun.keeps {may : Nat → Obj → Prop} {w w' : World} {g off sz n : Nat} {ys : List Int} (h : LRun w g off sz n ys) (hk : Keeps may w w') (hm : ∀ o, ¬ may g o) : LRun w' g off sz n ys :=
  let ⟨h0, cur, h1, h2, h3, h4⟩ := h
  ⟨h0, cur, hk.obj _ _ h1 (hm _), h2, h3, h4⟩

theorem LRun.cell {w : World} {g off sz n : Nat} {ys : List Int} (h : LRun w g off sz n ys) {t : Nat} (ht : t < n) : w.cell? ⟨g, off + t, none⟩ = some (.int .i64 (nth ys t)) ∧ w.frozen? ⟨g, off + t, none⟩ = false := by
  obtain ⟨h0, cur, h1, h2, h3, h4⟩ := h
  exact ⟨by rw [cell_of_row w g _ _ _ _ h1]; exact h4 t ht, frozen_of_row _ _ _ _ _ h1⟩

theorem LRun.set {w : World} {g off sz n : Nat} {ys : List Int} (h : LRun w g off sz n ys) {i : Nat} (hi : i < n) (v : Int) : LRun (w.setCell ⟨g, off + i, none⟩ (.int .i64 v)) g off sz n (ys.set i v) := by
  obtain ⟨h0, cur, h1, h2, h3, h4⟩ := h
  refine ⟨by simpa using h0, _, heap_setCell_same _ _ _ _ _ _ h1, by simpa using h2, h3, fun t ht => ?_⟩
  rw [Array.getElem?_setIfInBounds, nth_set (by omega)]
  by_cases hit : i = t
  · subst hit; rw [if_pos rfl, if_pos rfl, if_pos (by omega)]
  · rw [if_neg (by omega), if_neg hit]; exact h4 t ht

theorem setCells_obj (g : Nat) : ∀ (vs : List Value) (o : Nat) (w : World) (cur : Array Value), w.heap[g]? = some (.cells cur 3 (0, 0)) →
    Keeps (fun k _ => k = g) w (w.setCells g o vs) ∧ ∃ cur' : Array Value, (w.setCells g o vs).heap[g]? = some (.cells cur' 3 (0, 0)) ∧ cur'.size = cur.size ∧ ∀ t, t < o → cur'[t]? = cur[t]?
  | [], _, w, cur, h => ⟨Keeps.refl _ _, cur, h, rfl, fun _ _ => rfl⟩
  | v :: vs, o, w, cur, h => by
    have h1 := heap_setCell_same w g o _ _ v h
    obtain ⟨k, cur', h2, h3, h4⟩ := setCells_obj g vs (o + 1) (w.setCell ⟨g, o, none⟩ v) _ h1
    refine ⟨(keeps_store w g o v).trans k, cur', h2, by rw [h3]; simp, fun t ht => ?_⟩
    rw [h4 t (by omega), Array.getElem?_setIfInBounds, if_neg (by omega)]

theorem stay_snoc (Y : Yd) (l : List Int) (x : Int) : stay Y (l ++ [x]) = if held Y x then stay Y l ++ [x] else stay Y l := by
  unfold stay; rw [List.filter_append]; cases h : held Y x <;> simp [h]

theorem gone_snoc (Y : Yd) (l : List Int) (x : Int) : gone Y (l ++ [x]) = if held Y x then gone Y l else gone Y l ++ [x] := by
  unfold gone; rw [List.filter_append]; cases h : held Y x <;> simp [h]

/-- The yard behind the tests of l. -/
def midY (Y : Yd) (l : List Int) : Yd := { Y with st := freeAll Y.st (gone Y l) }

theorem midY_snoc (Y : Yd) (l : List Int) (x : Int) : midY Y (l ++ [x]) = testY (midY Y l) x := by
  unfold midY testY
  rw [gone_snoc, show held { Y with st := freeAll Y.st (gone Y l) } x = held Y x from rfl]
  cases h : held Y x
  · simp [freeAll, setN]
  · simp

theorem stay_all {Y : Yd} {l : List Int} (h : ∀ x ∈ l, held Y x = true) : stay Y l = l ∧ gone Y l = [] := by
  constructor
  · exact List.filter_eq_self.2 h
  · exact List.filter_eq_nil_iff.2 (fun x hx => by simp [h x hx])

theorem midY_all {Y : Yd} {l : List Int} (h : ∀ x ∈ l, held Y x = true) : midY Y l = Y := by
  unfold midY; rw [(stay_all h).2]; rfl

set_option maxHeartbeats 2000000 in
theorem delete82_any (Y : Yd) (b tb cap B : Nat) (lv : List Value) (g off sz c : Nat) (xs : List Int) (w : World) (hr : YRun w b Y tb cap lv) (hN : ∀ x ∈ xs, isN x = true) (hlt : B < w.heap.size) (hBb : B ≠ b) (hBg : B ≠ g) (hB : w.cell? ⟨B, 0, none⟩ = some (.pointer (some ⟨b, 0, none⟩)))
    (hgb : g ≠ b) (hgt : g ≠ tb) (hx : LRun w g off sz xs.length xs) (hm : xs.length ≤ 9223372036854775807) (hnc : xs.length ≤ c) :
    Calls Try.prog 82 #[.slice (some ⟨g, off, none⟩) xs.length c, .func (.func 83) #[] #[.pointer (some ⟨B, 0, none⟩)]] w fun e w' => 
      e = .returned (.slice (some ⟨g, off, none⟩) (stay Y xs).length c) ∧ YRun w' b (midY Y xs) tb cap lv ∧ Keeps (fun k _ => k = b ∨ k = g) w w' ∧
      ∃ cur : Array Value, w'.heap[g]? = some (.cells cur 3 (0, 0)) ∧ cur.size = sz ∧ ∀ t, t < (stay Y xs).length → cur[off + t]? = some (.int .i64 (nth (stay Y xs) t)) := by
  have HI := hid (index75_any Y b tb cap B lv (.slice (some ⟨g, off, none⟩) xs.length c) xs w hr hN hlt hBb hB
    (by obtain ⟨h0, cur, h1, h2, h3, h4⟩ := hx
        exact ⟨_, _, rfl, hm, fun i hi => ⟨g, off, _, rfl, h1, hgb, by rw [cell_of_row w g _ _ _ _ h1]; exact h4 i hi⟩⟩))
  have HX := hid hx; clear hx
  have HN := hid hN; clear hN
  have HE := hid hB; clear hB
  have HBb := hid hBb; clear hBb
  have HBg := hid hBg; clear hBg
  have HGT := hid hgt; clear hgt
  have HGB := hid hgb; clear hgb
  clear hr
  obtain ⟨n, hn⟩ : ∃ n, xs.length = n := ⟨_, rfl⟩
  obtain ⟨ns, hns⟩ : ∃ n, (stay Y xs).length = n := ⟨_, rfl⟩
  rw [hn] at HI HX hm hnc ⊢
  rw [hns]
  have HLEN := hid hn; clear hn
  have HNS := hid hns; clear hns
  have hcf' : ∀ args w, (callFunc 83 args).run Try.prog w = .ok (.enter 83 args) w := entered83
  go_enter Try.func82, Try.ntmps82
  go_wp2_with (go_at_call 75; with_reducible refine HI.out.mono ?_; rintro e w1 ⟨r, rfl, hk1, hr1⟩; have HK1 := hid hk1; clear hk1; rcases hr1 with ⟨rfl, hall, hr2⟩ | ⟨i, hi, rfl, hall, hno, hr2⟩; all_goals (first | (have HALL := hid hall; have HNO := hid hno; have HR2 := hid hr2; have hne1 : ((i : Int) == -1) = false := beq_eq_false_iff_ne.2 (by omega); clear hall hno hr2) | (have HALL := hid hall; have HR2 := hid hr2; clear hall hr2)))
  · go_ret
    have hst := (stay_all HALL.out).1
    have hnn : ns = n := by rw [← HNS.out, hst, HLEN.out]
    obtain ⟨h0, cur, h1, h2, h3, h4⟩ := HX.out.keeps HK1.out (fun _ e => HGB.out e)
    refine ⟨by rw [hnn]; rfl, by rw [midY_all HALL.out]; exact HR2.out, HK1.out.mono (fun _ _ e => .inl e), cur, h1, h2, fun t ht => ?_⟩
    rw [hst]; exact h4 t (by omega)
  · go_loopg [5, 6, 7] n (fun gk s5 s6 _ wr => ∃ (i j : Nat) (ys : List Int), s5 = .int .i64 i ∧ s6 = .int .i64 j ∧ i < j ∧ j ≤ n ∧ n - j ≤ gk ∧ Hid (LRun wr g off sz n ys) ∧ Hid (i = (stay Y (xs.take j)).length ∧ ys.take i = stay Y (xs.take j)) ∧ Hid (∀ t, j ≤ t → t < n → nth ys t = nth xs t) ∧
      Hid (YRun wr b (midY Y (xs.take j)) tb cap lv) ∧ Hid (Keeps (fun k _ => k = b ∨ k = g) w wr))
    case atStart =>
      have hl : i < xs.length := by rw [HLEN.out]; exact hi
      have hpre : ∀ x ∈ xs.take i, held Y x = true := by
        intro x hx
        obtain ⟨t, ht, rfl⟩ := List.getElem_of_mem hx
        have := HALL.out t (by simp at ht; omega)
        rw [nth_lt (by simp at ht; omega)] at this
        simpa using this
      have htk : xs.take (i + 1) = xs.take i ++ [nth xs i] := take_succ_nth hl
      have hst : stay Y (xs.take (i + 1)) = xs.take i := by rw [htk, stay_snoc, HNO.out, (stay_all hpre).1]; simp
      refine ⟨i, i + 1, xs, rfl, by go_num, by omega, by omega, by omega, hid (HX.out.keeps HK1.out (fun _ e => HGB.out e)), hid ?_, hid (fun _ _ _ => rfl), hid ?_, hid (HK1.out.mono (fun _ _ e => .inl e))⟩
      · rw [hst]; exact ⟨by simp; omega, rfl⟩
      · rw [htk, midY_snoc, midY_all hpre, testY, HNO.out]; exact HR2.out
    case round =>
      clear hne1
      obtain ⟨i, j, ys, rfl, rfl, hij, hjn, hgk, HL, HT, HTL, HY, HK⟩ := hrel
      have HGK := hid hgk; clear hgk
      by_cases hlt2 : j < n
      · have hltz : (j : Int) < (n : Int) := by omega
        have hl : j < xs.length := by rw [HLEN.out]; exact hlt2
        obtain ⟨cj, fj⟩ := HL.out.cell hlt2
        obtain ⟨ci, fi⟩ := HL.out.cell (t := i) (by omega)
        rw [HTL.out j (Nat.le_refl _) hlt2] at cj
        have hxn := HN.out (nth xs j) (by rw [nth_lt hl]; exact List.getElem_mem hl)
        have H1 := hid (sweep1_any (midY Y (xs.take j)) b tb cap B lv (nth xs j) wr HY.out hxn (Nat.lt_of_lt_of_le hlt HK.out.size) ((keeps_cell HK.out 0 hlt (fun _ e => e.elim HBb.out HBg.out)).trans HE.out))
        have htk := take_succ_nth hl
        rw [show held (midY Y (xs.take j)) (nth xs j) = held Y (nth xs j) from rfl, ← midY_snoc, ← htk] at H1
        have HTK := hid htk
        clear hxn htk
        obtain ⟨x, hxx⟩ : ∃ x, nth xs j = x := ⟨_, rfl⟩
        obtain ⟨old, hold⟩ : ∃ x, nth ys i = x := ⟨_, rfl⟩
        rw [hxx] at cj H1 HTK
        rw [hold] at ci
        have HXX := hid hxx
        clear hold hxx
        obtain ⟨p, hp⟩ : ∃ p, held Y x = p := ⟨_, rfl⟩
        rw [hp] at H1
        have HP := hid hp; clear hp
        cases p
        · go_wp2_with (refine (show Calls _ _ _ _ _ from H1.out).mono ?_; rintro e w2 ⟨rfl, hr1, hk2⟩; have HR1 := hid hr1; have HL1 := hid (HL.out.keeps hk2 (fun _ e => HGB.out e)); have HK2 := hid (HK.out.trans (hk2.mono (fun _ _ e => .inl e))); clear hr1 hk2)
          go_roundg (n - (j + 1))
          case measure => have := HGK.out; omega
          case rel =>
            refine ⟨i, j + 1, ys, rfl, by go_num, by omega, by omega, Nat.le_refl _, HL1, hid ?_, hid (fun t h1 h2 => HTL.out t (by omega) h2), HR1, HK2⟩
            rw [HTK.out, stay_snoc, HP.out]; exact HT.out
        · go_wp2_with (refine (show Calls _ _ _ _ _ from H1.out).mono ?_; rintro e w2 ⟨rfl, hr1, hk2⟩; have HR1 := hid hr1; have HL1 := hid (HL.out.keeps hk2 (fun _ e => HGB.out e)); have HK2 := hid (HK.out.trans (hk2.mono (fun _ _ e => .inl e))); obtain ⟨ci2, fi2⟩ := HL1.out.cell (t := i) (by omega); clear hr1 hk2)
          go_roundg (n - (j + 1))
          case measure => have := HGK.out; omega
          case rel =>
            refine ⟨i + 1, j + 1, ys.set i x, by go_num, by go_num, by omega, by omega, Nat.le_refl _, hid (HL1.out.set (by omega) x), hid ?_, hid (fun t h1 h2 => ?_), hid ?_, hid (HK2.out.trans (Keeps.mono (keeps_store _ _ _ _) (fun _ _ e => .inr e)))⟩
            · rw [HTK.out, stay_snoc, HP.out]
              have hil : i < ys.length := by rw [HL1.out.1]; omega
              refine ⟨by simp [← HT.out.1], ?_⟩
              rw [if_pos rfl, ← HT.out.2, List.take_succ_eq_append_getElem (by simpa using hil), List.take_set, List.set_eq_of_length_le (by simp; omega)]
              simp
            · rw [nth_set (by rw [HL1.out.1]; omega), if_neg (by omega)]; exact HTL.out t (by omega) h2
            · exact HR1.out.keeps (keeps_store _ _ _ _) (fun _ e => HGB.out e.symm) (fun _ e => HGT.out e.symm)
      · obtain rfl : j = n := by omega
        have hltz : ¬ (j : Int) < (j : Int) := by omega
        have hcl : ∀ ty, (Builtin.clear_ #[24] ty #[.slice (some ⟨g, off + i, none⟩) (j - i) (c - i)]).run Try.prog wr = .ok (.tuple #[]) (wr.setCells g (off + i) (List.replicate (j - i) (.int .i64 0))) :=
          fun ty => Lib.run_clear_slice wr _ 3 ty _ Try.underlying24 (fun _ => by kernel_rfl) rfl rfl g (off + i) _ _ (by omega) (fun t ht => by rw [show off + i + t = off + (i + t) by omega, (HL.out.cell (t := i + t) (by omega)).1]; rfl) (fun t ht => by rw [show off + i + t = off + (i + t) by omega]; exact (HL.out.cell (t := i + t) (by omega)).2)
        go_wp2
        go_ret
        have htk : xs.take j = xs := List.take_of_length_le (by rw [HLEN.out]; omega)
        have hT := HT.out
        rw [htk, HNS.out] at hT
        obtain ⟨h0, cur, h1, h2, h3, h4⟩ := HL.out
        obtain ⟨k, cur', g1, g2, g3⟩ := setCells_obj g (List.replicate (j - i) (.int .i64 0)) (off + i) wr cur h1
        refine ⟨by rw [hT.1]; rfl, ?_, HK.out.trans (k.mono (fun _ _ e => .inr e)), cur', g1, by rw [g2, h2], fun t ht => ?_⟩
        · have := HY.out
          rw [htk] at this
          exact this.keeps k (fun _ e => HGB.out e.symm) (fun _ e => HGT.out e.symm)
        · have hti : t < i := by rw [hT.1]; exact ht
          rw [g3 _ (by omega), h4 t (by omega), ← hT.2]
          simp [nth, List.getD, List.getElem?_take_of_lt hti]

end Go.Proofs.Ytcifpigjcfkhmaa
