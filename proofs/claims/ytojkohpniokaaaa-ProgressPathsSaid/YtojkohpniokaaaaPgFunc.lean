/- Walks: slices.Index (93), Contains (67), IndexFunc (90), ContainsFunc (61), DeleteFunc (85) of ints; IndexFunc (92), ContainsFunc (65) of moves. Printed by mkpgf.py. -/
import Derived.Test.YtojkohpniokaaaaPgW
import Derived.Test.YtojkohpniokaaaaPgG
import Derived.Test.YtojkohpniokaaaaPgVal
namespace Go.Lin.Pg
/-- What is not deleted. -/
def kept (q : Int → Bool) (l : List Int) : List Int := l.filter (fun x => !q x)
theorem kept_snoc (q : Int → Bool) (l : List Int) (x : Int) : kept q (l ++ [x]) = if q x then kept q l else kept q l ++ [x] := by
  unfold kept; rw [List.filter_append]; cases h : q x <;> simp [h]
theorem kept_all {q : Int → Bool} {l : List Int} (h : ∀ x ∈ l, q x = false) : kept q l = l := List.filter_eq_self.2 (fun x hx => by simp [h x hx])

end Go.Lin.Pg
namespace Go.Proofs.Ytojkohpniokaaaa
open Go Go.RowKit Go.Lin Go.Lin.Pg

/-- The function g, with what it has captured, says p of x, in whatever later world. -/
def Says (g : Nat) (caps : Array Value) (x : Value) (p : Bool) (w : World) : Prop :=
  ∀ w', Grew w w' → Calls Try.prog g (#[x] ++ caps) w' fun e w'' => e = .returned (.bool p) ∧ Grew w' w''

def Entered (g : Nat) : Prop := ∀ args w, (callFunc g args).run Try.prog w = .ok (.enter g args) w

theorem Says.grew {g : Nat} {caps : Array Value} {x : Value} {p : Bool} {w w' : World} (h : Says g caps x p w) (hg : Grew w w') : Says g caps x p w' := fun w2 h2 => h w2 (grew_trans hg h2)

set_option maxHeartbeats 1000000 in
theorem indexFunc_any (g : Nat) (caps : Array Value) (p : Int → Bool) (v : Value) (xs : List Int) (w : World) (hcf : Entered g) (hx : IsInts Any w v xs) (hp : ∀ i, i < xs.length → Says g caps (.int .i64 (nth xs i)) (p (nth xs i)) w) :
    Calls Try.prog 90 #[v, .func (.func g) #[] caps] w fun e w' => ∃ r : Int, e = .returned (.int .i64 r) ∧ Hid (decide (0 ≤ r) = xs.any p) ∧ Grew w w' := by
  obtain ⟨a, cap, rfl, hm, hc⟩ := hx
  have HC := hid hc; clear hc
  have HP := hid hp; clear hp
  have hcf' : ∀ args w, (callFunc g args).run Try.prog w = .ok (.enter g args) w := hcf
  clear hcf
  go_enter Try.func90, Try.ntmps90
  go_wp2
  go_loopg [5, 8] (xs.length) (fun k _ i wr => ∃ j : Nat, j ≤ xs.length ∧ i = .int .i64 j ∧ k = xs.length - j ∧ Hid (∀ t, t < j → p (nth xs t) = false) ∧ Grew w wr)
  case atStart => exact ⟨0, Nat.zero_le _, rfl, rfl, hid (fun t ht => by omega), grew_refl _⟩
  case round =>
    obtain ⟨j, hj, rfl, hk, HT, hg⟩ := hrel
    have HK := hid hk; clear hk
    by_cases hlt : j < xs.length
    · obtain ⟨b, off, o, rfl, hb, _, hcj⟩ := HC.out j hlt
      have hbl := lt_of_obj hb
      have hcj0 := (hg.cell (p := ⟨b, off + j, none⟩) hbl).trans hcj
      clear hb hcj
      have HS := hid (HP.out j hlt)
      by_cases hop : p (nth xs j) = true
      · have HOP := hid hop
        go_wp2_with (refine (show Calls _ _ _ _ _ from HS.out _ hg).mono ?_; rintro e w1 ⟨rfl, hx⟩; replace hg := grew_trans hg hx; have hc := (bcell hg).1)
        go_ret
        refine ⟨(j : Int), rfl, hid ?_, hg⟩
        rw [show decide ((0 : Int) ≤ (j : Int)) = true by simp]
        refine (List.any_eq_true.2 ⟨nth xs j, ?_, HOP.out⟩).symm
        rw [nth_lt hlt]; exact List.getElem_mem hlt
      · have hop' : p (nth xs j) = false := by simpa using hop
        go_wp2_with (refine (show Calls _ _ _ _ _ from HS.out _ hg).mono ?_; rintro e w1 ⟨rfl, hx⟩; replace hg := grew_trans hg hx; have hc := (bcell hg).1)
        go_roundg (xs.length - (j + 1))
        case measure => have := HK.out; omega
        case rel => exact ⟨j + 1, by omega, by go_num, rfl, hid (lt_succ_all HT.out hop'), hg⟩
    · obtain rfl : j = xs.length := by omega
      go_wp2
      go_ret
      refine ⟨-1, rfl, hid ?_, hg⟩
      rw [show decide ((0 : Int) ≤ -1) = false by decide]
      refine (List.any_eq_false.2 ?_).symm
      intro x hx
      obtain ⟨i, hi, rfl⟩ := List.getElem_of_mem hx
      have := HT.out i hi
      rw [nth_lt hi] at this
      simp [this]

set_option maxHeartbeats 1000000 in
theorem containsFunc_any (g : Nat) (caps : Array Value) (p : Int → Bool) (v : Value) (xs : List Int) (w : World) (hcf : Entered g) (hx : IsInts Any w v xs) (hp : ∀ i, i < xs.length → Says g caps (.int .i64 (nth xs i)) (p (nth xs i)) w) :
    Calls Try.prog 61 #[v, .func (.func g) #[] caps] w fun e w' => e = .returned (.bool (xs.any p)) ∧ Grew w w' := by
  have h := indexFunc_any g caps p v xs w hcf hx hp
  have H := hid h; clear h hcf hx hp
  go_enter Try.func61, Try.ntmps61
  go_wp2_with (go_at_call 90; with_reducible refine H.out.mono ?_; rintro e w1 ⟨r, rfl, hr, hg⟩)
  go_ret
  exact ⟨ret_bool hr.out, hg⟩

set_option maxHeartbeats 1000000 in
theorem index93_any (v : Value) (xs : List Int) (b : Int) (w : World) (hx : IsInts Any w v xs) :
    Calls Try.prog 93 #[v, .int .i64 b] w fun e w' => ∃ r : Int, e = .returned (.int .i64 r) ∧ ((r = -1 ∧ ∀ t, t < xs.length → nth xs t ≠ b) ∨ ∃ i : Nat, i < xs.length ∧ r = i ∧ (∀ t, t < i → nth xs t ≠ b) ∧ nth xs i = b) ∧ Grew w w' := by
  obtain ⟨a, cap, rfl, hm, hc⟩ := hx
  have HC := hid hc; clear hc
  go_enter Try.func93, Try.ntmps93
  go_wp2
  go_loopg [5, 8] (xs.length) (fun k _ i wr => ∃ j : Nat, j ≤ xs.length ∧ i = .int .i64 j ∧ k = xs.length - j ∧ Hid (∀ t, t < j → nth xs t ≠ b) ∧ Grew w wr)
  case atStart => exact ⟨0, Nat.zero_le _, rfl, rfl, hid (fun t ht => by omega), grew_refl _⟩
  case round =>
    obtain ⟨j, hj, rfl, hk, HT, hg⟩ := hrel
    have HK := hid hk; clear hk
    by_cases hlt : j < xs.length
    · obtain ⟨bb, off, o, rfl, hb, _, hcj⟩ := HC.out j hlt
      have hbl := lt_of_obj hb
      have hcj0 := (hg.cell (p := ⟨bb, off + j, none⟩) hbl).trans hcj
      have hbl1 := Nat.lt_of_lt_of_le hbl hg.size
      clear hb hcj
      obtain ⟨y, hy⟩ : ∃ y, nth xs j = y := ⟨_, rfl⟩
      have HY := hid hy
      simp only [hy] at hcj0
      clear hy
      by_cases hop : b = y
      · subst hop
        have hdd : (b == b) = true := by simp
        go_wp2
        go_ret
        exact ⟨(j : Int), rfl, .inr ⟨j, hlt, rfl, HT.out, HY.out⟩, hg⟩
      · have hdd : (b == y) = false := by simpa using hop
        have HO := hid hop
        clear hop
        go_wp2
        go_roundg (xs.length - (j + 1))
        case measure => have := HK.out; omega
        case rel =>
          refine ⟨j + 1, by omega, by go_num, rfl, hid (fun t ht => ?_), hg⟩
          rcases Nat.lt_or_ge t j with h | h
          · exact HT.out t h
          · obtain rfl : t = j := by omega
            rw [HY.out]; exact fun e => HO.out e.symm
    · obtain rfl : j = xs.length := by omega
      go_wp2
      go_ret
      exact ⟨-1, rfl, .inl ⟨rfl, HT.out⟩, hg⟩

theorem nth_set {l : List Int} {i j : Nat} {v : Int} (hi : i < l.length) : nth (l.set i v) j = if i = j then v else nth l j := by
  unfold nth
  simp only [List.getD, List.getElem?_set]
  by_cases h : i = j
  · subst h; simp [hi]
  · simp [h]

/-- A list's block, in the middle of a deletion. -/
def LRun (w : World) (g off sz n : Nat) (ys : List Int) : Prop :=
  ys.length = n ∧ ∃ cur : Array Value, w.heap[g]? = some (.cells cur 3 (0, 0)) ∧ cur.size = sz ∧ off + n ≤ sz ∧ ∀ t, t < n → cur[off + t]? = some (.int .i64 (nth ys t))

theorem LRun.keeps {may : Nat → Obj → Prop} {w w' : World} {g off sz n : Nat} {ys : List Int} (h : LRun w g off sz n ys) (hk : Keeps may w w') (hm : ∀ o, ¬ may g o) : LRun w' g off sz n ys :=
  let ⟨h0, cur, h1, h2, h3, h4⟩ := h
  ⟨h0, cur, hk.obj _ _ h1 (hm _), h2, h3, h4⟩

theorem LRun.cell {w : World} {g off sz n : Nat} {ys : List Int} (h : LRun w g off sz n ys) {t : Nat} (ht : t < n) : w.cell? ⟨g, off + t, none⟩ = some (.int .i64 (nth ys t)) ∧ w.frozen? ⟨g, off + t, none⟩ = false := by
  obtain ⟨h0, cur, h1, h2, h3, h4⟩ := h
  exact ⟨by rw [cell_of_row w g _ _ _ _ h1]; exact h4 t ht, frozen_of_row _ _ _ _ _ h1⟩

theorem LRun.set {w : World} {g off sz n : Nat} {ys : List Int} (h : LRun w g off sz n ys) {i : Nat} (hi : i < n) (v : Int) : LRun (w.setCell ⟨g, off + i, none⟩ (.int .i64 v)) g off sz n (ys.set i v) := by
  obtain ⟨h0, cur, h1, h2, h3, h4⟩ := h
  refine ⟨by simpa using h0, _, heap_setCell_same _ _ _ _ _ _ h1, by simpa using h2, h3, fun t ht => ?_⟩
  rw [Array.getElem?_setIfInBounds, nth_set (by omega)]
  by_cases hit : i = t
  · subst hit; rw [if_pos rfl, if_pos rfl, if_pos (by omega)]
  · rw [if_neg (by omega), if_neg hit]; exact h4 t ht

theorem setCells_obj (g : Nat) : ∀ (vs : List Value) (o : Nat) (w : World) (cur : Array Value), w.heap[g]? = some (.cells cur 3 (0, 0)) →
    Keeps (fun k _ => k = g) w (w.setCells g o vs) ∧ ∃ cur' : Array Value, (w.setCells g o vs).heap[g]? = some (.cells cur' 3 (0, 0)) ∧ cur'.size = cur.size ∧ ∀ t, t < o → cur'[t]? = cur[t]?
  | [], _, w, cur, h => ⟨Keeps.refl _ _, cur, h, rfl, fun _ _ => rfl⟩
  | v :: vs, o, w, cur, h => by
    have h1 := heap_setCell_same w g o _ _ v h
    obtain ⟨k, cur', h2, h3, h4⟩ := setCells_obj g vs (o + 1) (w.setCell ⟨g, o, none⟩ v) _ h1
    refine ⟨(keeps_setB w g o v).trans k, cur', h2, by rw [h3]; simp, fun t ht => ?_⟩
    rw [h4 t (by omega), Array.getElem?_setIfInBounds, if_neg (by omega)]

set_option maxHeartbeats 1000000 in
theorem index90_any (g : Nat) (caps : Array Value) (p : Int → Bool) (v : Value) (xs : List Int) (w : World) (hcf : Entered g) (hx : IsInts Any w v xs) (hp : ∀ i, i < xs.length → Says g caps (.int .i64 (nth xs i)) (p (nth xs i)) w) :
    Calls Try.prog 90 #[v, .func (.func g) #[] caps] w fun e w' => ∃ r : Int, e = .returned (.int .i64 r) ∧ ((r = -1 ∧ ∀ t, t < xs.length → p (nth xs t) = false) ∨ ∃ i : Nat, i < xs.length ∧ r = i ∧ (∀ t, t < i → p (nth xs t) = false) ∧ p (nth xs i) = true) ∧ Grew w w' := by
  obtain ⟨a, cap, rfl, hm, hc⟩ := hx
  have HC := hid hc; clear hc
  have HP := hid hp; clear hp
  have hcf' : ∀ args w, (callFunc g args).run Try.prog w = .ok (.enter g args) w := hcf
  clear hcf
  go_enter Try.func90, Try.ntmps90
  go_wp2
  go_loopg [5, 8] (xs.length) (fun k _ i wr => ∃ j : Nat, j ≤ xs.length ∧ i = .int .i64 j ∧ k = xs.length - j ∧ Hid (∀ t, t < j → p (nth xs t) = false) ∧ Grew w wr)
  case atStart => exact ⟨0, Nat.zero_le _, rfl, rfl, hid (fun t ht => by omega), grew_refl _⟩
  case round =>
    obtain ⟨j, hj, rfl, hk, HT, hg⟩ := hrel
    have HK := hid hk; clear hk
    by_cases hlt : j < xs.length
    · obtain ⟨b, off, o, rfl, hb, _, hcj⟩ := HC.out j hlt
      have hbl := lt_of_obj hb
      have hcj0 := (hg.cell (p := ⟨b, off + j, none⟩) hbl).trans hcj
      clear hb hcj
      have HS := hid (HP.out j hlt)
      by_cases hop : p (nth xs j) = true
      · have HOP := hid hop
        go_wp2_with (refine (show Calls _ _ _ _ _ from HS.out _ hg).mono ?_; rintro e w1 ⟨rfl, hx⟩; replace hg := grew_trans hg hx; have hc := (bcell hg).1)
        go_ret
        exact ⟨(j : Int), rfl, .inr ⟨j, hlt, rfl, HT.out, HOP.out⟩, hg⟩
      · have hop' : p (nth xs j) = false := by simpa using hop
        go_wp2_with (refine (show Calls _ _ _ _ _ from HS.out _ hg).mono ?_; rintro e w1 ⟨rfl, hx⟩; replace hg := grew_trans hg hx; have hc := (bcell hg).1)
        go_roundg (xs.length - (j + 1))
        case measure => have := HK.out; omega
        case rel => exact ⟨j + 1, by omega, by go_num, rfl, hid (lt_succ_all HT.out hop'), hg⟩
    · obtain rfl : j = xs.length := by omega
      go_wp2
      go_ret
      exact ⟨-1, rfl, .inl ⟨rfl, HT.out⟩, hg⟩

set_option maxHeartbeats 2000000 in
set_option maxRecDepth 20000 in
theorem delete85_any (q : Int → Bool) (gf : Nat) (caps : Array Value) (base g off sz c : Nat) (xs : List Int) (w : World) (hcf : Entered gf) (hq : ∀ x ∈ xs, ∀ W, Below base w W → Calls Try.prog gf (#[.int .i64 x] ++ caps) W fun e w'' => e = .returned (.bool (q x)) ∧ Grew W w'')
    (hbg : base ≤ g) (hbase : base ≤ w.heap.size) (hx : LRun w g off sz xs.length xs) (hm : xs.length ≤ 9223372036854775807) (hnc : xs.length ≤ c) :
    Calls Try.prog 85 #[.slice (some ⟨g, off, none⟩) xs.length c, .func (.func gf) #[] caps] w fun e w' => 
      e = .returned (.slice (some ⟨g, off, none⟩) (kept q xs).length c) ∧ Below base w w' ∧
      ∃ cur : Array Value, w'.heap[g]? = some (.cells cur 3 (0, 0)) ∧ cur.size = sz ∧ ∀ t, t < (kept q xs).length → cur[off + t]? = some (.int .i64 (nth (kept q xs) t)) := by
  have HI := hid (index90_any gf caps q (.slice (some ⟨g, off, none⟩) xs.length c) xs w hcf
    (by obtain ⟨h0, cur, h1, h2, h3, h4⟩ := hx
        exact ⟨_, _, rfl, hm, fun i hi => ⟨g, off, _, rfl, h1, trivial, by rw [cell_of_row w g _ _ _ _ h1]; exact h4 i hi⟩⟩)
    (fun i hi W hW => hq (nth xs i) (by rw [nth_lt hi]; exact List.getElem_mem hi) W (hW.mono hbase)))
  have HX := hid hx; clear hx
  have HQ := hid hq; clear hq
  have HBG := hid hbg; clear hbg
  have HBS := hid hbase; clear hbase
  obtain ⟨n, hn⟩ : ∃ n, xs.length = n := ⟨_, rfl⟩
  obtain ⟨ns, hns⟩ : ∃ n, (kept q xs).length = n := ⟨_, rfl⟩
  rw [hn] at HI HX hm hnc ⊢
  rw [hns]
  have HLEN := hid hn; clear hn
  have HNS := hid hns; clear hns
  have hcf' : ∀ args w, (callFunc gf args).run Try.prog w = .ok (.enter gf args) w := hcf
  clear hcf
  go_enter Try.func85, Try.ntmps85
  go_wp2_with (go_at_call 90; with_reducible refine HI.out.mono ?_; rintro e w1 ⟨r, rfl, hr1, hk1⟩; have HK1 := hid hk1; clear hk1; rcases hr1 with ⟨rfl, hall⟩ | ⟨i, hi, rfl, hall, hno⟩; all_goals (first | (have HALL := hid hall; have HNO := hid hno; have hne1 : ((i : Int) == -1) = false := beq_eq_false_iff_ne.2 (by omega); clear hall hno) | (have HALL := hid hall; clear hall)))
  · go_ret
    have hst : kept q xs = xs := kept_all (fun x hx => by obtain ⟨t, ht, rfl⟩ := List.getElem_of_mem hx; have := HALL.out t (by rw [← HLEN.out]; exact ht); rwa [nth_lt ht] at this)
    have hnn : ns = n := by rw [← HNS.out, hst, HLEN.out]
    obtain ⟨h0, cur, h1, h2, h3, h4⟩ := HX.out.keeps (Grew.keeps (may := fun _ _ => False) HK1.out) (fun _ e => e)
    refine ⟨by rw [hnn]; rfl, HK1.out.mono HBS.out, cur, h1, h2, fun t ht => ?_⟩
    rw [hst]; exact h4 t (by omega)
  · go_loopg [5, 6, 7] n (fun gk s5 s6 _ wr => ∃ (i j : Nat) (ys : List Int), s5 = .int .i64 i ∧ s6 = .int .i64 j ∧ i < j ∧ j ≤ n ∧ n - j ≤ gk ∧ Hid (LRun wr g off sz n ys) ∧ Hid (i = (kept q (xs.take j)).length ∧ ys.take i = kept q (xs.take j)) ∧ Hid (∀ t, j ≤ t → t < n → nth ys t = nth xs t) ∧ Hid (Below base w wr))
    case atStart =>
      have hl : i < xs.length := by rw [HLEN.out]; exact hi
      have hpre : ∀ x ∈ xs.take i, q x = false := by
        intro x hx
        obtain ⟨t, ht, rfl⟩ := List.getElem_of_mem hx
        have := HALL.out t (by simp at ht; omega)
        rw [nth_lt (by simp at ht; omega)] at this
        simpa using this
      have htk : xs.take (i + 1) = xs.take i ++ [nth xs i] := take_succ_nth hl
      have hst : kept q (xs.take (i + 1)) = xs.take i := by rw [htk, kept_snoc, HNO.out, kept_all hpre]; simp
      refine ⟨i, i + 1, xs, rfl, by go_num, by omega, by omega, by omega, hid (HX.out.keeps (Grew.keeps (may := fun _ _ => False) HK1.out) (fun _ e => e)), hid ?_, hid (fun _ _ _ => rfl), hid (HK1.out.mono HBS.out)⟩
      rw [hst]; exact ⟨by simp; omega, rfl⟩
    case round =>
      clear hne1
      obtain ⟨i, j, ys, rfl, rfl, hij, hjn, hgk, HL, HT, HTL, HK⟩ := hrel
      have HGK := hid hgk; clear hgk
      by_cases hlt2 : j < n
      · have hltz : (j : Int) < (n : Int) := by omega
        have hl : j < xs.length := by rw [HLEN.out]; exact hlt2
        obtain ⟨cj, fj⟩ := HL.out.cell hlt2
        obtain ⟨ci, fi⟩ := HL.out.cell (t := i) (by omega)
        rw [HTL.out j (Nat.le_refl _) hlt2] at cj
        have H1 := hid (HQ.out (nth xs j) (by rw [nth_lt hl]; exact List.getElem_mem hl) _ HK.out)
        have htk := take_succ_nth hl
        have HTK := hid htk
        clear htk
        obtain ⟨x, hxx⟩ : ∃ x, nth xs j = x := ⟨_, rfl⟩
        obtain ⟨old, hold⟩ : ∃ x, nth ys i = x := ⟨_, rfl⟩
        rw [hxx] at cj H1 HTK
        rw [hold] at ci
        clear hold hxx
        obtain ⟨p, hp⟩ : ∃ p, q x = p := ⟨_, rfl⟩
        rw [hp] at H1
        have HP := hid hp; clear hp
        cases p
        · go_wp2_with (refine (show Calls _ _ _ _ _ from H1.out).mono ?_; rintro e w2 ⟨rfl, hk2⟩; have HL1 := hid (HL.out.keeps (Grew.keeps (may := fun _ _ => False) hk2) (fun _ e => e)); have HK2 := hid (HK.out.trans (hk2.mono (Nat.le_trans HBS.out HK.out.size))); obtain ⟨ci2, fi2⟩ := HL1.out.cell (t := i) (by omega); clear hk2)
          go_roundg (n - (j + 1))
          case measure => have := HGK.out; omega
          case rel =>
            refine ⟨i + 1, j + 1, ys.set i x, by go_num, by go_num, by omega, by omega, Nat.le_refl _, hid (HL1.out.set (by omega) x), hid ?_, hid (fun t h1 h2 => ?_), hid (HK2.out.trans ((keeps_setB _ g _ _).below (Nat.le_trans HBS.out HK2.out.size) (fun k o e => by rw [e]; exact HBG.out)))⟩
            · rw [HTK.out, kept_snoc, HP.out]
              have hil : i < ys.length := by rw [HL1.out.1]; omega
              refine ⟨by simp [← HT.out.1], ?_⟩
              rw [if_neg (by simp), ← HT.out.2, List.take_succ_eq_append_getElem (by simpa using hil), List.take_set, List.set_eq_of_length_le (by simp; omega)]
              simp
            · rw [nth_set (by rw [HL1.out.1]; omega), if_neg (by omega)]; exact HTL.out t (by omega) h2
        · go_wp2_with (refine (show Calls _ _ _ _ _ from H1.out).mono ?_; rintro e w2 ⟨rfl, hk2⟩; have HL1 := hid (HL.out.keeps (Grew.keeps (may := fun _ _ => False) hk2) (fun _ e => e)); have HK2 := hid (HK.out.trans (hk2.mono (Nat.le_trans HBS.out HK.out.size))); clear hk2)
          go_roundg (n - (j + 1))
          case measure => have := HGK.out; omega
          case rel =>
            refine ⟨i, j + 1, ys, rfl, by go_num, by omega, by omega, Nat.le_refl _, HL1, hid ?_, hid (fun t h1 h2 => HTL.out t (by omega) h2), HK2⟩
            rw [HTK.out, kept_snoc, HP.out]; exact HT.out
      · obtain rfl : j = n := by omega
        have hltz : ¬ (j : Int) < (j : Int) := by omega
        have hcl : ∀ ty, (Builtin.clear_ #[25] ty #[.slice (some ⟨g, off + i, none⟩) (j - i) (c - i)]).run Try.prog wr = .ok (.tuple #[]) (wr.setCells g (off + i) (List.replicate (j - i) (.int .i64 0))) :=
          fun ty => Lib.run_clear_slice wr _ 3 ty _ Try.underlying25 (fun _ => by kernel_rfl) rfl rfl g (off + i) _ _ (by omega) (fun t ht => by rw [show off + i + t = off + (i + t) by omega, (HL.out.cell (t := i + t) (by omega)).1]; rfl) (fun t ht => by rw [show off + i + t = off + (i + t) by omega]; exact (HL.out.cell (t := i + t) (by omega)).2)
        go_wp2
        go_ret
        have htk : xs.take j = xs := List.take_of_length_le (by rw [HLEN.out]; omega)
        have hT := HT.out
        rw [htk, HNS.out] at hT
        obtain ⟨h0, cur, h1, h2, h3, h4⟩ := HL.out
        obtain ⟨k, cur', g1, g2, g3⟩ := setCells_obj g (List.replicate (j - i) (.int .i64 0)) (off + i) wr cur h1
        refine ⟨by rw [hT.1]; rfl, HK.out.trans (k.below (Nat.le_trans HBS.out HK.out.size) (fun k o e => by rw [e]; exact HBG.out)), cur', g1, by rw [g2, h2], fun t ht => ?_⟩
        have hti : t < i := by rw [hT.1]; exact ht
        rw [g3 _ (by omega), h4 t (by omega), ← hT.2]
        simp [nth, List.getD, List.getElem?_take_of_lt hti]

set_option maxHeartbeats 1000000 in
theorem delete85_nil (gf : Nat) (caps : Array Value) (w : World) (hcf : Entered gf) :
    Calls Try.prog 85 #[.slice none 0 0, .func (.func gf) #[] caps] w fun e w' => e = .returned (.slice none 0 0) ∧ Grew w w' := by
  have HI := hid (index90_any gf caps (fun _ => false) (.slice none 0 0) [] w hcf (Reads.nil _ _ _ _ _) (fun i hi => by simp at hi))
  go_enter Try.func85, Try.ntmps85
  go_wp2_with (go_at_call 90; with_reducible refine HI.out.mono ?_; rintro e w1 ⟨r, rfl, hr1, hk1⟩; have HK1 := hid hk1; clear hk1; obtain rfl : r = -1 := (by rcases hr1 with ⟨h, _⟩ | ⟨i, hi, _⟩; exact h; simp at hi); clear hr1)
  go_ret
  exact ⟨rfl, HK1.out⟩

theorem delete85_seg (q : Int → Bool) (gf : Nat) (caps : Array Value) (base : Nat) (v : Value) (n : Nat) (xs : List Int) (w : World) (hcf : Entered gf) (hq : ∀ x ∈ xs, ∀ W, Below base w W → Calls Try.prog gf (#[.int .i64 x] ++ caps) W fun e w'' => e = .returned (.bool (q x)) ∧ Grew W w'')
    (hbase : base ≤ w.heap.size) (hs : Seg w base 3 1 v n (xs.map (.int .i64))) (hn : xs.length = n) (hl : n ≤ 100000) :
    Calls Try.prog 85 #[v, .func (.func gf) #[] caps] w fun e w' => ∃ u, e = .returned u ∧ IsWd w' u (kept q xs) ∧ Below base w w' := by
  subst hn
  obtain ⟨hlen, h⟩ := hs
  rcases h with ⟨rfl, h0⟩ | ⟨g, off, cap, cur, rfl, hbg, hgc, h1, h2, h3, h4⟩
  · have hx : xs = [] := List.length_eq_zero_iff.1 h0
    subst hx
    exact (delete85_nil gf caps w hcf).mono fun e w' ⟨h5, h6⟩ => ⟨_, h5, wd_nil _, h6.mono hbase⟩
  · refine (delete85_any q gf caps base g off cur.size cap xs w hcf hq hbg hbase ⟨rfl, cur, hgc, rfl, by omega, fun t ht => ?_⟩ (by omega) h1).mono ?_
    · have h5 := congrArg (fun l => l[t]?) h4
      rw [List.getElem?_take_of_lt (by omega), List.getElem?_drop, Array.getElem?_toList, List.getElem?_map, List.getElem?_eq_getElem ht, Option.map_some, ← nth_lt ht] at h5
      exact h5
    · rintro e w' ⟨rfl, hb, cur', g1, g2, g3⟩
      have hk : (kept q xs).length ≤ xs.length := List.length_filter_le _ _
      exact ⟨_, rfl, ⟨_, cap, rfl, by omega, _, _, rfl, by omega, fun i hi => ⟨g, off, _, rfl, g1, trivial, by rw [cell_of_row w' g _ _ _ _ g1]; exact g3 i hi⟩⟩, hb⟩


/-- A function of moves, on the moves of a list. -/
def SaysM (g : Nat) (caps : Array Value) (p : Mv → Bool) (ms : List Mv) (w : World) : Prop :=
  ∀ W, Grew w W → ∀ m ∈ ms, Calls Try.prog g (#[encM m] ++ caps) W fun e w' => e = .returned (.bool (p m)) ∧ Grew W w'

set_option maxHeartbeats 1000000 in
theorem index92_any (g : Nat) (caps : Array Value) (p : Mv → Bool) (v : Value) (ms : List Mv) (w : World) (hcf : Entered g) (hx : IsMvs w v ms) (hp : SaysM g caps p ms w) :
    Calls Try.prog 92 #[v, .func (.func g) #[] caps] w fun e w' => ∃ r : Int, e = .returned (.int .i64 r) ∧ Hid (decide (0 ≤ r) = ms.any p) ∧ Grew w w' := by
  obtain ⟨n, hn⟩ : ∃ n, ms.length = n := ⟨_, rfl⟩
  obtain ⟨a, cap, rfl, ⟨hm, _⟩, hc⟩ := hx
  rw [hn] at hm ⊢
  have HN := hid hn
  have HC := hid hc; clear hc hn
  have HP := hid hp; clear hp
  have hcf' : ∀ args w, (callFunc g args).run Try.prog w = .ok (.enter g args) w := hcf
  clear hcf
  go_enter Try.func92, Try.ntmps92
  go_wp2
  go_loopg [5, 8] n (fun k _ i wr => ∃ j : Nat, j ≤ n ∧ i = .int .i64 j ∧ k = n - j ∧ Hid (∀ t m, t < j → ms[t]? = some m → p m = false) ∧ Grew w wr)
  case atStart => exact ⟨0, Nat.zero_le _, rfl, rfl, hid (fun t m ht => by omega), grew_refl _⟩
  case round =>
    obtain ⟨j, hj, rfl, hk, HT, hg⟩ := hrel
    have HK := hid hk; clear hk
    by_cases hlt : j < n
    · obtain ⟨x, hx⟩ : ∃ x, ms[j]? = some x := ⟨_, List.getElem?_eq_getElem (by rw [HN.out]; exact hlt)⟩
      obtain ⟨b, off, rfl, hpa⟩ := HC.out j x hx
      have hpa2 := hpa.grew hpa.lt hg
      have p0 := hpa2.c0
      have p1 := hpa2.c1
      have p2 := hpa2.c2
      have p3 := hpa2.c3
      have hplt := hpa2.lt
      obtain ⟨y, hy⟩ : ∃ y, p x = y := ⟨_, rfl⟩
      have HY := hid hy; have HX := hid hx
      have HS := hid (HP.out _ hg x (List.mem_of_getElem? hx))
      rw [hy] at HS
      obtain ⟨x1, x2, x3, x4⟩ := x
      simp only [encM] at p0 p1 p2 p3 HS
      clear hx hpa hpa2 hy
      cases y with
      | true =>
        go_wp2_with (refine (show Calls _ _ _ _ _ from HS.out).mono ?_; rintro e w1 ⟨rfl, hx⟩; replace hg := grew_trans hg hx)
        go_ret
        refine ⟨(j : Int), rfl, hid ?_, hg⟩
        rw [show decide ((0 : Int) ≤ (j : Int)) = true by simp]
        exact (List.any_eq_true.2 ⟨_, List.mem_of_getElem? HX.out, HY.out⟩).symm
      | false =>
        go_wp2_with (refine (show Calls _ _ _ _ _ from HS.out).mono ?_; rintro e w1 ⟨rfl, hx⟩; replace hg := grew_trans hg hx)
        go_roundg (n - (j + 1))
        case measure => have := HK.out; omega
        case rel =>
          refine ⟨j + 1, by omega, by go_num, rfl, hid (fun t m ht hm => ?_), hg⟩
          rcases Nat.lt_or_eq_of_le (Nat.le_of_lt_succ ht) with h | rfl
          · exact HT.out t m h hm
          · rw [HX.out] at hm; cases hm; exact HY.out
    · obtain rfl : j = n := by omega
      go_wp2
      go_ret
      refine ⟨-1, rfl, hid ?_, hg⟩
      rw [show decide ((0 : Int) ≤ -1) = false by decide]
      refine (List.any_eq_false.2 ?_).symm
      intro x hx
      obtain ⟨i, hi, rfl⟩ := List.getElem_of_mem hx
      have := HT.out i _ (by rw [← HN.out]; exact hi) (List.getElem?_eq_getElem hi)
      simp [this]

theorem contains65_any (g : Nat) (caps : Array Value) (p : Mv → Bool) (v : Value) (ms : List Mv) (w : World) (hcf : Entered g) (hx : IsMvs w v ms) (hp : SaysM g caps p ms w) :
    Calls Try.prog 65 #[v, .func (.func g) #[] caps] w fun e w' => e = .returned (.bool (ms.any p)) ∧ Grew w w' := by
  have H := hid (index92_any g caps p v ms w hcf hx hp)
  obtain ⟨a, cap, rfl, -⟩ := hx
  clear hcf hp
  go_enter Try.func65, Try.ntmps65
  go_wp2_with (go_at_call 92; with_reducible refine H.out.mono ?_; rintro e w1 ⟨r, rfl, hr, hg⟩)
  go_ret
  exact ⟨ret_bool hr.out, hg⟩

theorem contains67_any (v : Value) (xs : List Int) (b : Int) (w : World) (hx : IsInts Any w v xs) :
    Calls Try.prog 67 #[v, .int .i64 b] w fun e w' => e = .returned (.bool (xs.contains b)) ∧ Grew w w' := by
  have H := hid (index93_any v xs b w hx)
  obtain ⟨a, cap, rfl, -⟩ := hx
  go_enter Try.func67, Try.ntmps67
  go_wp2_with (go_at_call 93; with_reducible refine H.out.mono ?_; rintro e w1 ⟨r, rfl, hr, hg⟩; have HR := hid hr; clear hr)
  go_ret
  refine ⟨ret_bool ?_, hg⟩
  rcases HR.out with ⟨rfl, h⟩ | ⟨i, hi, rfl, _, h⟩
  · rw [show decide ((-1 : Int) ≥ 0) = false by decide]
    refine Eq.symm (Bool.eq_false_iff.2 (fun hc => ?_))
    rw [List.contains_iff_mem] at hc
    obtain ⟨t, ht, e⟩ := List.getElem_of_mem hc
    exact h t ht (by rw [nth_lt ht]; exact e)
  · rw [show decide ((i : Int) ≥ 0) = true by simp]
    refine (List.contains_iff_mem.2 ?_).symm
    rw [← h, nth_lt hi]; exact List.getElem_mem hi

end Go.Proofs.Ytojkohpniokaaaa
