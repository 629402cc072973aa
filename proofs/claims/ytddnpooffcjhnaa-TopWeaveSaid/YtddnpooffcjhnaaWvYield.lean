/- The list of words that Class makes, in memory; walk: Class$1 (63), which takes a word. -/
import Derived.Test.YtddnpooffcjhnaaWvStarts
import Derived.Test.YtddnpooffcjhnaaWvLw
namespace Go.Proofs.Ytddnpooffcjhnaa
open Go Go.RowKit Go.Lin Go.Lin.Wv
attribute [local go_sem] Oper.semAt_some

/-- Words in memory, in blocks of kind ok; L: the list, in the variable at co. -/
structure OutAt (ok : Nat → Prop) (co cm most : Nat) (W : World) (v : Value) (L : List (List Int)) (vs : List Value) : Prop where
  out : W.heap[co]? = some (.cells #[v] 28 (0, 0))
  top : W.heap[cm]? = some (.cells #[.int .i64 (most : Int)] 3 (0, 0))
  len : vs.length = L.length
  seg : Seg W 0 25 1 v L.length vs
  words : ∀ i, i < L.length → WdOff (fun k o => IntCells k o ∧ ok k) W (vs.getD i undef) (nthL L i)
  own : ∀ k, v.ownBlock = some k → ok k
  le : L.length ≤ most

def MayO (co : Nat) (v : Value) (k : Nat) (o : Obj) : Prop := (k = co ∧ ∃ x, o = .cells #[x] 28 (0, 0)) ∨ (v.ownBlock = some k ∧ ∃ cur, o = .cells cur 25 (0, 0))

theorem OutAt.keeps {ok : Nat → Prop} {co cm most : Nat} {W W' : World} {v : Value} {L : List (List Int)} {vs : List Value} {may : Nat → Obj → Prop} (h : OutAt ok co cm most W v L vs) (hk : Keeps may W W')
    (h1 : ∀ o, o.isCells = true → ¬ may co o) (h2 : ∀ o, o.isCells = true → ¬ may cm o) (h3 : ∀ k o, ok k → ((∃ cur, o = .cells cur 25 (0, 0)) ∨ IntCells k o) → ¬ may k o) : OutAt ok co cm most W' v L vs :=
  ⟨hk.obj _ _ h.out (h1 _ rfl), hk.obj _ _ h.top (h2 _ rfl), h.len, h.seg.keeps hk (fun k o e ho => h3 k o (h.own k e) (.inl ho)),
    fun i hi => (h.words i hi).keeps hk (fun k o ⟨ho, hok⟩ => h3 k o hok (.inr ho)), h.own, h.le⟩

theorem OutAt.grew {ok : Nat → Prop} {co cm most : Nat} {W W' : World} {v : Value} {L : List (List Int)} {vs : List Value} (h : OutAt ok co cm most W v L vs) (hg : Grew W W') : OutAt ok co cm most W' v L vs :=
  h.keeps (hg.keeps (may := fun _ _ => False)) (fun _ _ h => h) (fun _ _ h => h) (fun _ _ _ _ h => h)

theorem OutAt.mono {ok ok' : Nat → Prop} {co cm most : Nat} {W : World} {v : Value} {L : List (List Int)} {vs : List Value} (h : OutAt ok co cm most W v L vs) (hm : ∀ k, k < W.heap.size → ok k → ok' k) : OutAt ok' co cm most W v L vs :=
  ⟨h.out, h.top, h.len, h.seg, fun i hi => (h.words i hi).re (fun k _ ho ⟨h1, h2⟩ => ⟨h1, hm k (lt_of_obj ho) h2⟩), fun k e => hm k (h.seg.own k e).2.1 (h.own k e), h.le⟩

theorem OutAt.ls {ok : Nat → Prop} {co cm most : Nat} {W : World} {v : Value} {L : List (List Int)} {vs : List Value} (h : OutAt ok co cm most W v L vs) : IsLs W v L :=
  ⟨fun i => vs.getD i undef, (h.seg.reads _ (fun i hi => by have : i < vs.length := by rw [h.len]; exact hi
                                                            simp [List.getD, List.getElem?_eq_getElem this])).any, fun i hi => (h.words i hi).wd⟩

theorem outAt_push {ok ok' : Nat → Prop} {co cm most : Nat} {W W' : World} {v v' u : Value} {L : List (List Int)} {vs : List Value} {ys : List Int} (h : OutAt ok co cm most W v L vs) (hlt : L.length < most)
    (ho : W'.heap[co]? = some (.cells #[v'] 28 (0, 0))) (hs : Seg W' 0 25 1 v' (L.length + 1) (vs ++ [u])) (hk : Keeps (MayO co v) W W') (hu : WdOff (fun k o => IntCells k o ∧ ok k) W u ys)
    (hmono : ∀ k, ok k → ok' k) (hown : ∀ k, v'.ownBlock = some k → ok' k) : OutAt ok' co cm most W' v' (L ++ [ys]) (vs ++ [u]) := by
  have hnot : ∀ k o, IntCells k o ∧ ok k → ¬ MayO co v k o := by
    rintro k o ⟨⟨c, fr, rfl⟩, _⟩ (⟨_, x, h⟩ | ⟨_, cur, h⟩) <;> cases h
  refine ⟨ho, hk.obj _ _ h.top (by rintro (⟨_, x, h⟩ | ⟨_, cur, h⟩) <;> cases h), by simp [h.len], by simpa using hs, fun i hi => ?_, hown, by simp; omega⟩
  by_cases hil : i < L.length
  · rw [show (vs ++ [u]).getD i undef = vs.getD i undef by simp [List.getD, List.getElem?_append_left (show i < vs.length by rw [h.len]; exact hil)], show nthL (L ++ [ys]) i = nthL L i by simp [nthL, List.getD, List.getElem?_append_left hil]]
    exact ((h.words i hil).keeps hk hnot).re (fun k _ _ ⟨h1, h2⟩ => ⟨h1, hmono k h2⟩)
  · obtain rfl : i = L.length := by simp at hi; omega
    rw [show (vs ++ [u]).getD L.length undef = u by simp [List.getD, ← h.len], show nthL (L ++ [ys]) L.length = ys by simp [nthL]]
    exact (hu.keeps hk hnot).re (fun k _ _ ⟨h1, h2⟩ => ⟨h1, hmono k h2⟩)

/-- What a call that takes words leaves. -/
def Took (ok : Nat → Prop) (co cm most : Nat) (v : Value) (L' : List (List Int)) (w w' : World) : Prop :=
  ∃ v' vs', OutAt (fun k => ok k ∨ w.heap.size ≤ k) co cm most w' v' L' vs' ∧ Keeps (MayO co v) w w' ∧ (∀ k, v'.ownBlock = some k → v.ownBlock = some k ∨ w.heap.size ≤ k)

/-- What is left at the end: a result is stored, records of loops turn. -/
theorem took_leave {ok ok5 : Nat → Prop} {co cm most c8 : Nat} {w W3 W5 W9 : World} {v v5 x y : Value} {L' : List (List Int)} {vs5 : List Value} (hg : Grew w W3) (h5 : OutAt ok5 co cm most W5 v5 L' vs5) (hm5 : ∀ k, ok5 k → ok k ∨ w.heap.size ≤ k)
    (hk : Keeps (MayO co v) W3 W5) (ho : ∀ k, v5.ownBlock = some k → v.ownBlock = some k ∨ W3.heap.size ≤ k) (hob : W5.heap[c8]? = some (.cells #[x] 4 (0, 0))) (hc8 : w.heap.size ≤ c8)
    (hkk : Keeps (fun k o => w.heap.size ≤ k ∧ o.isCells = false) (W5.setCell ⟨c8, 0, none⟩ y) W9) : Took ok co cm most v L' w W9 := by
  have hs : Keeps (fun k o => k = c8 ∧ o = .cells #[x] 4 (0, 0)) W5 (W5.setCell ⟨c8, 0, none⟩ y) := keeps_setCell W5 c8 y (fun o ho => ⟨rfl, by rw [hob] at ho; exact (Option.some.inj ho).symm⟩)
  have h6 := h5.keeps hs (by rintro o _ ⟨e, rfl⟩; have := h5.out; rw [e, hob] at this; cases this) (by rintro o _ ⟨e, rfl⟩; have := h5.top; rw [e, hob] at this; cases this) (by rintro k o _ (⟨cur, rfl⟩ | ⟨c, fr, rfl⟩) ⟨_, h⟩ <;> cases h)
  have h9 := h6.keeps hkk (fun o h1 h2 => by rw [h1] at h2; cases h2.2) (fun o h1 h2 => by rw [h1] at h2; cases h2.2) (by rintro k o _ (⟨cur, rfl⟩ | ⟨c, fr, rfl⟩) ⟨_, h⟩ <;> cases h)
  refine ⟨v5, vs5, h9.mono (fun k _ h => hm5 k h), ?_, fun k e => ?_⟩
  · have h1 : Keeps (fun i o => w.heap.size ≤ i ∨ MayO co v i o) w W9 := ((hg.keeps.trans (hk.mono (fun _ _ h => .inr h))).trans (hs.mono (fun i o h => .inl (by rw [h.1]; exact hc8)))).trans (hkk.mono (fun i o h => .inl h.1))
    exact ⟨h1.os, h1.tape, h1.output, h1.size, fun k o ho hn => h1.obj k o ho (fun hm => by
      rcases hm with hm | hm
      · have := lt_of_obj ho; omega
      · exact hn hm)⟩
  · rcases ho k e with h | h
    · exact .inl h
    · exact .inr (Nat.le_trans hg.size h)

set_option maxHeartbeats 2000000 in
set_option maxRecDepth 20000 in
theorem yield63_any (ok : Nat → Prop) (co cm most : Nat) (xv : Value) (ys : List Int) (w : World) (v : Value) (L : List (List Int)) (vs : List Value) (hm : most ≤ 1000) (hne : co ≠ cm) (h : OutAt ok co cm most w v L vs) (hx : WdOff (fun k o => IntCells k o ∧ ok k) w xv ys) :
    Calls Try.prog 63 #[xv, .pointer (some ⟨co, 0, none⟩), .pointer (some ⟨cm, 0, none⟩)] w fun e w' => e = .returned (.bool (decide (((L ++ [ys]).take most).length < most))) ∧ Took ok co cm most v ((L ++ [ys]).take most) w w' := by
  obtain ⟨⟨xa, xc, rfl, hxc⟩, -⟩ := id hx
  obtain ⟨n, hn⟩ : ∃ n, L.length = n := ⟨_, rfl⟩
  have hseg := h.seg
  have hle := h.le
  rw [hn] at hseg hle
  obtain ⟨oa, oc, rfl, -⟩ := hseg.shape
  have c0 : w.cell? ⟨co, 0, none⟩ = some (.slice oa n oc) := cell_of_row _ _ _ _ _ _ h.out
  have f0 := frozen_obj h.out 0
  have l0 := lt_of_obj h.out
  have c1 : w.cell? ⟨cm, 0, none⟩ = some (.int .i64 (most : Int)) := cell_of_row _ _ _ _ _ _ h.top
  have l1 := lt_of_obj h.top
  obtain ⟨L', hL'⟩ : ∃ L', (L ++ [ys]).take most = L' := ⟨_, rfl⟩
  rw [hL']
  have HL' := hid hL'
  clear hL'
  have H := hid h; have HX := hid hx; have HN := hid hn; have HS := hid hseg
  clear h hx hn hseg hxc
  by_cases hlt : n < most
  · have hli : (n : Int) < (most : Int) := by omega
    have ht : L' = L ++ [ys] := HL'.out.symm.trans <| List.take_of_length_le (by rw [List.length_append, HN.out, List.length_singleton]; omega)
    have HT := hid (show L' = L ++ [ys] ∧ L'.length = n + 1 by rw [ht]; simp [HN.out])
    have hn9 : n < 1000000000 := by omega
    clear ht
    go_enter Try.func63, Try.ntmps63
    go_wp2_with (at_builtin; go_loud (refine wpList_append_one rfl _ _ 28 rfl 0 25 Try.underlying28 Try.info25 rfl (by decide) _ n _ rfl (HS.out.alloc _) _ _ _ rfl (one_new _ _ _) rfl hn9 ?_ ?_); (simp only [World.size_alloc]; omega); intro v4 w4 hown4 hgrow4 hblk4; have hk4 : Keeps (fun k o => (Value.slice oa n oc).ownBlock = some k ∧ ∃ cur, o = .cells cur 25 (0, 0)) w w4 := ((Keeps.refl _ w).alloc _).grown hgrow4 (fun k o e ho => by obtain ⟨_, _, cur, hcur⟩ := HS.out.own k e; have h2 := (Below.heap_alloc w (.cells #[.slice xa ys.length xc] 25) k (lt_of_obj hcur)).trans hcur; rw [h2] at ho; cases ho; exact ⟨e, _, rfl⟩); have ob4 := hk4.obj _ _ H.out.out (fun ⟨_, cur, h⟩ => by cases h); have d0 : w4.cell? ⟨co, 0, none⟩ = some _ := cell_of_row _ _ _ _ _ _ ob4; have g0 := frozen_obj ob4 0; have m0 := lt_of_obj ob4; obtain ⟨a4, c4, rfl, _⟩ := hown4.shape; have obm := hk4.obj _ _ H.out.top (fun ⟨_, cur, h⟩ => by cases h); have d1 : w4.cell? ⟨cm, 0, none⟩ = some _ := cell_of_row _ _ _ _ _ _ obm; have m1 := lt_of_obj obm; have HOWN4 := hid hown4; have HK4 := hid hk4; have HOB4 := hid ob4; have HBLK4 := hid hblk4; clear hown4 hgrow4 hblk4 hk4 ob4 obm)
    go_ret
    have hks := keeps_setCell (may := MayO co (.slice oa n oc)) w4 co (.slice a4 (n + 1) c4) (fun o ho => .inl ⟨rfl, _, by rw [HOB4.out] at ho; exact (Option.some.inj ho).symm⟩)
    have hkall : Keeps (MayO co (.slice oa n oc)) w (w4.setCell ⟨co, 0, none⟩ (.slice a4 (n + 1) c4)) := (HK4.out.mono (fun k o h => .inr h)).trans hks
    have hown : ∀ k, (Value.slice a4 (n + 1) c4).ownBlock = some k → (Value.slice oa n oc).ownBlock = some k ∨ w.heap.size ≤ k := fun k e => by
      rcases HBLK4.out with h | h
      · exact .inl (h.symm.trans e)
      · have e2 := h.symm.trans e
        simp at e2
        exact .inr (by omega)
    refine ⟨?_, .slice a4 (n + 1) c4, vs ++ [.slice xa ys.length xc], ?_, hkall, hown⟩
    · rw [HT.out.2]
      show Ending.returned (.bool (decide ((n : Int) + 1 < (most : Int)))) = _
      rw [show decide ((n : Int) + 1 < (most : Int)) = decide (n + 1 < most) from decide_eq_decide.2 (by omega)]
    · rw [HT.out.1]
      refine outAt_push H.out (by rw [HN.out]; exact hlt) ?_ ?_ hkall HX.out (fun k h => .inl h) (fun k e => ?_)
      · rw [heap_setCell_same _ _ _ _ _ _ HOB4.out]; simp
      · rw [HN.out]
        exact HOWN4.out.keeps (keeps_setB w4 co 0 _) (fun k o e _ h => by
          obtain ⟨_, _, cur, hcur⟩ := HOWN4.out.own k e
          subst h
          rw [HOB4.out] at hcur; cases hcur)
      · rcases hown k e with h | h
        · exact .inl (H.out.own k h)
        · exact .inr h
  · have hge : most = n := by omega
    subst hge
    have hli : ¬ (most : Int) < (most : Int) := by omega
    have ht : L' = L := HL'.out.symm.trans <| by rw [List.take_append_of_le_length (by rw [HN.out]; exact Nat.le_refl _), List.take_of_length_le (by rw [HN.out]; exact Nat.le_refl _)]
    have HT := hid ht
    clear ht
    go_enter Try.func63, Try.ntmps63
    go_wp2
    go_ret
    exact ⟨by rw [HT.out, HN.out]; simp, _, vs, by rw [HT.out]; exact H.out.mono (fun k _ h => .inl h), Keeps.refl _ _, fun k e => .inl e⟩
end Go.Proofs.Ytddnpooffcjhnaa
