/- Walk of the reference: Way (53), joined. -/
import Derived.Test.YtojkohpniokaaaaPgRefA
import Derived.Laws.NewBlocks
namespace Go.Proofs.Ytojkohpniokaaaa
open Go Go.RowKit Go.Lin Go.Lin.Pg

theorem alloc_set0 (W : World) (c : Array Value) (t : TypeId) (v : Value) : (W.alloc (.cells c t)).setCell ⟨W.heap.size, 0, none⟩ v = W.alloc (.cells (c.setIfInBounds 0 v) t) :=
  World.setCell_alloc_at c t _ 0 v rfl

theorem pTables (W0 : World) (N : Nat) : ∃ W2, ((W0.alloc (.cells ((madeCells #[.bool false] N).setIfInBounds 0 (.bool true)) 4)).alloc (.cells (madeCells #[.slice none 0 0] N) 25)).alloc (.cells #[.int .i64 0] 3) = W2 ∧ Grew W0 W2 ∧
    W2.rowIs W0.heap.size 4 N (fun i => .bool (seenP [(((0 : Int), []), .slice none 0 0)] i)) ∧ W2.rowIs (W0.heap.size + 1) 25 N (wvP [(((0 : Int), []), .slice none 0 0)]) ∧
    Seg W2 W0.heap.size 3 1 (.slice (some ⟨W0.heap.size + 1 + 1, 0, none⟩) 1 1) 1 (cellsP [(((0 : Int), []), .slice none 0 0)]) := by
  have hA := World.rowIs_made W0 (.bool false) N 4
  have hA2 := hA.set 0 (.bool true)
  rw [alloc_set0] at hA2
  obtain ⟨Wa, hWa⟩ : ∃ Wa, W0.alloc (.cells ((madeCells #[.bool false] N).setIfInBounds 0 (.bool true)) 4) = Wa := ⟨_, rfl⟩
  have hsz : Wa.heap.size = W0.heap.size + 1 := by rw [← hWa]; simp
  have hg : Grew W0 Wa := by rw [← hWa]; exact grew_alloc (grew_refl _) _
  rw [hWa] at hA2 ⊢
  have hB := World.rowIs_made Wa (.slice none 0 0) N 25
  rw [hsz] at hB
  obtain ⟨W1, hW1⟩ : ∃ W1, Wa.alloc (.cells (madeCells #[.slice none 0 0] N) 25) = W1 := ⟨_, rfl⟩
  have hA3 := hA2.alloc (.cells (madeCells #[.slice none 0 0] N) 25)
  rw [hW1] at hB hA3 ⊢
  have hsz1 : W1.heap.size = W0.heap.size + 1 + 1 := by rw [← hW1]; simp [hsz]
  have hg1 : Grew W0 W1 := by rw [← hW1]; exact grew_alloc hg _
  have hs := Seg.lit W1 W0.heap.size 3 1 #[.int .i64 0] hg1.size rfl
  rw [hsz1] at hs
  refine ⟨_, rfl, grew_alloc hg1 _, (hA3.alloc _).congr (fun i _ => ?_), (hB.alloc _).congr (fun i _ => ?_), hs⟩
  · by_cases h : i = 0
    · simp [h, seenP]
    · have : ((0 : Int) == (i : Int)) = false := by rw [beq_eq_false_iff_ne]; omega
      simp [h, seenP, this]
  · by_cases h : i = 0
    · subst h; simp [wvP]
    · have : ((0 : Int) == (i : Int)) = false := by rw [beq_eq_false_iff_ne]; omega
      simp [wvP, this]

theorem old_new (w : World) (u : Value) (t : TypeId) (o : Obj) : ((w.alloc (.cells #[u] t)).alloc o).cell? ⟨w.heap.size, 0, none⟩ = some u :=
  (World.cell?_alloc_lt (a := ⟨w.heap.size, 0, none⟩) _ _ (by simp)).trans (one_new w u t)
theorem two_new (w : World) (o : Obj) (u : Value) (t : TypeId) : ((w.alloc o).alloc (.cells #[u] t)).cell? ⟨w.heap.size + 1, 0, none⟩ = some u := by
  have h := one_new (w.alloc o) u t
  rw [World.size_alloc] at h
  exact h

theorem step_append_seg {P : Program} {w : World} {ops : Array Oper} {o : Oper} {a : Act} {K : Act → World → Prop} {Q : Exit → Act → World → Prop} {E : Prop} (hgd : o.guard = none) (s x : Operand) (t tx : TypeId)
    (ho : o.op = .call { callee := .builtin .append, args := #[s, x], argTypes := #[t, tx] })
    (base : Nat) (e : TypeId) (i : TypeInfo) (z : Value) (size bytes : Nat) (ht : P.underlying t = some (.slice e)) (hi : P.info? e = some i) (hz : i.zero = some z)
    (hsize : i.size = size) (hby : i.bytes = bytes) (hzs : z.cells.size = size)
    (v : Value) (n : Nat) (xs : List Value) (hs : a.eval s = v) (hown : Seg w base e size v n xs) (y : Value) (hy : a.eval x = y) (m : Nat) (news : List Value) (hsrc : Src P size tx y m news w)
    (h63 : n + m ≤ maxLen) (hbytes : (n + m) * bytes ≤ 140737488355328) (hbase : base ≤ w.heap.size)
    (h : ∀ v' w', Seg w' base e size v' (n + m) (xs ++ news) → w.grownBy w' v.ownBlock → (v'.ownBlock = v.ownBlock ∨ v'.ownBlock = some w.heap.size) → K (a.put o.dst v') w') :
    if Region.wanted o (yielded ops a.tmps) = true then Oper.wp P o a w K Q else E := by
  have hw : Region.wanted o (yielded ops a.tmps) = true := by simp [Region.wanted, hgd]
  rw [if_pos hw]
  exact wp_append_seg s x t tx ho base e i z size bytes ht hi hz hsize hby hzs v n xs hs hown y hy m news hsrc h63 hbytes hbase h

/-- One element. -/
theorem step_append_one {P : Program} {w : World} {ops : Array Oper} {o : Oper} {a : Act} {K : Act → World → Prop} {Q : Exit → Act → World → Prop} {E : Prop} (hgd : o.guard = none) (s x : Operand) (t : TypeId)
    (ho : o.op = .call { callee := .builtin .append, args := #[s, x], argTypes := #[t, t] })
    (base : Nat) (e : TypeId) {z : Value} {bytes : Nat} (ht : P.underlying t = some (.slice e)) (hinfo : (P.info? e).map (fun i => (i.zero, i.size, i.bytes)) = some (some z, 1, bytes)) (hzs : z.cells.size = 1) (hb : bytes ≤ 64)
    (v : Value) (n : Nat) (xs : List Value) (hs : a.eval s = v) (hown : Seg w base e 1 v n xs) (b c : Nat) (u : Value) (hx : a.eval x = .slice (some ⟨b, 0, none⟩) 1 c) (hc : w.cell? ⟨b, 0, none⟩ = some u) (h1 : u.oneCell' = true)
    (hn : n < 1000000000) (hbase : base ≤ w.heap.size)
    (h : ∀ v' w', Seg w' base e 1 v' (n + 1) (xs ++ [u]) → w.grownBy w' v.ownBlock → (v'.ownBlock = v.ownBlock ∨ v'.ownBlock = some w.heap.size) → K (a.put o.dst v') w') :
    if Region.wanted o (yielded ops a.tmps) = true then Oper.wp P o a w K Q else E := by
  have hw : Region.wanted o (yielded ops a.tmps) = true := by simp [Region.wanted, hgd]
  rw [if_pos hw]
  obtain ⟨i, hi, hz0, hz1, hz2⟩ := info_parts hinfo
  refine wp_append_seg s x t t ho base e i z 1 bytes ht hi hz0 hz1 hz2 hzs v n xs hs hown _ hx 1 [u] (Src.ofSlice _ ht ⟨b, 0, none⟩ 1 c [u] rfl ?_ (by simpa using h1)) (by unfold maxLen; omega) ?_ hbase h
  · intro j w' hj
    have : j = 0 := by
      rcases j with _ | j
      · rfl
      · simp at hj
    subst this
    simp at hj
    subst hj
    rw [Addr.add_lit]; exact hc
  · calc (n + 1) * bytes ≤ 1000000000 * 64 := Nat.mul_le_mul (by omega) hb
      _ ≤ 140737488355328 := by decide

theorem seg_empty1 (w : World) (o : Obj) : Seg ((w.alloc o).alloc (.cells #[] 3)) w.heap.size 3 1 (.slice (some ⟨w.heap.size + 1, 0, none⟩) 0 0) 0 [] := by
  have h := seg_empty (w.alloc o)
  rw [World.size_alloc] at h
  exact h.mono (by omega)

theorem far_of {x w8 : World} {E n c : Nat} (hg : x.grownBy w8 (Value.slice (some ⟨E, 0, none⟩) n c).ownBlock) : ∀ k u, k ≠ E → x.cell? ⟨k, 0, none⟩ = some u → w8.cell? ⟨k, 0, none⟩ = some u := by
  intro k u hk hc
  have hlt := World.block_lt_of_cell? x _ hc
  have hb := hg.block k hlt (fun e => by simp [Value.ownBlock] at e; first | exact hk e | exact hk e.symm)
  rw [World.cell?_of_block (w := x) (a := ⟨k, 0, none⟩) hb]; exact hc

theorem PLine.grown {ms : List Mv} {N : Nat} {W0 wr w' : World} {bT bW : Nat} {nb : Option Nat} {done L : List Lg} {H : Leg → Nat → Prop} (h : PLine ms N W0 wr bT bW nb done L H) (hg : Grew wr w') : PLine ms N W0 w' bT bW nb done L H :=
  ⟨grew_trans h.grew hg, h.lowT, h.lowW, h.inv, h.there.of_block (hg.block _ h.there.lt), h.table.of_block (hg.block _ h.table.lt), fun x hx => (h.words x hx).grew hg⟩

theorem PLine.skip {ms : List Mv} {N : Nat} {W0 wr : World} {bT bW : Nat} {nb : Option Nat} {done tail : List Lg} {h : Lg} {op : Nat} {m : Mv} (hl : PLine ms N W0 wr bT bW nb done (h :: tail) (Tried (done.map (·.1)) h.1 op)) (hm : ms[op]? = some m) {q : Nat} (hq : tg m = (q : Int)) (hs : fr m ≠ h.1.1 ∨ seenP (done ++ h :: tail) q = true) :
    PLine ms N W0 wr bT bW nb done (h :: tail) (Tried (done.map (·.1)) h.1 (op + 1)) := by
  refine ⟨hl.grew, hl.lowT, hl.lowW, ?_, hl.there, hl.table, hl.words⟩
  have hv := hl.inv
  rw [List.map_append, List.map_cons] at hv ⊢
  refine bfs_skip hv hm ?_
  rcases hs with h1 | h1
  · exact .inl h1
  · right
    rw [hq]
    have h2 := seenP_map (all := done ++ h :: tail) (i := q)
    rw [List.map_append, List.map_cons] at h2
    rw [h2, h1]

theorem Try.info4w : (Try.prog.info? 4).map (fun i => (i.zero, i.size, i.bytes)) = some (some (.bool false), 1, 1) := by kernel_rfl

set_option maxHeartbeats 4000000 in
set_option maxRecDepth 100000 in
theorem rWay53_main (g : Gr) (N bn : Nat) (hb : valid g = true) (hG : GOk g N) (hbn : bn < N) (v : Value) (w : World) (hv : IsGr w v g) :
    Calls Try.prog 53 #[v, .int .i64 (bn : Int)] w fun e w' => ∃ u, e = .returned (.tuple #[u, .int .i64 (wayL (wayM g.ms (bn : Int))).2]) ∧ Grew w w' ∧ IsWd w' u (wayL (wayM g.ms (bn : Int))).1 := by
  have HV := hid hv
  obtain ⟨s, rfl, hmv⟩ := hv
  obtain ⟨n, hn⟩ : ∃ n, g.ms.length = n := ⟨_, rfl⟩
  obtain ⟨va, vc, hmve, ⟨hm1, hm2⟩, hmvs⟩ := hmv
  rw [hn] at hmve hm1 hm2
  subst hmve
  have HMVS := hid hmvs; have HN := hid hn
  have hN8 := hG.h8; have hN1 := hG.h1
  have hn20 : n ≤ 20 := by have := hG.h20; omega
  have hgn := hG.n
  obtain ⟨W0, hW0, g0, k0, k1, hz⟩ := box2 w (.int .i64 g.n) (.slice va n vc) 24
  have HG0 := hid g0
  have HVA := hid (rValid16_any _ g W0 (HV.out.grew g0))
  rw [hb] at HVA
  have HPL := hid (fun (W' : World) (h : Grew W0 W') => isPl_any (.agg #[.int .i64 g.n, .slice va n vc]) g (bn : Int) W' (HV.out.grew (grew_trans HG0.out h)))
  have hpl : isPl g.n (bn : Int) = true := by unfold isPl; rw [hgn]; simp; omega
  rw [hpl] at HPL
  rw [hgn] at hW0 k0 HPL HVA HV ⊢
  have HG := hid hG
  clear hpl hb hmvs hn hgn hG
  have hmk87 := run_make_row' (P := Try.prog) 87 4 (.bool false) 1 Try.underlying87 Try.info4w rfl .i64 .i64 N (by omega) (by omega)
  have hmk97 := run_make_row' (P := Try.prog) 97 25 (.slice none 0 0) 24 Try.underlying97 Try.info25 rfl .i64 .i64 N (by omega) (by omega)
  have hN0 : (0 : Int) < (N : Int) := by omega
  go_enter Try.func53, Try.ntmps53
  go_wp2_with (first
    | (go_at_call 16; (with_reducible refine HVA.out.mono ?_); rintro e w1 ⟨rfl, hx⟩; have HX := hid hx; have k0' := (hx.cell (p := ⟨w.heap.size, 0, none⟩) hz).trans k0; have k1' := (hx.cell (p := ⟨w.heap.size, 1, none⟩) hz).trans k1; have hzx := Nat.lt_of_lt_of_le hz hx.size; clear hx)
    | (go_at_call 56; (with_reducible refine (HPL.out _ HX.out).mono ?_); rintro e w2 ⟨rfl, hy⟩; have HY := hid hy; have C0 := (hy.cell (p := ⟨w.heap.size, 0, none⟩) hzx).trans k0'; have C1 := (hy.cell (p := ⟨w.heap.size, 1, none⟩) hzx).trans k1'; have hz2 := Nat.lt_of_lt_of_le hzx hy.size; have hT0 := World.rowIs_made w2 (.bool false) N 4; have x0 := hT0.cell (i := 0) (by omega); have f0 := hT0.frozen 0; clear hy hT0))
  have HGW := hid (grew_trans HG0.out (grew_trans HX.out HY.out))
  obtain ⟨W2, hW2, g2, hT2, hWt2, hseg2⟩ := pTables w2 N
  rw [hW2]
  obtain ⟨bT, hbT⟩ : ∃ bT, w2.heap.size = bT := ⟨_, rfl⟩
  rw [hbT] at hT2 hWt2 hseg2 hz2 x0 f0 ⊢
  obtain ⟨bW, hbW⟩ : ∃ bW, bT + 1 = bW := ⟨_, rfl⟩
  obtain ⟨b8, hb8⟩ : ∃ b8, bT + 1 + 1 = b8 := ⟨_, rfl⟩
  rw [hb8] at hseg2 ⊢
  rw [hbW] at hWt2 ⊢
  have hne : bT ≠ bW := by omega
  have HBS := hid hbT
  have hl0 : PLine g.ms N w2 W2 bT bW none [] [(((0 : Int), []), .slice none 0 0)] (fun e _ => e ∈ ([] : List Lg).map (·.1)) :=
    ⟨g2, by omega, by omega, by simpa using (GInv.start g.ms (fun _ => true) 0), hT2, hWt2, fun x hx => by
      simp only [List.nil_append, List.mem_singleton] at hx; subst hx
      exact ⟨⟨none, 0, rfl, Nat.le_refl _⟩, Reads.nil _ _ _ _ _⟩⟩
  have HL0 := hid hl0; have HS0 := hid hseg2
  have HC0 := hid C0; have HC1 := hid C1
  have hzw : w.heap.size < bT := hz2
  clear hl0 hseg2 hT2 hWt2 hW2 x0 f0 hmk87 hmk97 g2 hb8 C0 C1 k0 k1 hW0 g0 k0' k1' hzx hz hbT hbW hz2
  go_loopg [8, 9, 11, 12, 13] 65 (fun gg lv _ _ _ _ wr => ∃ (done L : List Lg), Hid (gg = 65 - done.length) ∧ Hid (PLine g.ms N w2 wr bT bW none done L (fun e _ => e ∈ done.map (·.1))) ∧ Hid (Seg wr bT 3 1 lv L.length (cellsP L)))
  case atStart => exact ⟨[], [(((0 : Int), []), .slice none 0 0)], hid rfl, HL0, HS0⟩
  case round =>
    clear HL0 HS0
    obtain ⟨done, L, HGG, HL, HS⟩ := hrel
    rename World => wr
    obtain ⟨la, lc, rfl, hsh⟩ := HS.out.shape
    clear hsh
    rcases L with _ | ⟨x, tail⟩
    · simp only [List.length_nil] at *
      have hcs := HL.out.there.cell hbn
      have hcw := HL.out.table.cell hbn
      have hlT := HL.out.there.lt
      have hlW := HL.out.table.lt
      rw [List.append_nil] at hcs hcw
      have hinv := HL.out.inv
      rw [List.append_nil] at hinv
      have hbnI : (bn : Int) < (N : Int) := by omega
      have hsm := seenP_map (all := done) (i := bn)
      obtain ⟨sb, hsb⟩ : ∃ sb, seenP done bn = sb := ⟨_, rfl⟩
      rw [hsb] at hcs hsm
      cases sb with
      | false =>
        have hw0 := bfs_none HG.out.h1 HG.out.h8 HG.out.inN hinv hsm
        have HW0 := hid hw0
        clear hcw hinv hsm hw0
        go_wp2
        go_ret2
        exact ⟨_, by rw [HW0.out]; rfl, grew_trans HGW.out HL.out.grew, by rw [HW0.out]; exact wd_nil _⟩
      | true =>
        obtain ⟨f, hf, hf1⟩ := mem_of_any hsm
        have hw0 := bfs_some HG.out.h1 HG.out.h8 HG.out.inN hinv hf
        obtain ⟨y, hy, rfl⟩ := List.mem_map.1 hf
        rw [hf1] at hw0
        have HW0 := hid hw0
        have hnod := hinv.nodup
        rw [List.map_map] at hnod
        rw [wvP_mem hnod hy hf1] at hcw
        have hwd := HL.out.words y (by simpa using hy)
        have HWD := hid hwd.wd
        obtain ⟨⟨ya, yc, hyv, _⟩, _⟩ := hwd
        rw [hyv] at hcw HWD
        clear hinv hsm hw0 hnod hf hyv
        go_wp2
        go_ret2
        exact ⟨_, by rw [HW0.out]; rfl, grew_trans HGW.out HL.out.grew, by rw [HW0.out]; exact HWD.out⟩
    · obtain ⟨L, hLe⟩ : ∃ L, x :: tail = L := ⟨_, rfl⟩
      have hpos : 0 < L.length := by rw [← hLe]; simp
      rw [hLe] at HL HS ⊢
      clear hLe x tail
      have hne0 : (0 : Int) < (L.length : Int) := by omega
      have hLn : L.length ≤ 8 := by
        have h9 := bfs_count hN1 HG.out.inN HL.out.inv
        simp only [List.length_map, List.length_append] at h9; omega
      obtain ⟨gb, off, cap, cur, hlv, hbg, hgo, hcap, hcapm, hcells⟩ := HS.out.at hpos
      simp only [Value.slice.injEq] at hlv
      obtain ⟨rfl, _, rfl⟩ := hlv
      clear hcells hgo
      go_wp2
      go_loopg [9, 11, 12, 13, 35] L.length (fun gk nv _ _ _ iv wi => ∃ (i : Nat) (nxt : List Lg), iv = .int .i64 (i : Int) ∧ i ≤ L.length ∧ Hid (gk = L.length - i) ∧ Hid (PLine g.ms N w2 wi bT bW nv.ownBlock (done ++ L.take i) (L.drop i ++ nxt) (fun e _ => e ∈ (done ++ L.take i).map (·.1))) ∧
        Hid (Seg wi bT 3 1 nv nxt.length (cellsP nxt)) ∧ Hid (Seg wi bT 3 1 (.slice (some ⟨gb, off, none⟩) L.length lc) L.length (cellsP L)) ∧ Hid (nv.ownBlock ≠ some gb))
      case atStart => exact ⟨0, [], rfl, Nat.zero_le _, hid rfl, hid (by simpa [Value.ownBlock] using HL.out), hid (Seg.nil _ _ _ _), HS, hid (by simp [Value.ownBlock])⟩
      case round =>
        clear HL HS
        obtain ⟨i, nxt, rfl, hi, HGK, HL, HN9, HS, HSEP⟩ := hrel
        rename World => wi
        have HCN := hid (Nat.le_trans (Nat.le_of_eq (show (done ++ L.take i ++ (L.drop i ++ nxt)).length = ((done ++ L.take i ++ (L.drop i ++ nxt)).map (·.1)).length by simp)) (bfs_count hN1 HG.out.inN HL.out.inv))
        by_cases hil : i < L.length
        · have hilI : (i : Int) < (L.length : Int) := by omega
          obtain ⟨gb', off', cap', cur', hlv, _, _, _, _, hcells⟩ := HS.out.at hpos
          simp only [Value.slice.injEq, Option.some.injEq, Addr.mk.injEq] at hlv
          obtain ⟨⟨rfl, rfl, -⟩, -, -⟩ := hlv
          have ci := hcells i (by omega)
          obtain ⟨⟨⟨xi, xw⟩, xv⟩, hLi⟩ : ∃ x, L[i] = x := ⟨_, rfl⟩
          have hdrop : L.drop i = ((xi, xw), xv) :: L.drop (i + 1) := by rw [List.drop_eq_getElem_cons hil, hLi]
          have hcs : (cellsP L)[i]? = some (.int .i64 xi) := by unfold cellsP; rw [List.getElem?_map, List.getElem?_eq_getElem hil, hLi]; rfl
          rw [hcs] at ci
          have hxi := bfs_place hN1 HG.out.inN HL.out.inv (f := (xi, xw)) (by rw [hdrop]; simp)
          simp only at hxi
          obtain ⟨xs, rfl⟩ : ∃ xs : Nat, xi = (xs : Int) := ⟨xi.toNat, by omega⟩
          have hlt1 : xs < N := by omega
          clear hcells hcs hxi
          have HDROP := hid hdrop
          have HIL := hid hil
          obtain ⟨dn, hdn⟩ : ∃ dn, done ++ L.take i = dn := ⟨_, rfl⟩
          obtain ⟨rest, hrest⟩ : ∃ rest, L.drop (i + 1) = rest := ⟨_, rfl⟩
          have hl1 : PLine g.ms N w2 wi bT bW u9.ownBlock dn ((((xs : Int), xw), xv) :: (rest ++ nxt)) (Tried (dn.map (·.1)) ((xs : Int), xw) 0) := by
            have h := HL.out
            rw [hdn, hdrop, hrest] at h
            refine ⟨h.grew, h.lowT, h.lowW, ?_, h.there, h.table, h.words⟩
            have hv := h.inv
            rw [List.map_append, List.cons_append, List.map_cons] at hv
            rw [List.map_append, List.map_cons]
            exact hv.begin
          have HL1 := hid hl1
          have HDN := hid hdn; have HREST := hid hrest
          have c1 := (HL.out.grew.cell (p := ⟨w.heap.size, 1, none⟩) (by show w.heap.size < _; rw [HBS.out]; exact hzw)).trans HC1.out
          have hzi : w.heap.size < wi.heap.size := Nat.lt_of_lt_of_le hzw (by rw [← HBS.out]; exact HL.out.grew.size)
          have hgi : gb < wi.heap.size := (HS.out.own gb (by simp [Value.ownBlock])).2.1
          clear hdrop hl1 hdn hrest hLi
          go_wp2
          clear ci c1 hzi hgi
          go_loopg [9, 12, 13, 42] n (fun gk nv _ _ ov wq => ∃ (op : Nat) (nxt : List Lg), ov = .int .i64 (op : Int) ∧ op ≤ n ∧ Hid (gk = n - op) ∧ Hid (PLine g.ms N w2 wq bT bW nv.ownBlock dn ((((xs : Int), xw), xv) :: (rest ++ nxt)) (Tried (dn.map (·.1)) ((xs : Int), xw) op)) ∧
            Hid (Seg wq bT 3 1 nv nxt.length (cellsP nxt)) ∧ Hid (Seg wq bT 3 1 (.slice (some ⟨gb, off, none⟩) L.length lc) L.length (cellsP L)) ∧ Hid (nv.ownBlock ≠ some gb))
          case atStart => exact ⟨0, nxt, rfl, Nat.zero_le _, hid rfl, HL1, HN9, HS, HSEP⟩
          case round =>
            clear HL HL1 HN9 HS HSEP HCN
            obtain ⟨op, nxt, rfl, hop, HGO, HL, HN9, HS, HSEP⟩ := hrel
            rename World => wr
            by_cases hopk : op < n
            · obtain ⟨x, hx⟩ : ∃ x, g.ms[op]? = some x := ⟨_, List.getElem?_eq_getElem (by rw [HN.out]; exact hopk)⟩
              have HXM := hid hx
              obtain ⟨bb, boff, rfl, hpa⟩ := HMVS.out op x hx
              have hpa2 := hpa.grew hpa.lt (grew_trans HGW.out HL.out.grew)
              have p0 := hpa2.c0
              have p1 := hpa2.c1
              have p2 := hpa2.c2
              have p3 := hpa2.c3
              have hplt := hpa2.lt
              have hxN := HG.out.inN x (List.mem_of_getElem? hx)
              obtain ⟨Y1, hY1, e1, hb1⟩ := box4v wr x
              have l0 := hb1.c0
              have l1 := hb1.c1
              have l2 := hb1.c2
              have l3 := hb1.c3
              have hzl := hb1.lt
              obtain ⟨x1, x2, x3, x4⟩ := x
              obtain ⟨xa, rfl⟩ : ∃ xa : Nat, x1 = (xa : Int) := ⟨x1.toNat, by simp only [fr] at hxN; omega⟩
              obtain ⟨xb, rfl⟩ : ∃ xb : Nat, x3 = (xb : Int) := ⟨x3.toNat, by simp only [tg] at hxN; omega⟩
              have hxa : xa < N := by simp only [fr] at hxN; omega
              have hxb : xb < N := by simp only [tg] at hxN; omega
              have hxbI : (xb : Int) < (N : Int) := by omega
              have hjn : (op : Int) < (n : Int) := by omega
              have hlY := HL.out.grown e1
              have HLY := hid hlY
              have HNY := hid (HN9.out.grew e1)
              have HSY := hid (HS.out.grew e1)
              have ct := hlY.there.cell hxb
              have ft := hlY.there.frozen xb
              have hTY := hlY.there.lt
              obtain ⟨sb, hsb⟩ : ∃ sb, seenP (dn ++ (((xs : Int), xw), xv) :: (rest ++ nxt)) xb = sb := ⟨_, rfl⟩
              rw [hsb] at ct
              have HSB := hid hsb
              simp only [Nat.zero_add] at p0 p1 p2 p3 l0 l1 l2 l3 hY1
              clear hx hpa hpa2 hb1 hxN hsb hlY e1
              by_cases hfr : xa = xs
              · subst hfr
                cases sb with
                | true =>
                  go_wp2
                  go_roundg (n - (op + 1))
                  case measure => have := HGO.out; omega
                  case rel => exact ⟨op + 1, nxt, by go_num, by omega, hid rfl, hid (HLY.out.skip HXM.out rfl (.inr HSB.out)), HNY, HSY, HSEP⟩
                | false =>
                  have hnod := HLY.out.inv.nodup
                  rw [List.map_map] at hnod
                  have hwd := HLY.out.words ((((xa : Int), xw), xv)) (by simp)
                  obtain ⟨⟨wa, wc, hv, _⟩, _⟩ := id hwd
                  simp only [pInts_len] at hv
                  subst hv
                  have cw := HLY.out.table.cell hlt1
                  rw [wvP_mem (x := (((xa : Int), xw), .slice wa xw.length wc)) hnod (by simp) rfl] at cw
                  simp only [] at cw
                  obtain ⟨W5, hW5, g5, hz5⟩ : ∃ W5, Y1.setCell ⟨bT, xb, none⟩ (.bool true) = W5 ∧ Grew w2 W5 ∧ W5.heap.size = Y1.heap.size :=
                    ⟨_, rfl, HLY.out.grew.setCell (by show w2.heap.size ≤ bT; rw [HBS.out]; exact Nat.le_refl _) _, by simp⟩
                  have cw5 : W5.cell? ⟨bW, xa, none⟩ = some (.slice wa xw.length wc) := by
                    rw [← hW5]
                    rw [World.cell?_setCell_other _ _ _ _ (fun h => hne (congrArg Addr.block h))]; exact cw
                  have hltW : bW < W5.heap.size := by rw [hz5]; exact HLY.out.table.lt
                  have hk5' : Keeps (TabsP bT bW) Y1 W5 := by
                    obtain ⟨cT, hoT, _⟩ := HLY.out.there
                    rw [← hW5]
                    exact keeps_setAt _ _ _ (fun o ho => by rw [show Y1.heap[bT]? = _ from hoT] at ho; cases ho; exact .inl ⟨rfl, _, _, rfl⟩)
                  have hw5 := (hwd.re (S' := IntCells) (fun k o _ h => h.2)).keeps hk5' (fun k o ⟨c, fr, ho⟩ hm => by rw [ho] at hm; exact hm.not3)
                  have HSRC := hid (fun (W' : World) (h : Grew W5 W') => (by have h2 := src_ints (hw5.grew h).wd.ints; rw [pInts_len] at h2; exact h2 : Src Try.prog 1 25 (.slice wa xw.length wc) xw.length ((pInts xw).map (.int .i64)) W'))
                  have hwl : xw.length < 1000 := by
                    have h1 := bfs_wordlen hN1 HG.out.inN HLY.out.inv (f := ((xa : Int), xw)) (by simp)
                    simp only [] at h1; omega
                  obtain ⟨i0, hi0, hj0, hj1, hj2⟩ := info_parts Try.info3
                  obtain ⟨na, nc, rfl, hsh⟩ := HNY.out.shape
                  clear hsh
                  have hnl : nxt.length < 1000 := by
                    have h2 := bfs_count hN1 HG.out.inN HLY.out.inv
                    simp only [List.length_map, List.length_append, List.length_cons] at h2; omega
                  have hTr : W5.rowIs bT 4 N (fun i => if i = xb then .bool true else .bool (seenP (dn ++ (((xa : Int), xw), .slice wa xw.length wc) :: (rest ++ nxt)) i)) := by
                    rw [← hW5]; exact HLY.out.there.set _ _
                  have hWr : W5.rowIs bW 25 N (wvP (dn ++ (((xa : Int), xw), .slice wa xw.length wc) :: (rest ++ nxt))) := by
                    rw [← hW5]; exact HLY.out.table.setOther (by show bW ≠ bT; exact hne.symm) _
                  have HTR := hid hTr; have HWR := hid hWr; have HK5 := hid hk5'; have HZ5 := hid hz5; have HW5 := hid hW5; have HG5 := hid g5
                  have q0 : W5.cell? ⟨wr.heap.size, 0, none⟩ = some (.int .i64 (xa : Int)) := by
                    rw [← hW5, World.cell?_setCell_other _ _ _ _ (fun h => by have h2 : bT = wr.heap.size := by { have h3 := congrArg Addr.block h; first | exact h3 | exact h3.symm }; have := HL.out.there.lt; omega)]; exact l0
                  have q2 : W5.cell? ⟨wr.heap.size, 2, none⟩ = some (.int .i64 (xb : Int)) := by
                    rw [← hW5, World.cell?_setCell_other _ _ _ _ (fun h => by have h2 : bT = wr.heap.size := by { have h3 := congrArg Addr.block h; first | exact h3 | exact h3.symm }; have := HL.out.there.lt; omega)]; exact l2
                  have hzl5 : wr.heap.size < W5.heap.size := by rw [hz5]; exact hzl
                  clear hTr hWr hk5' hnod hw5 hwd cw hz5 g5
                  go_wp2
                  go_region_law (first
                    | (refine step_append_seg (by rfl) _ _ 25 25 (by rfl) W5.heap.size 3 i0 (.int .i64 0) 1 8 Try.underlying25 hi0 hj0 hj1 hj2 rfl (.slice (some ⟨W5.heap.size, 0, none⟩) 0 0) 0 [] (by rfl) (by first | exact seg_empty _ | exact (seg_empty _).alloc _ | exact seg_empty1 _ _ | exact (seg_empty _).mono (by first | (simp; done) | (simp; omega))) _ (by rfl) xw.length ((pInts xw).map (.int .i64)) (HSRC.out _ (by repeat' (first | exact grew_refl _ | refine grew_alloc ?_ _ | refine grew_drew ?_))) (by unfold maxLen; omega) (by omega) (by first | (simp; done) | (simp; omega)) ?_; intro v6 w6 hown6 hgrow6 hblk6; rw [Nat.zero_add, List.nil_append] at hown6; obtain ⟨a6, c6, rfl, _⟩ := hown6.shape; have hg6 : Grew W5 w6 := (show Grew W5 _ from (by repeat' (first | exact grew_refl _ | refine grew_alloc ?_ _ | refine grew_drew ?_))).grown hgrow6 (by first | (simp; done) | (simp; omega)) (fun k e => by cases e; first | (simp; done) | (simp; omega) | omega); have hfar := far_of hgrow6; have HG6 := hid hg6; have HOWN6 := hid hown6; have q26 := (hg6.cell (p := ⟨wr.heap.size, 2, none⟩) hzl5).trans q2; have hz6 := Nat.lt_of_lt_of_le hzl5 hg6.size; clear hown6 hgrow6 hblk6 hg6)
                    | (refine step_append_seg (by rfl) _ _ 25 25 (by rfl) W5.heap.size 3 i0 (.int .i64 0) 1 8 Try.underlying25 hi0 hj0 hj1 hj2 rfl (.slice (some ⟨W5.heap.size + 1, 0, none⟩) 0 0) 0 [] (by rfl) (by first | exact seg_empty _ | exact (seg_empty _).alloc _ | exact seg_empty1 _ _ | exact (seg_empty _).mono (by first | (simp; done) | (simp; omega))) _ (by rfl) xw.length ((pInts xw).map (.int .i64)) (HSRC.out _ (by repeat' (first | exact grew_refl _ | refine grew_alloc ?_ _ | refine grew_drew ?_))) (by unfold maxLen; omega) (by omega) (by first | (simp; done) | (simp; omega)) ?_; intro v6 w6 hown6 hgrow6 hblk6; rw [Nat.zero_add, List.nil_append] at hown6; obtain ⟨a6, c6, rfl, _⟩ := hown6.shape; have hg6 : Grew W5 w6 := (show Grew W5 _ from (by repeat' (first | exact grew_refl _ | refine grew_alloc ?_ _ | refine grew_drew ?_))).grown hgrow6 (by first | (simp; done) | (simp; omega)) (fun k e => by cases e; first | (simp; done) | (simp; omega) | omega); have hfar := far_of hgrow6; have HG6 := hid hg6; have HOWN6 := hid hown6; have q26 := (hg6.cell (p := ⟨wr.heap.size, 2, none⟩) hzl5).trans q2; have hz6 := Nat.lt_of_lt_of_le hzl5 hg6.size; clear hown6 hgrow6 hblk6 hg6)
                    | (refine step_append_one (by rfl) _ _ 25 (by rfl) W5.heap.size 3 Try.underlying25 Try.info3 rfl (by decide) (.slice a6 xw.length c6) xw.length _ (by rfl) (by first | exact HOWN6.out | exact HOWN6.out.alloc _) _ _ (.int .i64 (op : Int)) (by rfl) (by first | exact one_new _ _ _ | exact hfar _ _ (by simp) (one_new _ _ _) | exact hfar _ _ (by simp) (old_new _ _ _ _) | exact hfar _ _ (by simp) (two_new _ _ _ _)) rfl (by omega) (by have := HG6.out.size; first | omega | (simp only [World.size_alloc]; omega)) ?_; intro v7 w7 hown7 hgrow7 hblk7; obtain ⟨a7, c7, rfl, _⟩ := hown7.shape; have hg7 : Grew W5 w7 := (show Grew W5 _ by first | exact HG6.out | exact HG6.out.alloc HG6.out.size _).grown hgrow7 (by first | exact HG6.out.size | exact (HG6.out.alloc HG6.out.size _).size) (fun k e => (HOWN6.out.own k e).1); have q27 := (hg7.cell (p := ⟨wr.heap.size, 2, none⟩) hzl5).trans q2; have hz7 := Nat.lt_of_lt_of_le hzl5 hg7.size; have hW7 := HWR.out.of_block (hg7.block _ HWR.out.lt); have c7' := hW7.cell hxb; have f7' := hW7.frozen xb; have z7 := hW7.lt; have HW7 := hid hW7; have HG7 := hid hg7; have HOWN7 := hid hown7; clear hown7 hgrow7 hblk7 hg7 hW7))
                  all_goals
                    obtain ⟨W8, hW8⟩ : ∃ W8, w7.setCell ⟨bW, xb, none⟩ (.slice a7 (xw.length + 1) c7) = W8 := ⟨_, rfl⟩
                    rw [hW8]
                    have hk8 : Keeps (TabsP bT bW) w7 W8 := by
                      obtain ⟨cW, hoW, _⟩ := HW7.out
                      rw [← hW8]
                      exact keeps_setAt _ _ _ (fun o ho => by rw [show w7.heap[bW]? = _ from hoW] at ho; cases ho; exact .inr ⟨rfl, _, _, rfl⟩)
                    have HK8 := hid hk8
                    have HKR := hid ((HK5.out.trans (Grew.keeps (show Grew W5 w7 from HG7.out))).trans hk8)
                    have HW8 := hid (show W8.rowIs bW 25 N _ by rw [← hW8]; exact HW7.out.set xb _)
                    have HT8 := hid (show W8.rowIs bT 4 N _ by rw [← hW8]; exact (HTR.out.of_block (HG7.out.block _ HTR.out.lt)).setOther (by show bT ≠ bW; exact hne) _)
                    have HN8 := hid (HNY.out.keeps HKR.out (fun k o _ ⟨cur, ho⟩ hm => by rw [ho] at hm; exact hm.not3))
                    have q28 : W8.cell? ⟨wr.heap.size, 2, none⟩ = some (.int .i64 (xb : Int)) := by
                      rw [← hW8, World.cell?_setCell_other _ _ _ _ (fun h => by have h2 : bW = wr.heap.size := by { have h3 := congrArg Addr.block h; first | exact h3 | exact h3.symm }; have := HL.out.table.lt; omega)]; exact q27
                    have hz8 : wr.heap.size < W8.heap.size := Nat.lt_of_lt_of_le hz7 hk8.size
                    clear hk8 hW8
                    go_wp2_with (at_builtin; refine wpList_append_one rfl _ _ 25 rfl bT 3 Try.underlying25 Try.info3 rfl (by decide) (.slice na nxt.length nc) nxt.length _ rfl (HN8.out.alloc _) _ _ _ rfl (one_new _ _ _) rfl (by omega) ?_ ?_; (have := HKR.out.size; have := HLY.out.there.lt; simp only [World.size_alloc]; omega); intro v9 w9 hown9 hgrow9 hblk9; have hk9 : Keeps (fun k _ => (Value.slice na nxt.length nc).ownBlock = some k) W8 w9 := ((Keeps.refl _ W8).alloc _).grown hgrow9 (fun k o e _ => e); have HK9 := hid hk9; have HOWN9 := hid hown9; have HBLK9 := hid hblk9; clear hown9 hgrow9 hblk9 hk9)
                    go_roundg (n - (op + 1))
                    case measure => have := HGO.out; omega
                    case rel =>
                      have hown : ∀ k, (Value.slice na nxt.length nc).ownBlock = some k → bT ≤ k ∧ k < Y1.heap.size ∧ ∃ cur, Y1.heap[k]? = some (.cells cur 3 (0, 0)) := fun k e => HNY.out.own k e
                      have hz8 : Y1.heap.size ≤ W5.heap.size := HK5.out.size
                      have hz7 : W5.heap.size ≤ w7.heap.size := HG7.out.size
                      have hz87 : w7.heap.size ≤ W8.heap.size := HK8.out.size
                      have hkall : Keeps (fun k o => TabsP bT bW k o ∨ (Value.slice na nxt.length nc).ownBlock = some k) Y1 w9 := (HKR.out.mono (fun k o h => .inl h)).trans (HK9.out.mono (fun k o h => .inr h))
                      have hblk : v9.ownBlock = (Value.slice na nxt.length nc).ownBlock ∨ ∃ k, v9.ownBlock = some k ∧ w7.heap.size ≤ k := by
                        rcases HBLK9.out with e | e
                        · exact .inl e
                        · exact .inr ⟨_, e, by simp only [World.size_alloc]; omega⟩
                      have hnotT : ∀ k, (Value.slice na nxt.length nc).ownBlock = some k → k ≠ bT ∧ k ≠ bW := fun k e => by
                        obtain ⟨_, _, cur, hcur⟩ := hown k e
                        constructor
                        · rintro rfl
                          obtain ⟨c, hc, _⟩ := HLY.out.there
                          rw [hcur] at hc; cases hc
                        · rintro rfl
                          obtain ⟨c, hc, _⟩ := HLY.out.table
                          rw [hcur] at hc; cases hc
                      have hpush := PLine.push (v7 := .slice a7 (xw.length + 1) c7) (nb' := v9.ownBlock) (w9 := w9) HLY.out HXM.out rfl rfl HSB.out hkall (fun k e => by rw [HBS.out]; exact (hown k e).1)
                        (rowIs_keeps HT8.out HK9.out (fun c e => (hnotT _ e).1 rfl)) (rowIs_keeps HW8.out HK9.out (fun c e => (hnotT _ e).2 rfl)) ?_
                        (by rcases hblk with e | ⟨k, e, hk⟩
                            · exact .inl e
                            · exact .inr ⟨k, e, by omega⟩)
                      · refine ⟨op + 1, nxt ++ [(((xb : Int), xw ++ [op]), .slice a7 (xw.length + 1) c7)], by go_num, by omega, hid rfl, hid (by simpa [tg] using hpush), hid (by simpa [cellsP] using HOWN9.out), hid (HSY.out.keeps hkall (fun k o hv ⟨cur, ho⟩ hm => ?_)), hid ?_⟩
                        · rcases hm with hm | hm
                          · rw [ho] at hm; exact hm.not3
                          · have hgk : gb = k := by simpa [Value.ownBlock] using hv
                            subst hgk
                            exact HSEP.out hm
                        · rcases hblk with e | ⟨k, e, hk⟩
                          · rw [e]; exact HSEP.out
                          · rw [e]
                            intro he
                            cases he
                            have := (HSY.out.own gb (by simp [Value.ownBlock])).2.1
                            omega
                      · have h7 : Seg w7 W5.heap.size 3 1 (.slice a7 (xw.length + 1) c7) (xw.length + 1) ((pInts (xw ++ [op])).map (.int .i64)) := by
                          rw [pInts_snoc, List.map_append]; exact HOWN7.out
                        have hr := (wdOff_of_seg h7).re (S' := fun k o => (v9.ownBlock ≠ some k ∧ W5.heap.size ≤ k) ∧ IntCells k o) (fun k o ho hs => ⟨⟨fun e => ?_, hs.2⟩, hs.1⟩)
                        · refine ((hr.keeps HK8.out (fun k o hs hm => ?_)).keeps HK9.out (fun k o hs hm => ?_)).re (fun k o _ hs => ⟨hs.1.1, hs.2⟩)
                          · obtain ⟨cur, fr, ho⟩ := hs.2; rw [ho] at hm; exact hm.not3
                          · have := (hown k hm).2.1; have := hs.1.2; omega
                        · have hk7 := lt_of_obj ho
                          rcases hblk with e2 | ⟨k', e2, hk'⟩
                          · rw [e2] at e; have := (hown k e).2.1; have := hs.2; omega
                          · rw [e2] at e; cases e; omega
              · have e0 : ((xa : Int) == (xs : Int)) = false := by rw [beq_eq_false_iff_ne]; omega
                have e2 : (xa == xs) = false := by rw [beq_eq_false_iff_ne]; exact hfr
                have e3 : decide (xa = xs) = false := decide_eq_false hfr
                have HFR := hid hfr
                clear hfr
                go_wp2
                go_roundg (n - (op + 1))
                case measure => have := HGO.out; omega
                case rel => exact ⟨op + 1, nxt, by go_num, by omega, hid rfl, hid (HLY.out.skip HXM.out rfl (.inl (by simp only [fr]; have := HFR.out; omega))), HNY, HSY, HSEP⟩
            · obtain rfl : op = n := by omega
              go_wp2
              go_roundg (L.length - (i + 1))
              case measure => have := HGK.out; omega
              case rel =>
                have htk : done ++ L.take (i + 1) = dn ++ [(((xs : Int), xw), xv)] := by
                  have hg : L[i]? = some (((xs : Int), xw), xv) := by
                    have h2 := congrArg (fun l : List Lg => l[0]?) HDROP.out
                    simpa using h2
                  rw [← HDN.out, List.take_add_one, hg, List.append_assoc]
                  rfl
                refine ⟨i + 1, nxt, by go_num, by have := HIL.out; omega, hid rfl, hid ?_, HN9, HS, HSEP⟩
                rw [htk, HREST.out]
                have h := HL.out
                have he : (dn ++ [(((xs : Int), xw), xv)]) ++ (rest ++ nxt) = dn ++ (((xs : Int), xw), xv) :: (rest ++ nxt) := by simp
                refine ⟨h.grew, h.lowT, h.lowW, ?_, by rw [he]; exact h.there, by rw [he]; exact h.table, by rw [he]; exact h.words⟩
                have hv := h.inv
                rw [List.map_append, List.map_cons] at hv
                rw [← HN.out] at hv
                have h3 := hv.next
                simpa using h3
        · obtain rfl : i = L.length := by omega
          obtain ⟨na, nc, rfl, hsh⟩ := HN9.out.shape
          clear hsh
          go_wp2
          go_roundg (65 - (done ++ L).length)
          case measure =>
            have := HGG.out; have := HCN.out
            simp only [List.length_append, List.take_length, List.drop_length, List.nil_append] at *
            omega
          case rel =>
            refine ⟨done ++ L, nxt, hid rfl, hid ?_, HN9⟩
            have h := HL.out
            rw [List.take_length, List.drop_length, List.nil_append] at h
            exact ⟨h.grew, h.lowT, h.lowW, h.inv, h.there, h.table, fun x hx => (h.words x hx).re (fun k o _ ho => ⟨by simp, ho.2⟩)⟩
end Go.Proofs.Ytojkohpniokaaaa
