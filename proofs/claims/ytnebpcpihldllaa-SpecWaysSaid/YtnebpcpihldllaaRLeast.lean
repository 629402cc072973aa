/- Walks: the least machine, of the reference's text. -/
import Derived.Test.YtnebpcpihldllaaWLeast
import Derived.Test.YtnebpcpihldllaaLWords
namespace Go.Lin

/-- The machine of the classes. -/
def quotM (M : Mach) (cl : Nat → Nat) : Mach := { M with nx := fun a o => cl (M.nx a o) }

section
variable {M : Mach} {sB : Nat → Nat → Bool} {cl : Nat → Nat}

theorem quot_wf (hM : M.WF) (hS : Sames M sB cl) : (quotM M cl).WF where
  n1 := hM.n1
  n8 := hM.n8
  k1 := hM.k1
  k4 := hM.k4
  nx i hi j hj := Nat.lt_of_le_of_lt (hS.le _) (hM.nx i hi j hj)

theorem quot_st (hS : Sames M sB cl) (v : List Nat) : OkW M.k v → stM (quotM M cl) 0 v = cl (stM M 0 v) := by
  induction v using snoc_cases with
  | h0 => intro _; exact hS.zero.symm
  | h1 v o ih =>
    intro hv
    have hv1 : OkW M.k v := fun x hx => hv x (by simp [hx])
    rw [stM_snoc, stM_snoc, ih hv1]
    exact hS.next (hS.idem _) (hv o (by simp))

/-- The states that the entries stand for. -/
def memsOf (M : Mach) (es : List E) : List Nat := es.map fun e => stM M 0 e.2.2
def memCells (M : Mach) (es : List E) : List Value := es.map fun e => .int .i64 ((stM M 0 e.2.2 : Nat) : Int)
def wordsOf (es : List E) : List (List Nat) := es.map fun e => e.2.2

theorem mems_cls (hS : Sames M sB cl) {es : List E} {H : E → Nat → Prop} (h : WInv (quotM M cl) es H) : (memsOf M es).map cl = es.map fun e => e.1 := by
  unfold memsOf
  rw [List.map_map]
  refine List.map_congr_left (fun e he => ?_)
  obtain ⟨p1, _, _, p4⟩ := h.path e he
  show cl (stM M 0 e.2.2) = e.1
  rw [p1]
  exact (quot_st hS e.2.2 p4).symm

theorem least_members (hS : Sames M sB cl) {es : List E} (h : WInv (quotM M cl) es (fun e _ => e ∈ es)) : LeastW M (wordsOf es) := by
  have way : ∀ e ∈ es, IsWay (quotM M cl) e.1 e.2.2 := fun e he => h.isWay_done he
  refine ⟨?_, ?_, ?_, ?_, ?_⟩
  · intro w hw
    obtain ⟨e, he, rfl⟩ := List.mem_map.1 hw
    exact (way e he).ok
  · intro w hw v hv heq
    obtain ⟨e, he, rfl⟩ := List.mem_map.1 hw
    have hok : OkW M.k e.2.2 := (way e he).ok
    refine (way e he).least v hv ?_
    rw [← (way e he).leads, quot_st hS v hv, quot_st hS e.2.2 hok]
    exact (hS.iff _ _).2 heq
  · unfold wordsOf
    rw [List.pairwise_map]
    exact h.sorted
  · unfold wordsOf
    rw [List.pairwise_map]
    have hn := h.nodup
    rw [List.nodup_iff_pairwise_ne, List.pairwise_map] at hn
    refine List.Pairwise.imp_of_mem (fun {a b} ha hb hne heq => hne ?_) hn
    have ha2 : OkW M.k a.2.2 := (way a ha).ok
    have hb2 : OkW M.k b.2.2 := (way b hb).ok
    rw [← (way a ha).leads, ← (way b hb).leads, quot_st hS a.2.2 ha2, quot_st hS b.2.2 hb2]
    exact (hS.iff _ _).2 heq
  · intro v hv
    obtain ⟨f, hf, hfe, _⟩ := h.all (v := v) hv
    have hf2 : OkW M.k f.2.2 := (way f hf).ok
    refine ⟨f.2.2, List.mem_map_of_mem hf, (hS.iff _ _).1 ?_⟩
    rw [← quot_st hS v hv, ← quot_st hS f.2.2 hf2, (way f hf).leads, hfe]

/-- The number of a class among others; -1: it is none of them. -/
def numI (cs : List Nat) (c : Nat) : Int := if c ∈ cs then (cs.idxOf c : Int) else -1

theorem numI_at {cs : List Nat} {c k : Nat} (hk : k < cs.length) (h : nthN cs k = c) (hn : ∀ j, j < k → nthN cs j ≠ c) : numI cs c = (k : Int) := by
  have hm : c ∈ cs := by rw [← h, nthN_lt hk]; exact List.getElem_mem hk
  unfold numI
  rw [if_pos hm]
  have hlt := List.idxOf_lt_length_of_mem hm
  have hg := List.getElem_idxOf hlt
  congr 1
  rcases Nat.lt_trichotomy (cs.idxOf c) k with h1 | h1 | h1
  · exact absurd (by rw [nthN_lt hlt]; exact hg) (hn _ h1)
  · exact h1
  · exfalso
    have h2 := List.not_of_lt_findIdx (xs := cs) (p := (· == c)) (i := k) h1
    rw [nthN_lt hk] at h
    simp [h] at h2

theorem numI_none {cs : List Nat} {c : Nat} (hn : ∀ j, j < cs.length → nthN cs j ≠ c) : numI cs c = -1 := by
  unfold numI
  rw [if_neg]
  intro hm
  obtain ⟨i, hi, he⟩ := List.getElem_of_mem hm
  exact hn i hi (by rw [nthN_lt hi]; exact he)

theorem nthN_map {xs : List Nat} {f : Nat → Nat} {i : Nat} (h : i < xs.length) : nthN (xs.map f) i = f (nthN xs i) := by
  rw [nthN_lt (by simpa using h), nthN_lt h]; simp
end
end Go.Lin
namespace Go.Proofs.Ytnebpcpihldllaa
open Go.RowKit Go.Lin

/-- What a slice of numbers says of a function below n. -/
def FunAt (w : World) (v : Value) (n : Nat) (f : Nat → Nat) : Prop := ∃ b off c, v = .slice (some ⟨b, off, none⟩) n c ∧ b < w.heap.size ∧ ∀ i, i < n → w.cell? ⟨b, off + i, none⟩ = some (.int .i64 (f i : Int))

theorem FunAt.grew {w w' : World} {v : Value} {n : Nat} {f : Nat → Nat} (h : FunAt w v n f) (hg : Grew w w') : FunAt w' v n f := by
  obtain ⟨b, off, c, hv, hb, hc⟩ := h
  exact ⟨b, off, c, hv, Nat.lt_of_lt_of_le hb hg.size, fun i hi => (hg.cell (p := ⟨b, off + i, none⟩) hb).trans (hc i hi)⟩

theorem funAt_of {w : World} {u : Value} {n : Nat} {cl : Nat → Nat} (hn : 1 ≤ n) (h : IsInts Any w u (ofN ((List.range n).map cl))) : FunAt w u n cl := by
  obtain ⟨a, c, rfl, _, hc⟩ := h
  rw [length_ofN, List.length_map, List.length_range] at hc
  obtain ⟨b, off, o, ha, ho, _, _⟩ := hc 0 (by omega)
  refine ⟨b, off, c, by rw [length_ofN, List.length_map, List.length_range, ha], lt_of_obj ho, fun i hi => ?_⟩
  obtain ⟨b2, off2, o2, h1, h2, _, h4⟩ := hc i hi
  rw [ha] at h1
  simp only [Option.some.injEq, Addr.mk.injEq] at h1
  obtain ⟨rfl, rfl, _⟩ := h1
  refine h4.trans ?_
  show some (Value.int .i64 (nth (ofN ((List.range n).map cl)) i)) = _
  rw [nth_ofN, nthN_lt (by simpa using hi)]
  simp

set_option maxHeartbeats 2000000 in
theorem number_any (cl : Nat → Nat) (n : Nat) (cv mv : Value) (mems : List Nat) (a : Nat) (w : World) (hcl : FunAt w cv n cl) (hm : IsNats Any w mv mems) (hml : mems.length ≤ 1000) (hlt : ∀ i, i < mems.length → nthN mems i < n) (ha : a < n) :
    Calls Try.prog 101 #[cv, mv, .int .i64 (a : Int)] w fun e w' => e = .returned (.int .i64 (numI (mems.map cl) (cl a))) ∧ Grew w w' := by
  obtain ⟨b, off, c, rfl, hb, hcc⟩ := hcl
  obtain ⟨ma, mc, rfl, _, hmc⟩ := hm
  have HCC := hid hcc; have HMC := hid hmc; have HLT := hid hlt
  have HCA := hid (hcc a ha)
  clear hcc hmc hlt
  go_enter Try.func101, Try.ntmps101
  go_wp2
  go_loopg [11] mems.length (fun g i wr => ∃ k : Nat, k ≤ mems.length ∧ i = .int .i64 k ∧ Hid (g = mems.length - k) ∧ Grew w wr ∧ Hid (∀ j, j < k → nthN (mems.map cl) j ≠ cl a))
  case atStart => exact ⟨0, Nat.zero_le _, rfl, hid rfl, grew_refl _, hid (fun j hj => by omega)⟩
  case round =>
    obtain ⟨k, hk, rfl, HG, hgr, HN⟩ := hrel
    by_cases hlk : k < mems.length
    · obtain ⟨bm, om, o, rfl, hbm, _, hcm⟩ := HMC.out k hlk
      have hkn := HLT.out k hlk
      replace hcm : wr.cell? ⟨bm, om + k, none⟩ = some (.int .i64 ((nthN mems k : Nat) : Int)) := (hgr.cell (p := ⟨bm, om + k, none⟩) (lt_of_obj hbm)).trans hcm
      have hca := (hgr.cell (p := ⟨b, off + a, none⟩) hb).trans HCA.out
      have hcx := (hgr.cell (p := ⟨b, off + nthN mems k, none⟩) hb).trans (HCC.out _ hkn)
      have hnm := nthN_map (f := cl) hlk
      obtain ⟨x, hx⟩ : ∃ x, nthN mems k = x := ⟨_, rfl⟩
      rw [hx] at hcm hcx hkn hnm
      have HNM := hid hnm
      have hbw : b < wr.heap.size := Nat.lt_of_lt_of_le hb hgr.size
      have hbmw : bm < wr.heap.size := Nat.lt_of_lt_of_le (lt_of_obj hbm) hgr.size
      clear hbm hx hnm
      by_cases he : cl a = cl x
      · have hbq : ((cl a : Int) == (cl x : Int)) = true := by simp; omega
        have HE := hid he
        clear he
        go_wp2
        go_region
        go_wp2
        go_ret
        refine ⟨ret_int (numI_at (by simpa using hlk) (by rw [HNM.out, HE.out]) HN.out).symm, grew_drew hgr⟩
      · have hbq : ((cl a : Int) == (cl x : Int)) = false := by simp; omega
        have HE := hid he
        clear he
        go_wp2
        go_region
        go_wp2
        go_roundg (mems.length - (k + 1))
        case measure => have := HG.out; omega
        case rel => exact ⟨k + 1, by omega, by go_num, hid rfl, grew_drew hgr, hid (lt_succ_all HN.out (by rw [HNM.out]; exact fun e => HE.out e.symm))⟩
    · obtain rfl : k = mems.length := by omega
      go_wp2
      go_ret
      exact ⟨ret_int (numI_none (by simpa using HN.out)).symm, hgr⟩
end Go.Proofs.Ytnebpcpihldllaa
