/- Walks of the reference: Reached (52), Swapped (39), Same (38). -/
import Derived.Test.YtojkohpniokaaaaPgRef1
import Derived.Test.YtojkohpniokaaaaPgOuts
import Derived.Test.YtojkohpniokaaaaPgChange2
namespace Go.Lin.Pg
/-- What is reached, of the first j places. -/
def reachedTo (ms : List Mv) (j : Nat) : List Int := ((List.range j).map Int.ofNat).filter (reachB ms)
theorem reachedTo_succ (ms : List Mv) (j : Nat) : reachedTo ms (j + 1) = if reachB ms (j : Int) = true then reachedTo ms j ++ [(j : Int)] else reachedTo ms j := by
  unfold reachedTo
  rw [List.range_succ, List.map_append, List.filter_append]
  by_cases h : reachB ms (j : Int) = true
  · rw [if_pos h]
    simp [h]
  · rw [if_neg h]
    simp [h]
theorem reachedTo_all (ms : List Mv) (N : Nat) : reachedTo ms N = reachedM ms N := rfl
theorem reachedTo_len (ms : List Mv) (j : Nat) : (reachedTo ms j).length ≤ j := reachedM_len ms j
end Go.Lin.Pg
namespace Go.Proofs.Ytojkohpniokaaaa
open Go Go.RowKit Go.Lin Go.Lin.Pg

theorem swapped39_any (t a b : Int) (w : World) : Calls Try.prog 39 #[.int .i64 t, .int .i64 a, .int .i64 b] w fun e w' => e = .returned (.int .i64 (swT a b t)) ∧ Grew w w' := by
  have hg := grew_refl w
  by_cases ha : t = a
  · subst ha
    rw [show swT t b t = b by unfold swT; rw [if_pos rfl]]
    have hd : (t == t) = true := by simp
    go_enter Try.func39, Try.ntmps39
    go_wp2
    go_ret
    exact ⟨rfl, hg⟩
  · have hd : (t == a) = false := by simpa using ha
    by_cases hb : t = b
    · subst hb
      rw [show swT a t t = a by unfold swT; rw [if_neg ha, if_pos rfl]]
      have hd2 : (t == t) = true := by simp
      clear ha
      go_enter Try.func39, Try.ntmps39
      go_wp2
      go_ret
      exact ⟨rfl, hg⟩
    · have hd2 : (t == b) = false := by simpa using hb
      rw [show swT a b t = t by unfold swT; rw [if_neg ha, if_neg hb]]
      clear ha hb
      go_enter Try.func39, Try.ntmps39
      go_wp2
      go_ret
      exact ⟨rfl, hg⟩

theorem bool_ne_self (b : Bool) : (b != b) = false := by cases b <;> rfl

set_option maxHeartbeats 2000000 in
theorem same38_any (v v' : Value) (g : Gr) (w : World) (hv : IsGr w v g) (hv' : IsGr w v' g) (hwf : ∀ m ∈ g.ms, MvWf m) :
    Calls Try.prog 38 #[v, v'] w fun e w' => e = .returned (.bool true) ∧ Grew w w' := by
  obtain ⟨s, rfl, hmv⟩ := hv
  obtain ⟨s', rfl, hmv'⟩ := hv'
  obtain ⟨n, hn⟩ : ∃ n, g.ms.length = n := ⟨_, rfl⟩
  obtain ⟨va, vc, rfl, ⟨hm1, hm2⟩, hmvs⟩ := hmv
  obtain ⟨va', vc', rfl, ⟨hm1', hm2'⟩, hmvs'⟩ := hmv'
  rw [hn] at hm1 hm2 hm1' hm2' ⊢
  have HM := hid hmvs; have HM' := hid hmvs'; have HN := hid hn; have HWF := hid hwf
  clear hmvs hmvs' hn hwf
  obtain ⟨W0, hW0, g0, k0, k1, hz⟩ := box2 w (.int .i64 g.n) (.slice va n vc) 24
  obtain ⟨W1, hW1, g1, j0, j1, hz1⟩ := box2 W0 (.int .i64 g.n) (.slice va' n vc') 24
  have K0 := (g1.cell (p := ⟨w.heap.size, 0, none⟩) hz).trans k0
  have K1 := (g1.cell (p := ⟨w.heap.size, 1, none⟩) hz).trans k1
  have hz' := Nat.lt_of_lt_of_le hz g1.size
  have HG := hid (grew_trans g0 g1)
  have HK1 := hid K1; have HJ1 := hid j1
  clear k0 k1 g0
  go_enter Try.func38, Try.ntmps38
  go_wp2
  go_loopg [5, 23] n (fun k _ i wr => ∃ j : Nat, j ≤ n ∧ i = .int .i64 (j : Int) ∧ Hid (k = n - j) ∧ Hid (Grew W1 wr))
  case atStart => exact ⟨0, by omega, rfl, hid rfl, hid (grew_refl _)⟩
  case round =>
    obtain ⟨j, hj, rfl, HK, HGR⟩ := hrel
    rename World => wr
    have HGW := hid (grew_trans HG.out HGR.out)
    by_cases hlt : j < n
    · obtain ⟨x, hx⟩ : ∃ x, g.ms[j]? = some x := ⟨_, List.getElem?_eq_getElem (by rw [HN.out]; exact hlt)⟩
      obtain ⟨b, off, rfl, hpa⟩ := HM.out j x hx
      obtain ⟨b', off', rfl, hpb⟩ := HM'.out j x hx
      have hpa2 := hpa.grew hpa.lt HGW.out
      have hpb2 := hpb.grew hpb.lt HGW.out
      have p0 := hpa2.c0
      have p1 := hpa2.c1
      have p2 := hpa2.c2
      have p3 := hpa2.c3
      have q0 := hpb2.c0
      have q1 := hpb2.c1
      have q2 := hpb2.c2
      have q3 := hpb2.c3
      have hl1 := hpa2.lt
      have hl2 := hpb2.lt
      have c1 := (HGR.out.cell (p := ⟨w.heap.size, 1, none⟩) hz').trans HK1.out
      have d1 := (HGR.out.cell (p := ⟨W0.heap.size, 1, none⟩) hz1).trans HJ1.out
      have hzr := Nat.lt_of_lt_of_le hz' HGR.out.size
      have hz1r := Nat.lt_of_lt_of_le hz1 HGR.out.size
      have hmw := HWF.out x (List.mem_of_getElem? hx)
      have hby := fun (yw : World) => eq50 x x hmw hmw yw
      rw [show (x == x) = true by simp] at hby
      have hjn : (j : Int) < (n : Int) := by omega
      have HLT := hid hlt
      obtain ⟨x1, x2, x3, x4⟩ := x
      simp only [encM] at p0 p1 p2 p3 q0 q1 q2 q3 hby
      clear hx hpa hpb hpa2 hpb2 hmw
      go_wp2
      refine wp_region_later (by kernel_rfl) (by kernel_rfl) (fun hL => ?_)
      repeat (go_big_quiet_step (fail))
      refine wpQuiet_nil ?_
      rintro wy ⟨z, hz'⟩
      have hwy : Grew wr wy := by rw [hz']; exact z.2
      clear hL hz' z
      go_wp2
      go_roundg (n - (j + 1))
      case measure => have := HK.out; have := HLT.out; omega
      case rel => exact ⟨j + 1, by have := HLT.out; omega, by go_num, hid rfl, hid (grew_trans HGR.out hwy)⟩
    · obtain rfl : j = n := by omega
      go_wp2
      go_ret
      exact ⟨rfl, HGW.out⟩

theorem valid_wf {g : Gr} (h : valid g = true) : ∀ m ∈ g.ms, MvWf m := by
  unfold valid at h
  simp only [Bool.and_eq_true, decide_eq_true_eq] at h
  intro m hm
  exact mvOk_wf h.1.2.2 (mvsOk_all _ _ h.1.1 m hm)
end Go.Proofs.Ytojkohpniokaaaa
