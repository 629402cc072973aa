/- Walk: slices.Concat. -/
import Derived.Test.YtddnpooffcjhnaaWvGrow
namespace Go.Lin

def nthL (xss : List (List Int)) (i : Nat) : List Int := xss.getD i []

theorem nthL_lt {xss : List (List Int)} {i : Nat} (h : i < xss.length) : nthL xss i = xss[i] := by simp [nthL, h]

/-- Rows of ints. -/
def IsRows (S : Nat → Obj → Prop) (w : World) (v : Value) (rows : List (List Int)) : Prop :=
  ∃ V : Nat → Value, Reads S w v rows.length V ∧ ∀ i, i < rows.length → IsInts S w (V i) (nthL rows i)

theorem take_succ_nthL {rows : List (List Int)} {k : Nat} (h : k < rows.length) : rows.take (k + 1) = rows.take k ++ [nthL rows k] := by
  rw [List.take_succ_eq_append_getElem h, nthL_lt h]

theorem flat_succ {rows : List (List Int)} {k : Nat} (h : k < rows.length) : (rows.take (k + 1)).flatten = (rows.take k).flatten ++ nthL rows k := by
  rw [take_succ_nthL h, List.flatten_append]; simp

theorem flat_le {rows : List (List Int)} (h : ∀ i, i < rows.length → (nthL rows i).length ≤ 100) : ∀ k, k ≤ rows.length → (rows.take k).flatten.length ≤ 100 * k := by
  intro k
  induction k with
  | zero => intro _; simp
  | succ k ih =>
    intro hk
    rw [flat_succ (by omega), List.length_append]
    have := ih (by omega)
    have := h k (by omega)
    omega
end Go.Lin
namespace Go.Proofs.Ytddnpooffcjhnaa
open Go.RowKit Go.Lin Go.Lin.Wv

set_option maxHeartbeats 2000000 in
theorem concat_any (v : Value) (rows : List (List Int)) (w : World) (hv : IsRows Any w v rows) (h4 : rows.length ≤ 4) (hl : ∀ i, i < rows.length → (nthL rows i).length ≤ 100) :
    Calls Try.prog 73 #[v] w fun e w' => ∃ u, e = .returned u ∧ Seg w' w.heap.size 3 1 u rows.flatten.length (rows.flatten.map (.int .i64)) ∧ Grew w w' := by
  obtain ⟨V, ⟨a, cap, rfl, hm, hc⟩, hr⟩ := hv
  have HC := hid hc; have HR := hid hr; clear hc hr
  have hle := flat_le hl
  have HLE := hid hle; have HLEN := hid hl; clear hle hl
  go_enter Try.func73, Try.ntmps73
  go_wp2
  go_loopg [3, 11] rows.length (fun g s i wr => ∃ k t : Nat, k ≤ rows.length ∧ i = .int .i64 (k : Int) ∧ s = .int .i64 (t : Int) ∧ t ≤ 400 ∧ Hid ((rows.take k).flatten.length = t) ∧ Hid (g = rows.length - k) ∧ wr = w)
  case atStart => exact ⟨0, 0, Nat.zero_le _, rfl, rfl, by omega, hid rfl, hid rfl, rfl⟩
  case round =>
    obtain ⟨k, t, hk, rfl, rfl, ht, HT, HG, rfl⟩ := hrel
    by_cases hlt : k < rows.length
    · obtain ⟨b, off, o, rfl, ho, _, hck⟩ := HC.out k hlt
      obtain ⟨ra, rc, hrv⟩ := (show ∃ ra rc, V k = .slice ra (nthL rows k).length rc from by obtain ⟨ra, rc, h, _⟩ := HR.out k hlt; exact ⟨ra, rc, h⟩)
      rw [hrv] at hck
      have hrl := HLEN.out k hlt
      have hbl := lt_of_obj ho
      have hfs := flat_succ hlt
      have hfl := HLE.out (k + 1) (by omega)
      rw [hfs, List.length_append, HT.out] at hfl
      have hneg : decide ((t : Int) + ((nthL rows k).length : Int) < 0) = false := decide_eq_false (by omega)
      have HFS := hid hfs; clear hfs hrv ho
      go_wp2
      go_roundg (rows.length - (k + 1))
      case measure => have := HG.out; omega
      case rel => exact ⟨k + 1, t + (nthL rows k).length, by omega, by go_num, by go_num, by omega, hid (by rw [HFS.out, List.length_append, HT.out]), hid rfl, rfl⟩
    · obtain rfl : k = rows.length := by omega
      have hgn := grow_nil t wr (by omega)
      have HGN := hid hgn; clear hgn
      go_wp2_with (go_at_call 102; with_reducible refine HGN.out.mono ?_; rintro e w1 ⟨u, rfl, hseg, hg1⟩)
      have HS0 := hid hseg
      clear hseg
      obtain ⟨W, rfl⟩ : ∃ W : World, W = wr := ⟨_, rfl⟩
      go_loopg [6, 27] rows.length (fun g u i wr => ∃ k : Nat, k ≤ rows.length ∧ i = .int .i64 (k : Int) ∧ Hid (g = rows.length - k) ∧ Grew W wr ∧ Seg wr W.heap.size 3 1 u (rows.take k).flatten.length ((rows.take k).flatten.map (.int .i64)))
      case atStart => exact ⟨0, Nat.zero_le _, rfl, hid rfl, hg1, HS0.out⟩
      case round =>
        clear HS0
        obtain ⟨k, hk2, rfl, HG2, hgr, hseg⟩ := hrel
        obtain ⟨sa, sc, rfl, _⟩ := hseg.shape
        have hsz := hgr.size
        by_cases hlt2 : k < rows.length
        · obtain ⟨b, off, o, rfl, ho, _, hck⟩ := HC.out k hlt2
          have hi2 := HR.out k hlt2
          obtain ⟨ra, rc, hrv⟩ := (show ∃ ra rc, V k = .slice ra (nthL rows k).length rc from by obtain ⟨ra, rc, h, _⟩ := HR.out k hlt2; exact ⟨ra, rc, h⟩)
          rw [hrv] at hck hi2
          have l2 := HLEN.out k hlt2
          have hbl : b < wr.heap.size := Nat.lt_of_lt_of_le (lt_of_obj ho) hsz
          have hck2 := (hgr.cell (p := ⟨b, off + k, none⟩) (lt_of_obj ho)).trans hck
          have hsrc := src_ints (Reads.grew hi2 hgr)
          have hfs := flat_succ hlt2
          have hfl := HLE.out k (by omega)
          obtain ⟨i0, hi, hz0, hz1, hz2⟩ := info_parts Try.info3
          have HSRC := hid hsrc; have HSEG := hid hseg; have HFS := hid hfs
          have hfl2 : (rows.take k).flatten.length + (nthL rows k).length ≤ 1000 := by omega
          clear hsrc hseg hfs hrv hck ho hfl hi2
          obtain ⟨N, hN⟩ : ∃ N, (rows.take k).flatten.length = N := ⟨_, rfl⟩
          go_wp2_with (at_builtin; refine wpList_append_seg rfl _ _ 25 25 rfl W.heap.size 3 i0 (.int .i64 0) 1 8 Try.underlying25 hi hz0 hz1 hz2 rfl _ _ _ rfl HSEG.out _ rfl _ _ HSRC.out (by unfold maxLen; omega) (by omega) ?_ ?_; (omega); intro v1 w3 hown1 hgrow1 hblk1; have hg3 := hgr.grown hgrow1 hsz (fun k e => (HSEG.out.own k e).1))
          go_roundg (rows.length - (k + 1))
          case measure => have := HG2.out; omega
          case rel =>
            refine ⟨k + 1, by omega, by go_num, hid rfl, hg3, ?_⟩
            rw [HFS.out, List.map_append, List.length_append]
            exact hown1
        · obtain rfl : k = rows.length := by omega
          go_wp2
          go_ret
          have h : Seg wr W.heap.size 3 1 (.slice sa (List.take rows.length rows).flatten.length sc) rows.flatten.length (rows.flatten.map (.int .i64)) := by
            have h := hseg
            rw [List.take_length] at h ⊢
            exact h
          exact ⟨_, rfl, h, hgr⟩

end Go.Proofs.Ytddnpooffcjhnaa
