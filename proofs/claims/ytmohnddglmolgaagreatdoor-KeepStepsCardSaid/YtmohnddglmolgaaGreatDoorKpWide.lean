/- Walk: Wide (16); deeds and losses in memory. -/
import Derived.Test.YtmohnddglmolgaaGreatDoorKpAonA
import Derived.Test.YtmohnddglmolgaaGreatDoorKpCounts
namespace Go.Proofs.YtmohnddglmolgaaGreatDoor
open Go Go.RowKit Go.Lin Go.Lin.Kp

/-- A loss. -/
structure Loss where
  before : Int
  steps : Int
  cells : List Int
  opens : Int
  opened : List Int

/-- A loss lies there. -/
structure LossAt (w : World) (b o : Nat) (x : Loss) : Prop where
  c0 : w.cell? ⟨b, o, none⟩ = some (.int .u8 x.before)
  c1 : w.cell? ⟨b, o + 1, none⟩ = some (.int .u8 x.steps)
  c2 : ∃ v, w.cell? ⟨b, o + 2, none⟩ = some v ∧ IsBytes w v x.cells
  c3 : w.cell? ⟨b, o + 3, none⟩ = some (.int .u8 x.opens)
  c4 : ∃ v, w.cell? ⟨b, o + 4, none⟩ = some v ∧ IsBytes w v x.opened
  b0 : 0 ≤ x.before ∧ x.before ≤ 255
  b1 : 0 ≤ x.steps ∧ x.steps ≤ 255
  b3 : 0 ≤ x.opens ∧ x.opens ≤ 255

/-- A slice of losses. -/
def IsLosses (w : World) (v : Value) (ls : List Loss) : Prop := ∃ a cap, v = .slice a ls.length cap ∧ ls.length ≤ 9223372036854775807 ∧ ∀ i x, ls[i]? = some x → ∃ b off, a = some ⟨b, off, none⟩ ∧ b < w.heap.size ∧ LossAt w b (off + i * 5) x

theorem IsBytes.shape {w : World} {v : Value} {p : List Int} (h : IsBytes w v p) : ∃ a c, v = .slice a p.length c ∧ p.length ≤ 9223372036854775807 := let ⟨a, c, e, hl, _⟩ := h; ⟨a, c, e, hl⟩

theorem LossAt.grew {w w' : World} {b o : Nat} {x : Loss} (h : LossAt w b o x) (hb : b < w.heap.size) (hg : Grew w w') : LossAt w' b o x :=
  ⟨(hg.cell (p := ⟨b, o, none⟩) hb).trans h.c0, (hg.cell (p := ⟨b, o + 1, none⟩) hb).trans h.c1, (let ⟨v, e, hv⟩ := h.c2; ⟨v, (hg.cell (p := ⟨b, o + 2, none⟩) hb).trans e, hv.grew hg⟩), (hg.cell (p := ⟨b, o + 3, none⟩) hb).trans h.c3,
    (let ⟨v, e, hv⟩ := h.c4; ⟨v, (hg.cell (p := ⟨b, o + 4, none⟩) hb).trans e, hv.grew hg⟩), h.b0, h.b1, h.b3⟩

theorem IsLosses.grew {w w' : World} {v : Value} {ls : List Loss} (h : IsLosses w v ls) (hg : Grew w w') : IsLosses w' v ls := by
  obtain ⟨a, c, e, hl, hc⟩ := h
  refine ⟨a, c, e, hl, fun i x hx => ?_⟩
  obtain ⟨b, off, e1, e2, e3⟩ := hc i x hx
  exact ⟨b, off, e1, Nat.lt_of_lt_of_le e2 hg.size, e3.grew e2 hg⟩

theorem IsDeeds.grew {w w' : World} {v : Value} {ds : List (Int × Int)} (h : IsDeeds w v ds) (hg : Grew w w') : IsDeeds w' v ds := by
  obtain ⟨a, c, e, hl, hc⟩ := h
  refine ⟨a, c, e, hl, fun i x hx => ?_⟩
  obtain ⟨b, off, e1, e2, e3, e4⟩ := hc i x hx
  exact ⟨b, off, e1, Nat.lt_of_lt_of_le e2 hg.size, (hg.cell (p := ⟨b, off + i * 2, none⟩) e2).trans e3, (hg.cell (p := ⟨b, off + (i * 2 + 1), none⟩) e2).trans e4⟩

def slim (x : Loss) : Prop := x.cells.length ≤ 10 ∧ x.opened.length ≤ 10

set_option maxHeartbeats 4000000 in
set_option maxRecDepth 20000 in
theorem wide16_any (dv lv : Value) (ds : List (Int × Int)) (ls : List Loss) (w : World) (hd : IsDeeds w dv ds) (hl : IsLosses w lv ls) :
    Calls Tryz.prog 16 #[.agg #[dv, lv]] w fun e w' => ∃ r : Bool, e = .returned (.bool r) ∧ (r = false → ds.length ≤ 30 ∧ ls.length ≤ 10 ∧ ∀ x ∈ ls, slim x) ∧ Grew w w' := by
  obtain ⟨w1, hw1, g1, k0, k1, hz1⟩ := box2 w dv lv 33
  obtain ⟨da, dc, rfl, hdm, -⟩ := hd
  obtain ⟨la, lc, rfl, hlm, hcc⟩ := hl
  have HC := hid hcc; have HG1 := hid g1
  clear hcc g1
  obtain ⟨n, hnn⟩ : ∃ n, ls.length = n := ⟨_, rfl⟩
  obtain ⟨m, hmm⟩ : ∃ m, ds.length = m := ⟨_, rfl⟩
  have HN := hid hnn
  rw [hnn] at hlm k1 hw1 ⊢
  rw [hmm] at hdm k0 hw1 ⊢
  clear hnn hmm
  go_enter Tryz.func16, Tryz.ntmps16
  go_wp2
  go_loopg [3] n (fun gk iv wr => ∃ (j : Nat), j ≤ n ∧ iv = .int .i64 (j : Int) ∧ Hid (gk = n - j) ∧ Hid (∀ i x, i < j → ls[i]? = some x → slim x) ∧ w1 = wr)
  case atStart => exact ⟨0, Nat.zero_le _, rfl, hid rfl, hid (fun i x h => by omega), rfl⟩
  case round =>
    obtain ⟨j, hj, rfl, HGK, HS, rfl⟩ := hrel
    by_cases hlt : j < n
    · have hjl : j < ls.length := by rw [HN.out]; exact hlt
      obtain ⟨x, hx⟩ : ∃ x, ls[j]? = some x := ⟨_, List.getElem?_eq_getElem hjl⟩
      obtain ⟨b, off, rfl, hb, hL⟩ := HC.out j x hx
      have hL2 := hL.grew hb HG1.out
      obtain ⟨v2, e2, hv2⟩ := hL2.c2
      obtain ⟨v4, e4, hv4⟩ := hL2.c4
      obtain ⟨a2, c2, rfl, hm2⟩ := hv2.shape
      obtain ⟨a4, c4, rfl, hm4⟩ := hv4.shape
      have hb1 := Nat.lt_of_lt_of_le hb HG1.out.size
      have HX := hid hx
      obtain ⟨p2, hp2⟩ : ∃ p, x.cells.length = p := ⟨_, rfl⟩
      obtain ⟨p4, hp4⟩ : ∃ p, x.opened.length = p := ⟨_, rfl⟩
      rw [hp2] at e2 hm2
      rw [hp4] at e4 hm4
      have HP2 := hid hp2; have HP4 := hid hp4
      clear hL hL2 hv2 hv4 hx hp2 hp4 hjl
      by_cases h2 : 10 < p2
      · have d2 : decide ((10 : Int) < (p2 : Int)) = true := by simp; omega
        clear h2
        go_wp2
        go_ret
        exact ⟨true, rfl, (fun h => by cases h), HG1.out⟩
      · have d2 : decide ((10 : Int) < (p2 : Int)) = false := by simp; omega
        by_cases h4 : 10 < p4
        · have d4 : decide ((10 : Int) < (p4 : Int)) = true := by simp; omega
          clear h2 h4
          go_wp2
          go_ret
          exact ⟨true, rfl, (fun h => by cases h), HG1.out⟩
        · have d4 : decide ((10 : Int) < (p4 : Int)) = false := by simp; omega
          have HSL := hid (show slim x from ⟨by rw [HP2.out]; omega, by rw [HP4.out]; omega⟩)
          clear h2 h4
          go_wp2
          go_roundg (n - (j + 1))
          case measure => have := HGK.out; omega
          case rel => exact ⟨j + 1, by omega, by go_num, hid rfl, hid (fun i y hi hy => by
            rcases Nat.lt_or_ge i j with h | h
            · exact HS.out i y h hy
            · obtain rfl : i = j := by omega
              rw [HX.out] at hy; cases hy; exact HSL.out), rfl⟩
    · obtain rfl : j = n := by omega
      have hall : ∀ x ∈ ls, slim x := fun x hx => by
        obtain ⟨i, hi, rfl⟩ := List.getElem_of_mem hx
        exact HS.out i _ (by rw [← HN.out]; exact hi) (List.getElem?_eq_getElem hi)
      have HALL := hid hall
      clear hall
      by_cases h30 : 30 < m
      · have d30 : decide ((30 : Int) < (m : Int)) = true := by simp; omega
        clear h30
        go_wp2
        go_ret
        exact ⟨true, rfl, (fun h => by cases h), HG1.out⟩
      · have d30 : decide ((30 : Int) < (m : Int)) = false := by simp; omega
        by_cases h10 : 10 < j
        · have d10 : decide ((10 : Int) < (j : Int)) = true := by simp; omega
          clear h10 h30
          go_wp2
          go_ret
          exact ⟨true, rfl, (fun h => by cases h), HG1.out⟩
        · have d10 : decide ((10 : Int) < (j : Int)) = false := by simp; omega
          have q30 : m ≤ 30 := by omega
          have q10 : j ≤ 10 := by omega
          have HQ := hid (And.intro q30 q10)
          clear h10 h30 q30 q10
          go_wp2
          go_ret
          exact ⟨false, rfl, fun _ => ⟨HQ.out.1, HQ.out.2, HALL.out⟩, HG1.out⟩

end Go.Proofs.YtmohnddglmolgaaGreatDoor
