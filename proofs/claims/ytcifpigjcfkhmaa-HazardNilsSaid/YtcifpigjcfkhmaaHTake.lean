/- Walks: Take, Point, Clear, Use. -/
import Derived.Test.YtcifpigjcfkhmaaHMem
namespace Go.Proofs.Ytcifpigjcfkhmaa
open Go.RowKit Go.Lin Go.Lin.Hz

/-- What a call does to a yard that lies at b. -/
def Does (w w' : World) (b : Nat) (Fp : List Nat) (Y' : Yd) : Prop :=
  ∃ Fp', IsYard w' b Y' Fp' ∧ Keeps (fun k _ => k ∈ Fp) w w' ∧ ∀ k ∈ Fp', k ∈ Fp ∨ w.heap.size ≤ k

theorem keeps_store_in {Fp : List Nat} (w : World) (b j : Nat) (u : Value) (hb : b ∈ Fp) : Keeps (fun k _ => k ∈ Fp) w (w.setCell ⟨b, j, none⟩ u) :=
  Keeps.mono (keeps_store w b j u) (fun k _ (e : k = b) => by rw [e]; exact hb)

theorem Does.same {w w' : World} {b : Nat} {Y : Yd} {Fp : List Nat} (h : IsYard w b Y Fp) (hg : Grew w w') : Does w w' b Fp Y :=
  ⟨Fp, IsYardAt.grew h hg, Grew.keeps hg, fun _ h => .inl h⟩

theorem Does.setN {w w' : World} {b : Nat} {Y : Yd} {Fp : List Nat} (h : IsYard w b Y Fp) (hI : Inv Y) (hg : Grew w w') {k : Nat} (hk : k < 8) (v : Int) (hb : b ∈ Fp) : Does w (w'.setCell ⟨b, 1 + k, none⟩ (.int .i64 v)) b Fp (Hz.setN Y k v) :=
  ⟨Fp, IsYardAt.setN (IsYardAt.grew h hg) hI.st hk v, (Grew.keeps hg).trans (keeps_store_in _ _ _ _ hb), fun _ h => .inl h⟩

theorem Does.setSlot {w w' : World} {b tb cap : Nat} {lv : List Value} {Y : Yd} {Fp : List Nat} (h : IsYard w b Y Fp) (hI : Inv Y) (hv : YView w b Y tb cap lv) (hg : Grew w w') {i : Nat} (hi : i < Y.th.length) {s : Int} (hs : s = 0 ∨ s = 1) (v : Int) (hb : tb ∈ Fp) :
    Does w (w'.setCell ⟨tb, i * 3 + s.toNat, none⟩ (.int .i64 v)) b Fp (setT Y i ((thAt Y i).put s v)) :=
  ⟨Fp, IsYardAt.setSlot (IsYardAt.grew h hg) (hv.grew hg).c9 hI.st hi hs v, (Grew.keeps hg).trans (keeps_store_in _ _ _ _ hb), fun _ h => .inl h⟩

theorem states_reads {w : World} {b : Nat} {Y : Yd} (hh : YHead w b Y) (hI : Inv Y) : IsInts Any w (.slice (some ⟨b, 1, none⟩) 8 8) Y.st := by
  refine ⟨_, _, by rw [hI.st], by rw [hI.st]; omega, fun i hi => ⟨b, 1, _, rfl, Array.getElem?_eq_getElem hh.lt, trivial, hh.cs i (by rw [← hI.st]; exact hi)⟩⟩

set_option maxHeartbeats 1000000 in
theorem take_any (Y : Yd) (hI : Inv Y) (b : Nat) (Fp : List Nat) (t : Int) (w : World) (hy : IsYard w b Y Fp) :
    Calls Try.prog 41 #[.pointer (some ⟨b, 0, none⟩), .int .i64 t] w fun e w' => e = .returned (.tuple #[.int .i64 (take Y t).2.1, .int .i64 (take Y t).2.2]) ∧ Does w w' b Fp (take Y t).1 := by
  obtain ⟨tb, cap, lv, hv, fz, -, hbF, -⟩ := IsYard.view hy hI
  have HY := hid hy
  have hh := hv.head
  have HH := hid hh
  have hlt := hh.lt
  have hg := grew_refl w
  have HT := hid (fun (y : World) (hy : Grew w y) => isThreadY hI b t y (hh.grew hy))
  have HX := hid (fun (y : World) (hy : Grew w y) => index67_any _ _ 0 y (states_reads (hh.grew hy) hI))
  clear hv hh hy
  by_cases ht : isT Y t = true
  · have HB := hid ht
    cases hf : Y.st.findIdx? (· == 0) with
    | none =>
      have hres : take Y t = (Y, 0, 5) := by simp only [take, ht, if_true, hf]
      have hidx : idx Y.st 0 = -1 := by simp only [idx, hf]
      rw [hidx] at HX
      rw [hres]
      clear hres hidx hf ht
      go_enter Try.func41, Try.ntmps41
      go_wp2_with (first
        | (go_at_call 59; with_reducible refine (HT.out _ hg).mono ?_; rintro e w1 ⟨q1, rfl, hs1, hx⟩; have S1 := hid hs1; clear hs1; replace hg := grew_trans hg hx; have hc := (bcell hg).1)
        | (go_at_call 49; with_reducible refine (ask1 hI HH.out asks80 hg S1.out).mono ?_; rintro e w3 ⟨rfl, hx⟩; replace hg := grew_trans hg hx; have hc := (bcell hg).1; rw [HB.out])
        | (go_at_call 67; with_reducible refine (HX.out _ hg).mono ?_; rintro e w4 ⟨rfl, hx⟩; replace hg := grew_trans hg hx; have hc := (bcell hg).1))
      go_ret2
      exact ⟨rfl, Does.same HY.out hg⟩
    | some k =>
      have hk8 := (hI.take hf).1
      have hres : take Y t = (setN Y k 1, (k : Int), 0) := by simp only [take, ht, if_true, hf]
      have hidx : idx Y.st 0 = k := by simp only [idx, hf]
      have hwr := HH.out.cs k hk8
      rw [hidx] at HX
      rw [hres]
      clear hres hidx hf ht
      have FZ := hid fz
      clear fz
      go_enter Try.func41, Try.ntmps41
      go_wp2_with (first
        | (go_at_call 59; with_reducible refine (HT.out _ hg).mono ?_; rintro e w1 ⟨q1, rfl, hs1, hx⟩; have S1 := hid hs1; clear hs1; replace hg := grew_trans hg hx; have hc := (bcell hg).1)
        | (go_at_call 49; with_reducible refine (ask1 hI HH.out asks80 hg S1.out).mono ?_; rintro e w3 ⟨rfl, hx⟩; replace hg := grew_trans hg hx; have hc := (bcell hg).1; rw [HB.out])
        | (go_at_call 67; with_reducible refine (HX.out _ hg).mono ?_; rintro e w4 ⟨rfl, hx⟩; replace hg := grew_trans hg hx; have hc := (bcell hg).1; have hfz := (hg.frozen (p := ⟨b, 1 + k, none⟩) hlt).trans (FZ.out (1 + k)); have hcl := (hg.cell (p := ⟨b, 1 + k, none⟩) hlt).trans hwr))
      go_ret2
      exact ⟨rfl, Does.setN HY.out hI hg hk8 1 hbF⟩
  · have hb : isT Y t = false := by simpa using ht
    have hres : take Y t = (Y, 0, 2) := by simp [take, hb]
    rw [hres]
    have HB := hid hb
    clear hb hres ht
    go_enter Try.func41, Try.ntmps41
    go_wp2_with (first
      | (go_at_call 59; with_reducible refine (HT.out _ hg).mono ?_; rintro e w1 ⟨q1, rfl, hs1, hx⟩; have S1 := hid hs1; clear hs1; replace hg := grew_trans hg hx; have hc := (bcell hg).1)
      | (go_at_call 49; with_reducible refine (ask1 hI HH.out asks80 hg S1.out).mono ?_; rintro e w3 ⟨rfl, hx⟩; replace hg := grew_trans hg hx; have hc := (bcell hg).1; rw [HB.out]))
    go_ret2
    exact ⟨rfl, Does.same HY.out hg⟩

end Go.Proofs.Ytcifpigjcfkhmaa
