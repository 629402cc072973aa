/- Plain: the sanity check's script. Walk: Sane (12). -/
import Derived.Test.YtmohnddglmolgaaGreatDoorKpDeskA
namespace Go.Lin.Kp
open Go Go.Lin

def saneL : List (List UInt8) := [[97, 100, 100, 32, 55], [102, 97, 105, 108, 32, 52, 32, 48], [97, 100, 100, 32, 56], [111, 112, 101, 110], [108, 105, 115, 116]]
def saneR : List (List UInt8) := [[111, 107], [111, 107], [101, 114, 114, 111, 114, 32, 49, 48, 49], [111, 107], [55]]

theorem sane_p1 : parseM [97, 100, 100, 32, 55] = some (.add 7) := by kernel_rfl
theorem sane_p2 : parseM [102, 97, 105, 108, 32, 52, 32, 48] = some (.fail 4 [0]) := by kernel_rfl
theorem sane_p3 : parseM [97, 100, 100, 32, 56] = some (.add 8) := by kernel_rfl
theorem sane_p4 : parseM [111, 112, 101, 110] = some .open_ := by kernel_rfl
theorem sane_p5 : parseM [108, 105, 115, 116] = some .list := by kernel_rfl

theorem err101 : errT 101 = [101, 114, 114, 111, 114, 32, 49, 48, 49] := by
  have : Lib.itoa 101 = [49, 48, 49] := by
    have h : Lib.itoa 101 = Lib.decDigits 101 := rfl
    rw [h, Lib.decDigits, dif_neg (by decide), Lib.decDigits_two (by decide) (by decide)]; rfl
  unfold errT; rw [this]; rfl
theorem text7 : joinM 44 [7] = [55] := by
  have h : Lib.itoa 7 = [55] := by
    have h : Lib.itoa 7 = Lib.decDigits 7 := rfl
    rw [h, Lib.decDigits_one (by decide)]; rfl
  unfold joinM; rw [List.map_cons, h]; rfl

theorem line_some {A : Bk → List UInt8 → List UInt8 × Int} {D : Dk} {x : List UInt8} {c : Cmd} (h : parseM x = some c) : lineM A D x = (if (doM A D c).1.2 = 0 then (doM A D c).1.1 else errT (doM A D c).1.2, (doM A D c).2) := by unfold lineM; rw [h]

theorem sane_play (A : Bk → List UInt8 → List UInt8 × Int) : playM A saneL = saneR := by
  obtain ⟨D1, h1⟩ : ∃ D, lineM A Dk.new [97, 100, 100, 32, 55] = ([111, 107], D) ∧ D = (doM A Dk.new (.add 7)).2 := ⟨_, (by rw [line_some sane_p1]; rw [if_pos (by kernel_rfl)]; exact congrArg (fun z => (z, (doM A Dk.new (.add 7)).2)) (by kernel_rfl)), rfl⟩
  obtain ⟨h1, e1⟩ := h1
  obtain ⟨D2, h2, e2⟩ : ∃ D, lineM A D1 [102, 97, 105, 108, 32, 52, 32, 48] = ([111, 107], D) ∧ D = (doM A D1 (.fail 4 [0])).2 := ⟨_, (by rw [line_some sane_p2]; rw [if_pos (by rw [e1]; kernel_rfl)]; exact congrArg (fun z => (z, (doM A D1 (.fail 4 [0])).2)) (by rw [e1]; kernel_rfl)), rfl⟩
  obtain ⟨D3, h3, e3⟩ : ∃ D, lineM A D2 [97, 100, 100, 32, 56] = ([101, 114, 114, 111, 114, 32, 49, 48, 49], D) ∧ D = (doM A D2 (.add 8)).2 := ⟨_, (by
    have h : (doM A D2 (.add 8)).1.2 = 101 := by rw [e2, e1]; kernel_rfl
    rw [line_some sane_p3, h, if_neg (by decide), err101]), rfl⟩
  obtain ⟨D4, h4, e4⟩ : ∃ D, lineM A D3 [111, 112, 101, 110] = ([111, 107], D) ∧ D = (doM A D3 .open_).2 := ⟨_, (by rw [line_some sane_p4]; rw [if_pos (by rw [e3, e2, e1]; kernel_rfl)]; exact congrArg (fun z => (z, (doM A D3 .open_).2)) (by rw [e3, e2, e1]; kernel_rfl)), rfl⟩
  have h5 : (lineM A D4 [108, 105, 115, 116]).1 = [55] := by
    have hb : D4.b.list = [7] := by rw [e4, e3, e2, e1]; kernel_rfl
    rw [line_some sane_p5]
    show (if (0 : Int) = 0 then (if D4.b.list.length = 0 then [45] else joinM 44 D4.b.list) else errT 0) = [55]
    rw [if_pos rfl, hb, if_neg (by decide), text7]
  unfold playM playR saneL
  simp only [List.foldl_cons, List.foldl_nil, h1, h2, h3, h4, h5, List.nil_append, List.cons_append]
  rfl

/-- None of the lines is a question. -/
theorem sane_noask {x : List UInt8} (hx : x ∈ saneL) : ∀ s, parseM x ≠ some (.ask s) := by
  intro s
  unfold saneL at hx
  simp only [List.mem_cons, List.not_mem_nil, or_false] at hx
  rcases hx with rfl | rfl | rfl | rfl | rfl
  · rw [sane_p1]; intro h; injection h with h; injection h
  · rw [sane_p2]; intro h; injection h with h; injection h
  · rw [sane_p3]; intro h; injection h with h; injection h
  · rw [sane_p4]; intro h; injection h with h; injection h
  · rw [sane_p5]; intro h; injection h with h; injection h

def bA (l : List UInt8) : ByteArray := ⟨l.toArray⟩
theorem bA_list (l : List UInt8) : (bA l).data.toList = l := by simp [bA]
end Go.Lin.Kp
namespace Go.Proofs.YtmohnddglmolgaaGreatDoor
open Go Go.RowKit Go.Lin Go.Lin.Kp

theorem bytesOf_bA (l : List (List UInt8)) : bytesOf (l.map bA) = l := by
  unfold bytesOf; rw [List.map_map]; conv => rhs; rw [← List.map_id l]
  apply List.map_congr_left; intro x _; exact bA_list x

theorem wds_new (w : World) (l : List ByteArray) (hl : l.length ≤ 1000) : IsWds Any (w.alloc (.cells (l.map Value.string).toArray 9)) (.slice (some ⟨w.heap.size, 0, none⟩) l.length l.length) l :=
  (wds_of_row (heap_alloc_new w _) (by omega)).mono (fun _ _ _ => trivial)

theorem cellsT_map (l : List (List UInt8)) : cellsT l = (l.map bA).map Value.string := by unfold cellsT; rw [List.map_map]; rfl

theorem sane_play13 (W : World) (hL : Lay W) : Calls Tryz.prog 13 #[.slice (some ⟨W.heap.size, 0, none⟩) 5 5] (W.alloc (.cells #[.string ⟨#[97, 100, 100, 32, 55]⟩, .string ⟨#[102, 97, 105, 108, 32, 52, 32, 48]⟩, .string ⟨#[97, 100, 100, 32, 56]⟩, .string ⟨#[111, 112, 101, 110]⟩, .string ⟨#[108, 105, 115, 116]⟩] 9)) fun e w' => ∃ b, e = .returned (.tuple #[.slice (some ⟨b, 0, none⟩) 5 5, .int .i64 0]) ∧ Grew W w' ∧ IsWds Any w' (.slice (some ⟨b, 0, none⟩) 5 5) (saneR.map bA) := by
  refine Calls.mono (play13_any (fun _ _ => ([], 0)) _ (saneL.map bA) _ (wds_new W (saneL.map bA) (by decide)) (by decide) (fun x hx => ?_) (hL.grew (grew_alloc (grew_refl _) _)) (fun ⟨x, hx, s, h⟩ => ?_)) ?_
  · obtain ⟨y, hy, rfl⟩ := List.mem_map.1 hx
    have : ∀ y ∈ saneL, y.length ≤ 10000 := by decide
    exact this y hy
  · obtain ⟨y, hy, rfl⟩ := List.mem_map.1 hx
    rw [bA_list] at h
    exact absurd h (sane_noask hy s)
  · rintro e w1 ⟨b, rfl, hg, ho, hb⟩
    rw [bytesOf_bA, sane_play, cellsT_map] at ho
    exact ⟨b, rfl, grew_trans (grew_alloc (grew_refl _) _) hg, (wds_of_row ho (by decide)).mono (fun _ _ _ => trivial)⟩

theorem sane_same15 (W : World) (a : Value) (ha : IsWds Any W a (saneR.map bA)) : Calls Tryz.prog 15 #[a, .slice (some ⟨W.heap.size, 0, none⟩) 5 5] (W.alloc (.cells #[.string ⟨#[111, 107]⟩, .string ⟨#[111, 107]⟩, .string ⟨#[101, 114, 114, 111, 114, 32, 49, 48, 49]⟩, .string ⟨#[111, 107]⟩, .string ⟨#[55]⟩] 9)) fun e w' => e = .returned (.bool true) ∧ Grew W w' := by
  refine Calls.mono (same15_any a _ (saneR.map bA) (saneR.map bA) _ (Reads.grew ha (grew_alloc (grew_refl _) _)) (wds_new W (saneR.map bA) (by decide))) ?_
  rintro e w1 ⟨rfl, hg⟩
  exact ⟨by rw [decide_eq_true rfl], grew_trans (grew_alloc (grew_refl _) _) hg⟩

set_option maxHeartbeats 2000000 in
theorem sane12_any (w : World) (hL : Lay w) : Calls Tryz.prog 12 #[] w fun e w' => e = .returned (.bool true) ∧ Grew w w' := by
  have HP := hid (sane_play13 w hL)
  have HS := hid (fun (W : World) (a : Value) (ha : IsWds Any W a (saneR.map bA)) => sane_same15 W a ha)
  clear hL
  go_enter Tryz.func12, Tryz.ntmps12
  go_wp2_with (first
    | (go_at_call 13; (with_reducible refine HP.out.mono ?_); rintro e w1 ⟨b, rfl, hg, ho⟩; have HO := hid ho; have HG1 := hid hg; clear hg ho)
    | (go_at_call 15; (with_reducible refine (HS.out _ _ HO.out).mono ?_); rintro e w2 ⟨rfl, hg2⟩; have HG2 := hid hg2; clear hg2))
  go_ret
  exact ⟨rfl, grew_trans HG1.out HG2.out⟩

end Go.Proofs.YtmohnddglmolgaaGreatDoor
