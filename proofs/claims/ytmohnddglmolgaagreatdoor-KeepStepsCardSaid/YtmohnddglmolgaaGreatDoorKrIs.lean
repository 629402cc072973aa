/- Walk: Is (37): a memory is that of the reference. -/
import Derived.Test.YtmohnddglmolgaaGreatDoorKrOps
import Derived.BigRegion
namespace Go.Proofs.YtmohnddglmolgaaGreatDoor
open Go Go.RowKit Go.Lin Go.Lin.Kp

set_option maxHeartbeats 4000000 in
set_option maxRecDepth 20000 in
theorem is37_same (bm rm : Nat) (M : Mem) (F F' : Nat → Prop) (w : World) (h : IsMem w bm M F) (h' : IsRMem w rm M F') :
    Calls Tryz.prog 37 #[ptr bm, ptr rm] w fun e w' => e = .returned (.bool true) ∧ Grew w w' := by
  have HP := hid (fun (W : World) (hg : Grew w W) => (power25_mem bm M F W (h.grew hg)).mono fun e w' hx => (⟨hx.1, hx.2 ▸ grew_refl _⟩ : e = .returned (.bool M.on) ∧ Grew W w'))
  have HS := hid (fun (W : World) (hg : Grew w W) => (steps27_mem bm M F W (h.grew hg)).mono fun e w' hx => (⟨hx.1, hx.2 ▸ grew_refl _⟩ : e = .returned (.int .i64 (M.steps : Int)) ∧ Grew W w'))
  have HR := hid (fun (W : World) (hg : Grew w W) (c : Int) => read39_mem bm M F c W (h.grew hg))
  have HK := hid (fun (W : World) (hg : Grew w W) (c : Int) => kept40_mem bm M F c W (h.grew hg))
  have HR' := hid (fun (W : World) (hg : Grew w W) (c : Int) => rread72_any rm M F' c W (h'.grew hg))
  have HK' := hid (fun (W : World) (hg : Grew w W) (c : Int) => rkept73_any rm M F' c W (h'.grew hg))
  obtain ⟨ov, hr⟩ := h'
  have c3 := hr.cOn
  have c6 := hr.cS
  have hlr := hr.row.lt
  obtain ⟨o, ho⟩ : ∃ o, M.on = o := ⟨_, rfl⟩
  rw [ho] at HP c3
  obtain ⟨st, hst⟩ : ∃ o : Int, (M.steps : Int) = o := ⟨_, rfl⟩
  rw [hst] at HS c6
  have b1 : (o != o) = false := by simp
  have b2 : (st != st) = false := by simp
  clear hst ho hr h
  go_enter Tryz.func37, Tryz.ntmps37
  go_wp2
  refine wp_region_later (by kernel_rfl) (by kernel_rfl) (fun hL => ?_)
  (try simp only [List.append_eq, List.cons_append, List.nil_append])
  repeat (go_big_quiet_step (first
    | (go_at_call 25; exact calls_later (HP.out _ (Subtype.property _)))
    | (go_at_call 27; exact calls_later (HS.out _ (Subtype.property _)))))
  refine wpQuiet_nil ?_
  rintro wy ⟨y, hy⟩
  have HG := hid (show Grew w wy by rw [hy]; exact y.2)
  clear hL hy y
  go_wp2
  go_loopg [5, 6, 7, 8, 9, 10, 11, 12, 13, 34, 40, 46, 52] 66 (fun gk iv _ _ _ _ _ _ _ _ _ _ _ _ wr => ∃ c : Int, iv = .int .i64 c ∧ Hid (-1 ≤ c ∧ c ≤ 65) ∧ Hid ((gk : Int) = 65 - c) ∧ wy = wr)
  case atStart => exact ⟨-1, rfl, hid (by decide), hid (by decide), rfl⟩
  case round =>
    obtain ⟨c, rfl, HB, HGK, rfl⟩ := hrel
    have hb := HB.out
    by_cases hlt : c ≤ 64
    · have d1 : decide (c ≤ 64) = true := by rw [decide_eq_true_eq]; exact hlt
      have hr1 := HR.out wy HG.out c
      have hk1 := HK.out wy HG.out c
      have hr2 := HR'.out wy HG.out c
      have hk2 := HK'.out wy HG.out c
      obtain ⟨x1, hx1⟩ : ∃ x, (M.read c).1 = x := ⟨_, rfl⟩
      obtain ⟨x2, hx2⟩ : ∃ x, (M.read c).2 = x := ⟨_, rfl⟩
      obtain ⟨y1, hy1⟩ : ∃ x, (M.keptAt c).1 = x := ⟨_, rfl⟩
      obtain ⟨y2, hy2⟩ : ∃ x, (M.keptAt c).2 = x := ⟨_, rfl⟩
      rw [hx1, hx2] at hr1 hr2
      rw [hy1, hy2] at hk1 hk2
      have R1 := hid hr1; have R2 := hid hr2; have K1 := hid hk1; have K2 := hid hk2
      have b3 : (x1 != x1) = false := by simp
      have b4 : (x2 != x2) = false := by simp
      have b5 : (y1 != y1) = false := by simp
      have b6 : (y2 != y2) = false := by simp
      have hw : IntKind.i64.wrap (c + 1) = c + 1 := IntWalk.i64_in _ (by omega)
      obtain ⟨gk', hgk'⟩ : ∃ g : Nat, (g : Int) = 65 - (c + 1) := ⟨(65 - (c + 1)).toNat, by omega⟩
      have HGK' := hid hgk'
      clear hr1 hr2 hk1 hk2 hx1 hx2 hy1 hy2 hgk'
      go_wp2_with (first
        | (go_at_call 39; (with_reducible refine R1.out.mono ?_); rintro e w1 ⟨rfl, rfl⟩)
        | (go_at_call 72; (with_reducible refine R2.out.mono ?_); rintro e w1 ⟨rfl, rfl⟩)
        | (go_at_call 40; (with_reducible refine K1.out.mono ?_); rintro e w1 ⟨rfl, rfl⟩)
        | (go_at_call 73; (with_reducible refine K2.out.mono ?_); rintro e w1 ⟨rfl, rfl⟩))
      go_roundg gk'
      case measure => have := HGK.out; have := HGK'.out; omega
      case rel => exact ⟨c + 1, by go_num, hid (by omega), HGK', rfl⟩
    · have d1 : decide (c ≤ 64) = false := by rw [decide_eq_false_iff_not]; exact hlt
      clear hlt
      go_wp2
      go_ret
      exact ⟨rfl, HG.out⟩

end Go.Proofs.YtmohnddglmolgaaGreatDoor
