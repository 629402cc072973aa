/- The statement KeepPlays, proved, and its tied card: whatever the input, it answers true, and the input reads as it did. -/
import Derived.Test.YtmohnddglmolgaaGreatDoorKpLines
import Derived.Test.YtmohnddglmolgaaGreatDoorKrPlaysL
import Derived.ProofKit
namespace Go.Proofs.YtmohnddglmolgaaGreatDoor
open Go.ChangeShapes Go.WideShapes Go.ChangeAt Go.RowKit Go.Lin Go.Lin.Kp

section
variable {H : Type} {enc : TypeId × Value → H} {P : Program} {w : World} {base : Nat} {spare : Nat → Bool} {held : Bool}
theorem keepPlays_cons {t : TypeId} {ts : List TypeId} {v : Value} {vs : List Value} {d : DataW H} {ds : List (DataW H)} {p p' : List MemPlace}
    (h : DataW.Trod enc P w base spare held t v d p) (hs : DataW.TrodAll enc P w base spare held ts vs ds p') : DataW.TrodAll enc P w base spare held (t :: ts) (v :: vs) (d :: ds) (p ++ p') := ⟨p, p', h, hs, rfl⟩

theorem keepPlays_split {t0 : TypeId} {args : Array Value} {ds : List (DataW H)} {ps : List MemPlace} (h : DataW.TrodAll enc P w base spare held [t0] args.toList ds ps) :
    ∃ v0 d0 p0, args = #[v0] ∧ ds = [d0] ∧ ps = p0 ∧ DataW.Trod enc P w base spare held t0 v0 d0 p0 := by
  obtain ⟨v0, vs0, d0, ds0, p0, q0, hargs, rfl, rfl, h0, r0⟩ := trodAll_cons h
  obtain ⟨rfl, rfl, rfl⟩ := trodAll_nil r0
  exact ⟨v0, d0, p0, by cases args; simp_all, rfl, by simp, h0⟩
end

set_option maxRecDepth 100000 in
theorem keepPlays_lifted (os : Os) (started : os.Started) (H : Type) (enc : TypeId × Value → H) :
    ReturnsInHanded {} Tryz.checked os 3 .any (fun w args => (Rows.keepPlaysSpec.pre enc Tryz.prog Tryz.f3 Rows.keepPlaysRow.domain false w args ∧ laidMetH Tryz.prog Rows.keepPlaysRow.laid w) ∧ sizedMet enc Tryz.prog Tryz.f3 (OpenSpec.ofChange Rows.keepPlaysSpec) false w args)
      (Rows.keepPlaysSpec.post enc Tryz.prog Tryz.f3 false true false false) := by
  refine handed_shaped_and (C := Tryz.checked) (X := fun w _ => laidMetH Tryz.prog Rows.keepPlaysRow.laid w) (fun _ _ _ hh h => h.of_heap hh) Tryz.own5 started (by kernel_rfl) Tryz.func3
    (ChangeSpec.witness_shaped (enc := enc) (C := Tryz.checked) (os := os) (X := fun w _ => laidMetH Tryz.prog Rows.keepPlaysRow.laid w) false (World.laidAll Tryz.prog os Rows.keepPlaysRow.laid) #[.slice none 0 0] 8 (World.laidAll_os _ _ _)
      (World.shaped_of_ZipB (by kernel_rfl) (by kernel_rfl)) (by kernel_rfl) (by kernel_rfl) (by kernel_rfl)
      (laidAll_met os _)) ?_
  intro W base args ds gs before hval0 hW _ _ hL hsh _
  have hLay : Lay W := lay_of hL hsh
  have hval : ∀ (j : Nat) t v, Tryz.f3.params[j]? = some t → args[j]? = some v → Value.okWide Tryz.prog W .any base t v := hval0
  have hW' := hW
  obtain ⟨p, q, hA0, hV, rfl, hfz, hnd⟩ := hW
  have hA : DataW.TrodAll enc Tryz.prog W 0 (fun _ => true) true Tryz.f3.params.toList args.toList ds p := hA0
  rw [Tryz.params3] at hA hval
  obtain ⟨v0, d0, p0, rfl, rfl, rfl, h0⟩ := keepPlays_split hA
  obtain ⟨rfl, rfl⟩ := trodVars_none hV
  obtain ⟨ls0, hl0⟩ := linesIn (hval 0 22 v0 rfl rfl) h0
  clear hA0 hval0
  simp only [List.append_nil] at hW'
  refine Calls.mono (show Calls Tryz.prog 3 #[v0] W (fun e W' => e = .returned (.bool true) ∧ Grew W W') from (plays3_any v0 ls0 W hl0 hLay)) fun e W' ⟨he, hg⟩ => ?_
  subst he
  have hlt := hW'.lt
  refine ⟨_, rfl, post_seen (pa := p) (pv := []) hW' (fun _ _ _ => trodAll_mk1 (shut_bool Tryz.underlying4 _))
    (trodAll_mk1 (Below.trod Tryz.laidOut Tryz.read_lines (of_decide_eq_true (by kernel_rfl)) h0 hg (fun x hx => hlt x (by first | exact hx | simp [hx])))) rfl hg⟩

theorem keepPlays_holds : Rows.KeepPlaysSaid :=
  OpenClaim.holds_of_wide 3 Tryz.f3 rfl rfl rfl rfl rfl rfl rfl ⟨rfl, rfl, rfl, rfl, rfl⟩ rfl rfl rfl rfl rfl (by kernel_rfl) Tryz.func3 (by kernel_rfl)
    (of_decide_eq_true (by kernel_rfl)) (by unfold Func.isWrapper; first | (rw [if_pos (by decide +kernel)]; kernel_rfl) | (rw [if_neg (by decide +kernel)]; exact ⟨rfl, rfl⟩))
    (fun os started H enc _ => keepPlays_lifted os started H enc)

theorem keepPlays_card_holds : Rows.KeepPlaysCardSaid :=
  Claim7.holds_tied_plain_at .later [] [.data, .data, .data, .data, .sentinel, .sentinel, .pinned] true (true, "13a7fc00212499885419e959c444dd2845884ab61455e06ced9475da32646069") true
    keepPlays_holds (fun _ h => by cases h) (by kernel_rfl) (fun _ h => by cases h) keepPlays_row_tie rfl ⟨rfl, rfl⟩ (by kernel_rfl) rfl
    (fun f fn hf hfn => by
      obtain rfl : f = 3 := Option.some.inj ((show Tryz.prog.funcNamed "lineal/lineallaw10.KeepPlays" = some 3 by kernel_rfl).symm.trans hf) |>.symm
      obtain rfl : fn = Tryz.f3 := (Option.some.inj (Tryz.func3.symm.trans hfn)).symm
      exact ⟨by kernel_rfl, fun j t ht => by
        rw [Tryz.params3] at ht
        have hm : t ∈ [22] := by simpa using Array.mem_of_getElem? ht
        have hall : ([22].all fun u => !Tryz.prog.wantsStandIn u) = true := by kernel_rfl
        exact (show Tryz.prog.wantsStandIn t = false by simpa using List.all_eq_true.1 hall t hm)⟩)
    (by kernel_rfl)
end Go.Proofs.YtmohnddglmolgaaGreatDoor
