/- The statement SpecBegun, proved: whatever the input, it answers true, and the input reads as it did. -/
import Derived.Test.YtnebpcpihldllaaLBegun
import Derived.Test.YtnebpcpihldllaaOpens
import Derived.ProofKit
namespace Go.Proofs.Ytnebpcpihldllaa
open Go.ChangeShapes Go.WideShapes Go.ChangeAt Go.RowKit Go.Lin

theorem Try.own : ownKnob Try.prog.godebug = none := by kernel_rfl
theorem Try.read24 : Try.prog.readableRec 24 = true := by kernel_rfl

set_option maxRecDepth 100000 in
theorem specOf {H : Type} {enc : TypeId × Value → H} {w : World} {base : Nat} {held : Bool} {r : Reach} {b0 : Nat} {v : Value} {d : DataW H} {p : List MemPlace}
    (hv : Value.okWide Try.prog w r b0 24 v) (h : DataW.Trod enc Try.prog w base (fun _ => true) held 24 v d p) : ∃ s, IsSpec w v s :=
  spec_of_trod Try.underlying24 (by kernel_rfl) (by kernel_rfl) rfl rfl rfl rfl Try.underlying3 Try.underlying22 Try.underlying34 (by kernel_rfl) (by kernel_rfl) hv h

set_option maxRecDepth 100000 in
theorem specBegun_lifted (os : Os) (started : os.Started) (H : Type) (enc : TypeId × Value → H) :
    ReturnsInHanded {} Try.checked os 3 .any (Rows.specBegunSpec.pre6 enc Try.prog Try.f3 Rows.specBegunRow.domain false) (Rows.specBegunSpec.post enc Try.prog Try.f3 false true false false) := by
  refine returnsInHanded_of_change (C := Try.checked) Try.own started (by kernel_rfl) Try.func3
    (ChangeSpec.witness6 (enc := enc) (C := Try.checked) false ⟨#[], #[.agg #[.int .i64 0, .int .i64 0, .slice none 0 0, .slice none 0 0], .int .i64 0], []⟩ 8 (by kernel_rfl) (by kernel_rfl) (by kernel_rfl) (by kernel_rfl)) ?_
  intro W base args ds gs before hval0 hW hcnd _
  have hval : ∀ (j : Nat) t v, Try.f3.params[j]? = some t → args[j]? = some v → Value.okWide Try.prog W .any base t v := hval0
  have hW' := hW
  obtain ⟨p, q, hA0, hV, rfl, hfz, hnd⟩ := hW
  have hA : DataW.TrodAll enc Try.prog W 0 (fun _ => true) true Try.f3.params.toList args.toList ds p := hA0
  rw [Try.params3] at hA hval
  obtain ⟨v0, v1, d0, d1, p0, p1, rfl, rfl, rfl, h0, h1⟩ := trodAll_two hA
  obtain ⟨rfl, rfl⟩ := trodVars_none hV
  obtain ⟨s, hs⟩ := specOf (hval 0 24 v0 rfl rfl) h0
  obtain ⟨c, rfl, rfl, rfl, wc⟩ := open_int Try.underlying3 (hval 1 3 v1 rfl rfl) h1
  clear hA0 hval0
  simp only [List.append_nil] at hW'
  refine (specBegun_law s c v0 W hs).mono fun e W' ⟨he, hg⟩ => ?_
  subst he
  have hlt := hW'.lt
  refine ⟨_, rfl, post_seen (pa := p0 ++ []) (pv := []) hW' (fun _ _ _ => trodAll_mk1 (shut_bool Try.underlying4 _)) (trodAll_mk2 (Below.trod Try.laidOut Try.read24 (of_decide_eq_true (by kernel_rfl)) h0 hg (fun x hx => hlt x hx)) (shut_int Try.underlying3 wc)) rfl hg⟩

theorem specBegun_holds : Rows.SpecBegunSaid :=
  OpenClaim.holds_of_wide 3 Try.f3 rfl rfl rfl rfl rfl rfl rfl ⟨rfl, rfl, rfl, rfl, rfl⟩ rfl rfl rfl rfl rfl (by kernel_rfl) Try.func3 (by kernel_rfl)
    (of_decide_eq_true (by kernel_rfl)) (by unfold Func.isWrapper; first | (rw [if_pos (by decide +kernel)]; kernel_rfl) | (rw [if_neg (by decide +kernel)]; exact ⟨rfl, rfl⟩))
    (fun os started H enc _ => specBegun_lifted os started H enc)
end Go.Proofs.Ytnebpcpihldllaa
