/-
  No cell of these rows narrows 'for every input' (looked for: loops, veiled, ifaces, maps, wideKeys, modest, calm, conditions, laid).
  DERIVED. THE GIVEN ROWS OF THIS SEAT. 13 by the template 'for every input the law returns true; each argument reads behind the call as it read before'; 0 by the template 'total and deterministic' (their statements: YtddnpooffcjhnaaTotals.lean).
  GIVEN WITH THE SEED: the statements are not yours to turn. If you find one false, say at which input.
  Laid BY PROGRAM, IN A SANDBOX (cutbox-rows.mjs): the forced cells as the released guide's own fill.sh prints them over the translation 6e60dba5f3b2e5a7… (all of the seat's roots in one cut). By AI agents, Wed Nov 11 2026. No macro, syntax, notation, axiom, sorry.
-/
import Derived.Test.YtddnpooffcjhnaaChecked
import GoSem.Claim
import GoSem.ClaimJoined
import GoSem.ClaimMapViews
import Derived.JoinedTies
import Derived.KernelRfl
namespace Go.Proofs.Ytddnpooffcjhnaa
/- THE CELL 'sum', in the pinned program and in every row, IS THE sha256 OF THE DUMP (.gsa) THAT YtddnpooffcjhnaaProg.lean LOADS. Nothing in Lean hashes anything: it is a label: what it is worth is what the hold of that sum in a sandbox is worth. -/
noncomputable def Try.pinned : Pinned := { name := "ytddnpooffcjhnaa", sum := "6e60dba5f3b2e5a7f9add2574d4ee5507448c4f14f3321bfcd1df89fe58b9ac0", checked := Try.checked }
namespace Rows
def none {H : Type} : Left H := { results := [], args := [] }

/-- 'lineallaw03.WeaveClasses': WHATEVER THE INPUT: true; the input reads as it did. -/
def weaveClassesSpec : ChangeSpec := { name := "weaveClasses", fn := fun _ => fun
  | [d1, d2, d3] => { results := [.lit (.bool true)], args := [d1, d2, d3] }
  | _ => none }
def weaveClassesRow : OpenClaim := { program := "ytddnpooffcjhnaa", sum := "6e60dba5f3b2e5a7f9add2574d4ee5507448c4f14f3321bfcd1df89fe58b9ac0", func := "lineal/lineallaw03.WeaveClasses", spec := "weaveClasses", unfollowed := true, recurses := true, plainKeys := false, apart := false }
def WeaveClassesSaid : Prop := weaveClassesRow.holds Try.pinned (OpenSpec.ofChange weaveClassesSpec)

/-- ITS FALSE NEIGHBOUR: 'it returns false'. Refute it at one input. -/
def weaveClassesWrong : ChangeSpec := { name := "weaveClasses", fn := fun _ => fun
  | [d1, d2, d3] => { results := [.lit (.bool false)], args := [d1, d2, d3] }
  | _ => none }
def WeaveClassesWrongFalsely : Prop := weaveClassesRow.holds Try.pinned (OpenSpec.ofChange weaveClassesWrong)

/-- 'lineallaw03.WeaveShares': WHATEVER THE INPUT: true; the input reads as it did. -/
def weaveSharesSpec : ChangeSpec := { name := "weaveShares", fn := fun _ => fun
  | [d1, d2, d3] => { results := [.lit (.bool true)], args := [d1, d2, d3] }
  | _ => none }
def weaveSharesRow : OpenClaim := { program := "ytddnpooffcjhnaa", sum := "6e60dba5f3b2e5a7f9add2574d4ee5507448c4f14f3321bfcd1df89fe58b9ac0", func := "lineal/lineallaw03.WeaveShares", spec := "weaveShares", unfollowed := true, recurses := true, plainKeys := false, apart := false }
def WeaveSharesSaid : Prop := weaveSharesRow.holds Try.pinned (OpenSpec.ofChange weaveSharesSpec)

/-- ITS FALSE NEIGHBOUR: 'it returns false'. Refute it at one input. -/
def weaveSharesWrong : ChangeSpec := { name := "weaveShares", fn := fun _ => fun
  | [d1, d2, d3] => { results := [.lit (.bool false)], args := [d1, d2, d3] }
  | _ => none }
def WeaveSharesWrongFalsely : Prop := weaveSharesRow.holds Try.pinned (OpenSpec.ofChange weaveSharesWrong)

/-- 'lineallaw03.WeaveRests': WHATEVER THE INPUT: true; the input reads as it did. -/
def weaveRestsSpec : ChangeSpec := { name := "weaveRests", fn := fun _ => fun
  | [d1, d2, d3] => { results := [.lit (.bool true)], args := [d1, d2, d3] }
  | _ => none }
def weaveRestsRow : OpenClaim := { program := "ytddnpooffcjhnaa", sum := "6e60dba5f3b2e5a7f9add2574d4ee5507448c4f14f3321bfcd1df89fe58b9ac0", func := "lineal/lineallaw03.WeaveRests", spec := "weaveRests", unfollowed := true, recurses := true, plainKeys := false, apart := false }
def WeaveRestsSaid : Prop := weaveRestsRow.holds Try.pinned (OpenSpec.ofChange weaveRestsSpec)

/-- ITS FALSE NEIGHBOUR: 'it returns false'. Refute it at one input. -/
def weaveRestsWrong : ChangeSpec := { name := "weaveRests", fn := fun _ => fun
  | [d1, d2, d3] => { results := [.lit (.bool false)], args := [d1, d2, d3] }
  | _ => none }
def WeaveRestsWrongFalsely : Prop := weaveRestsRow.holds Try.pinned (OpenSpec.ofChange weaveRestsWrong)

/-- 'lineallaw03.WeaveBegins': WHATEVER THE INPUT: true; the input reads as it did. -/
def weaveBeginsSpec : ChangeSpec := { name := "weaveBegins", fn := fun _ => fun
  | [d1, d2, d3, d4] => { results := [.lit (.bool true)], args := [d1, d2, d3, d4] }
  | _ => none }
def weaveBeginsRow : OpenClaim := { program := "ytddnpooffcjhnaa", sum := "6e60dba5f3b2e5a7f9add2574d4ee5507448c4f14f3321bfcd1df89fe58b9ac0", func := "lineal/lineallaw03.WeaveBegins", spec := "weaveBegins", unfollowed := true, recurses := true, plainKeys := false, apart := false }
def WeaveBeginsSaid : Prop := weaveBeginsRow.holds Try.pinned (OpenSpec.ofChange weaveBeginsSpec)

/-- ITS FALSE NEIGHBOUR: 'it returns false'. Refute it at one input. -/
def weaveBeginsWrong : ChangeSpec := { name := "weaveBegins", fn := fun _ => fun
  | [d1, d2, d3, d4] => { results := [.lit (.bool false)], args := [d1, d2, d3, d4] }
  | _ => none }
def WeaveBeginsWrongFalsely : Prop := weaveBeginsRow.holds Try.pinned (OpenSpec.ofChange weaveBeginsWrong)

/-- 'lineallaw03.WeaveMeets': WHATEVER THE INPUT: true; the input reads as it did. -/
def weaveMeetsSpec : ChangeSpec := { name := "weaveMeets", fn := fun _ => fun
  | [d1, d2, d3, d4] => { results := [.lit (.bool true)], args := [d1, d2, d3, d4] }
  | _ => none }
def weaveMeetsRow : OpenClaim := { program := "ytddnpooffcjhnaa", sum := "6e60dba5f3b2e5a7f9add2574d4ee5507448c4f14f3321bfcd1df89fe58b9ac0", func := "lineal/lineallaw03.WeaveMeets", spec := "weaveMeets", unfollowed := true, recurses := true, plainKeys := false, apart := false }
def WeaveMeetsSaid : Prop := weaveMeetsRow.holds Try.pinned (OpenSpec.ofChange weaveMeetsSpec)

/-- ITS FALSE NEIGHBOUR: 'it returns false'. Refute it at one input. -/
def weaveMeetsWrong : ChangeSpec := { name := "weaveMeets", fn := fun _ => fun
  | [d1, d2, d3, d4] => { results := [.lit (.bool false)], args := [d1, d2, d3, d4] }
  | _ => none }
def WeaveMeetsWrongFalsely : Prop := weaveMeetsRow.holds Try.pinned (OpenSpec.ofChange weaveMeetsWrong)

/-- 'lineallaw03.WeaveExchanges': WHATEVER THE INPUT: true; the input reads as it did. -/
def weaveExchangesSpec : ChangeSpec := { name := "weaveExchanges", fn := fun _ => fun
  | [d1, d2, d3, d4, d5] => { results := [.lit (.bool true)], args := [d1, d2, d3, d4, d5] }
  | _ => none }
def weaveExchangesRow : OpenClaim := { program := "ytddnpooffcjhnaa", sum := "6e60dba5f3b2e5a7f9add2574d4ee5507448c4f14f3321bfcd1df89fe58b9ac0", func := "lineal/lineallaw03.WeaveExchanges", spec := "weaveExchanges", unfollowed := true, recurses := true, plainKeys := false, apart := false }
def WeaveExchangesSaid : Prop := weaveExchangesRow.holds Try.pinned (OpenSpec.ofChange weaveExchangesSpec)

/-- ITS FALSE NEIGHBOUR: 'it returns false'. Refute it at one input. -/
def weaveExchangesWrong : ChangeSpec := { name := "weaveExchanges", fn := fun _ => fun
  | [d1, d2, d3, d4, d5] => { results := [.lit (.bool false)], args := [d1, d2, d3, d4, d5] }
  | _ => none }
def WeaveExchangesWrongFalsely : Prop := weaveExchangesRow.holds Try.pinned (OpenSpec.ofChange weaveExchangesWrong)

/-- 'lineallaw03.WeavePaths': WHATEVER THE INPUT: true; the input reads as it did. -/
def weavePathsSpec : ChangeSpec := { name := "weavePaths", fn := fun _ => fun
  | [d1, d2, d3, d4] => { results := [.lit (.bool true)], args := [d1, d2, d3, d4] }
  | _ => none }
def weavePathsRow : OpenClaim := { program := "ytddnpooffcjhnaa", sum := "6e60dba5f3b2e5a7f9add2574d4ee5507448c4f14f3321bfcd1df89fe58b9ac0", func := "lineal/lineallaw03.WeavePaths", spec := "weavePaths", unfollowed := true, recurses := true, plainKeys := false, apart := false }
def WeavePathsSaid : Prop := weavePathsRow.holds Try.pinned (OpenSpec.ofChange weavePathsSpec)

/-- ITS FALSE NEIGHBOUR: 'it returns false'. Refute it at one input. -/
def weavePathsWrong : ChangeSpec := { name := "weavePaths", fn := fun _ => fun
  | [d1, d2, d3, d4] => { results := [.lit (.bool false)], args := [d1, d2, d3, d4] }
  | _ => none }
def WeavePathsWrongFalsely : Prop := weavePathsRow.holds Try.pinned (OpenSpec.ofChange weavePathsWrong)

/-- 'lineallaw03.WeaveLeads': WHATEVER THE INPUT: true; the input reads as it did. -/
def weaveLeadsSpec : ChangeSpec := { name := "weaveLeads", fn := fun _ => fun
  | [d1, d2, d3, d4] => { results := [.lit (.bool true)], args := [d1, d2, d3, d4] }
  | _ => none }
def weaveLeadsRow : OpenClaim := { program := "ytddnpooffcjhnaa", sum := "6e60dba5f3b2e5a7f9add2574d4ee5507448c4f14f3321bfcd1df89fe58b9ac0", func := "lineal/lineallaw03.WeaveLeads", spec := "weaveLeads", unfollowed := true, recurses := true, plainKeys := false, apart := false }
def WeaveLeadsSaid : Prop := weaveLeadsRow.holds Try.pinned (OpenSpec.ofChange weaveLeadsSpec)

/-- ITS FALSE NEIGHBOUR: 'it returns false'. Refute it at one input. -/
def weaveLeadsWrong : ChangeSpec := { name := "weaveLeads", fn := fun _ => fun
  | [d1, d2, d3, d4] => { results := [.lit (.bool false)], args := [d1, d2, d3, d4] }
  | _ => none }
def WeaveLeadsWrongFalsely : Prop := weaveLeadsRow.holds Try.pinned (OpenSpec.ofChange weaveLeadsWrong)

/-- 'lineallaw03.WeaveSizes': WHATEVER THE INPUT: true; the input reads as it did. -/
def weaveSizesSpec : ChangeSpec := { name := "weaveSizes", fn := fun _ => fun
  | [d1, d2, d3] => { results := [.lit (.bool true)], args := [d1, d2, d3] }
  | _ => none }
def weaveSizesRow : OpenClaim := { program := "ytddnpooffcjhnaa", sum := "6e60dba5f3b2e5a7f9add2574d4ee5507448c4f14f3321bfcd1df89fe58b9ac0", func := "lineal/lineallaw03.WeaveSizes", spec := "weaveSizes", unfollowed := true, recurses := true, plainKeys := false, apart := false }
def WeaveSizesSaid : Prop := weaveSizesRow.holds Try.pinned (OpenSpec.ofChange weaveSizesSpec)

/-- ITS FALSE NEIGHBOUR: 'it returns false'. Refute it at one input. -/
def weaveSizesWrong : ChangeSpec := { name := "weaveSizes", fn := fun _ => fun
  | [d1, d2, d3] => { results := [.lit (.bool false)], args := [d1, d2, d3] }
  | _ => none }
def WeaveSizesWrongFalsely : Prop := weaveSizesRow.holds Try.pinned (OpenSpec.ofChange weaveSizesWrong)

/-- 'lineallaw03.WeaveLayers': WHATEVER THE INPUT: true; the input reads as it did. -/
def weaveLayersSpec : ChangeSpec := { name := "weaveLayers", fn := fun _ => fun
  | [d1, d2] => { results := [.lit (.bool true)], args := [d1, d2] }
  | _ => none }
def weaveLayersRow : OpenClaim := { program := "ytddnpooffcjhnaa", sum := "6e60dba5f3b2e5a7f9add2574d4ee5507448c4f14f3321bfcd1df89fe58b9ac0", func := "lineal/lineallaw03.WeaveLayers", spec := "weaveLayers", unfollowed := true, recurses := true, plainKeys := false, apart := false }
def WeaveLayersSaid : Prop := weaveLayersRow.holds Try.pinned (OpenSpec.ofChange weaveLayersSpec)

/-- ITS FALSE NEIGHBOUR: 'it returns false'. Refute it at one input. -/
def weaveLayersWrong : ChangeSpec := { name := "weaveLayers", fn := fun _ => fun
  | [d1, d2] => { results := [.lit (.bool false)], args := [d1, d2] }
  | _ => none }
def WeaveLayersWrongFalsely : Prop := weaveLayersRow.holds Try.pinned (OpenSpec.ofChange weaveLayersWrong)

/-- 'lineallaw03.WeaveForms': WHATEVER THE INPUT: true; the input reads as it did. -/
def weaveFormsSpec : ChangeSpec := { name := "weaveForms", fn := fun _ => fun
  | [d1, d2] => { results := [.lit (.bool true)], args := [d1, d2] }
  | _ => none }
def weaveFormsRow : OpenClaim := { program := "ytddnpooffcjhnaa", sum := "6e60dba5f3b2e5a7f9add2574d4ee5507448c4f14f3321bfcd1df89fe58b9ac0", func := "lineal/lineallaw03.WeaveForms", spec := "weaveForms", unfollowed := true, recurses := true, plainKeys := false, apart := false }
def WeaveFormsSaid : Prop := weaveFormsRow.holds Try.pinned (OpenSpec.ofChange weaveFormsSpec)

/-- ITS FALSE NEIGHBOUR: 'it returns false'. Refute it at one input. -/
def weaveFormsWrong : ChangeSpec := { name := "weaveForms", fn := fun _ => fun
  | [d1, d2] => { results := [.lit (.bool false)], args := [d1, d2] }
  | _ => none }
def WeaveFormsWrongFalsely : Prop := weaveFormsRow.holds Try.pinned (OpenSpec.ofChange weaveFormsWrong)

/-- 'lineallaw03.WeaveTells': WHATEVER THE INPUT: true; the input reads as it did. -/
def weaveTellsSpec : ChangeSpec := { name := "weaveTells", fn := fun _ => fun
  | [d1, d2, d3] => { results := [.lit (.bool true)], args := [d1, d2, d3] }
  | _ => none }
def weaveTellsRow : OpenClaim := { program := "ytddnpooffcjhnaa", sum := "6e60dba5f3b2e5a7f9add2574d4ee5507448c4f14f3321bfcd1df89fe58b9ac0", func := "lineal/lineallaw03.WeaveTells", spec := "weaveTells", unfollowed := true, recurses := true, plainKeys := false, apart := false }
def WeaveTellsSaid : Prop := weaveTellsRow.holds Try.pinned (OpenSpec.ofChange weaveTellsSpec)

/-- ITS FALSE NEIGHBOUR: 'it returns false'. Refute it at one input. -/
def weaveTellsWrong : ChangeSpec := { name := "weaveTells", fn := fun _ => fun
  | [d1, d2, d3] => { results := [.lit (.bool false)], args := [d1, d2, d3] }
  | _ => none }
def WeaveTellsWrongFalsely : Prop := weaveTellsRow.holds Try.pinned (OpenSpec.ofChange weaveTellsWrong)

/-- 'linealtop.TopWeave': WHATEVER THE INPUT: true; the input reads as it did. -/
def topWeaveSpec : ChangeSpec := { name := "topWeave", fn := fun _ => fun
  | [d1, d2, d3, d4] => { results := [.lit (.bool true)], args := [d1, d2, d3, d4] }
  | _ => none }
def topWeaveRow : OpenClaim := { program := "ytddnpooffcjhnaa", sum := "6e60dba5f3b2e5a7f9add2574d4ee5507448c4f14f3321bfcd1df89fe58b9ac0", func := "lineal/linealtop.TopWeave", spec := "topWeave", unfollowed := true, recurses := true, plainKeys := false, apart := false }
def TopWeaveSaid : Prop := topWeaveRow.holds Try.pinned (OpenSpec.ofChange topWeaveSpec)

/-- ITS FALSE NEIGHBOUR: 'it returns false'. Refute it at one input. -/
def topWeaveWrong : ChangeSpec := { name := "topWeave", fn := fun _ => fun
  | [d1, d2, d3, d4] => { results := [.lit (.bool false)], args := [d1, d2, d3, d4] }
  | _ => none }
def TopWeaveWrongFalsely : Prop := topWeaveRow.holds Try.pinned (OpenSpec.ofChange topWeaveWrong)

/- THE SECOND FORM. 'bulk': how many values and letters a reading holds, each counted each time it is reached (what is shared counts as often as it is met; a slice's spare places count too). A statement '..UptoSaid' is the law's where the arguments, and the package variables that the reading takes, are together of bulk at most 1048576: NARROWER than '..Said'. Prove '..Said' where nothing that the law and all that it calls make is longer than what came in: it says more and counts as full. Else prove '..UptoSaid'. A law counts once. -/
mutual
def uptoBulk {H : Type} : DataW H → Nat
  | .lit (.string bytes) => bytes.length + 1
  | .lit _ => 1
  | .nil => 1
  | .ptr d => uptoBulk d + 1
  | .slice elems spare => uptoBulkAll elems + uptoBulkAll spare + 1
  | .agg parts => uptoBulkAll parts + 1
  | .iface _ d => uptoBulk d + 1
  | .map entries => uptoBulkEntries entries + 1
  | .held _ => 1
def uptoBulkAll {H : Type} : List (DataW H) → Nat
  | [] => 0
  | d :: r => uptoBulk d + uptoBulkAll r
def uptoBulkEntries {H : Type} : List (Lit × DataW H) → Nat
  | [] => 0
  | x :: r => uptoBulkEntry x + uptoBulkEntries r
def uptoBulkEntry {H : Type} : Lit × DataW H → Nat
  | (.string bytes, d) => bytes.length + uptoBulk d + 1
  | (_, d) => uptoBulk d + 1
 end
def uptoSmall : (H : Type) → List (DataW H) → Bool := fun _ ds => decide (uptoBulkAll ds ≤ 1048576)
def OpenSpec.upto (s : _root_.Go.ChangeSpec) : _root_.Go.OpenSpec := { _root_.Go.OpenSpec.ofChange s with cond := some uptoSmall }

/-- 'lineallaw03.WeaveClasses', WHERE WHAT IT READS IS OF BULK AT MOST 1048576: true; the input reads as it did. -/
def weaveClassesUptoRow : OpenClaim := { program := "ytddnpooffcjhnaa", sum := "6e60dba5f3b2e5a7f9add2574d4ee5507448c4f14f3321bfcd1df89fe58b9ac0", func := "lineal/lineallaw03.WeaveClasses", spec := "weaveClasses", unfollowed := true, recurses := true, plainKeys := false, apart := false, narrowed := true }
def WeaveClassesUptoSaid : Prop := weaveClassesUptoRow.holds Try.pinned (OpenSpec.upto weaveClassesSpec)

/-- 'lineallaw03.WeaveShares', WHERE WHAT IT READS IS OF BULK AT MOST 1048576: true; the input reads as it did. -/
def weaveSharesUptoRow : OpenClaim := { program := "ytddnpooffcjhnaa", sum := "6e60dba5f3b2e5a7f9add2574d4ee5507448c4f14f3321bfcd1df89fe58b9ac0", func := "lineal/lineallaw03.WeaveShares", spec := "weaveShares", unfollowed := true, recurses := true, plainKeys := false, apart := false, narrowed := true }
def WeaveSharesUptoSaid : Prop := weaveSharesUptoRow.holds Try.pinned (OpenSpec.upto weaveSharesSpec)

/-- 'lineallaw03.WeaveRests', WHERE WHAT IT READS IS OF BULK AT MOST 1048576: true; the input reads as it did. -/
def weaveRestsUptoRow : OpenClaim := { program := "ytddnpooffcjhnaa", sum := "6e60dba5f3b2e5a7f9add2574d4ee5507448c4f14f3321bfcd1df89fe58b9ac0", func := "lineal/lineallaw03.WeaveRests", spec := "weaveRests", unfollowed := true, recurses := true, plainKeys := false, apart := false, narrowed := true }
def WeaveRestsUptoSaid : Prop := weaveRestsUptoRow.holds Try.pinned (OpenSpec.upto weaveRestsSpec)

/-- 'lineallaw03.WeaveBegins', WHERE WHAT IT READS IS OF BULK AT MOST 1048576: true; the input reads as it did. -/
def weaveBeginsUptoRow : OpenClaim := { program := "ytddnpooffcjhnaa", sum := "6e60dba5f3b2e5a7f9add2574d4ee5507448c4f14f3321bfcd1df89fe58b9ac0", func := "lineal/lineallaw03.WeaveBegins", spec := "weaveBegins", unfollowed := true, recurses := true, plainKeys := false, apart := false, narrowed := true }
def WeaveBeginsUptoSaid : Prop := weaveBeginsUptoRow.holds Try.pinned (OpenSpec.upto weaveBeginsSpec)

/-- 'lineallaw03.WeaveMeets', WHERE WHAT IT READS IS OF BULK AT MOST 1048576: true; the input reads as it did. -/
def weaveMeetsUptoRow : OpenClaim := { program := "ytddnpooffcjhnaa", sum := "6e60dba5f3b2e5a7f9add2574d4ee5507448c4f14f3321bfcd1df89fe58b9ac0", func := "lineal/lineallaw03.WeaveMeets", spec := "weaveMeets", unfollowed := true, recurses := true, plainKeys := false, apart := false, narrowed := true }
def WeaveMeetsUptoSaid : Prop := weaveMeetsUptoRow.holds Try.pinned (OpenSpec.upto weaveMeetsSpec)

/-- 'lineallaw03.WeaveExchanges', WHERE WHAT IT READS IS OF BULK AT MOST 1048576: true; the input reads as it did. -/
def weaveExchangesUptoRow : OpenClaim := { program := "ytddnpooffcjhnaa", sum := "6e60dba5f3b2e5a7f9add2574d4ee5507448c4f14f3321bfcd1df89fe58b9ac0", func := "lineal/lineallaw03.WeaveExchanges", spec := "weaveExchanges", unfollowed := true, recurses := true, plainKeys := false, apart := false, narrowed := true }
def WeaveExchangesUptoSaid : Prop := weaveExchangesUptoRow.holds Try.pinned (OpenSpec.upto weaveExchangesSpec)

/-- 'lineallaw03.WeavePaths', WHERE WHAT IT READS IS OF BULK AT MOST 1048576: true; the input reads as it did. -/
def weavePathsUptoRow : OpenClaim := { program := "ytddnpooffcjhnaa", sum := "6e60dba5f3b2e5a7f9add2574d4ee5507448c4f14f3321bfcd1df89fe58b9ac0", func := "lineal/lineallaw03.WeavePaths", spec := "weavePaths", unfollowed := true, recurses := true, plainKeys := false, apart := false, narrowed := true }
def WeavePathsUptoSaid : Prop := weavePathsUptoRow.holds Try.pinned (OpenSpec.upto weavePathsSpec)

/-- 'lineallaw03.WeaveLeads', WHERE WHAT IT READS IS OF BULK AT MOST 1048576: true; the input reads as it did. -/
def weaveLeadsUptoRow : OpenClaim := { program := "ytddnpooffcjhnaa", sum := "6e60dba5f3b2e5a7f9add2574d4ee5507448c4f14f3321bfcd1df89fe58b9ac0", func := "lineal/lineallaw03.WeaveLeads", spec := "weaveLeads", unfollowed := true, recurses := true, plainKeys := false, apart := false, narrowed := true }
def WeaveLeadsUptoSaid : Prop := weaveLeadsUptoRow.holds Try.pinned (OpenSpec.upto weaveLeadsSpec)

/-- 'lineallaw03.WeaveSizes', WHERE WHAT IT READS IS OF BULK AT MOST 1048576: true; the input reads as it did. -/
def weaveSizesUptoRow : OpenClaim := { program := "ytddnpooffcjhnaa", sum := "6e60dba5f3b2e5a7f9add2574d4ee5507448c4f14f3321bfcd1df89fe58b9ac0", func := "lineal/lineallaw03.WeaveSizes", spec := "weaveSizes", unfollowed := true, recurses := true, plainKeys := false, apart := false, narrowed := true }
def WeaveSizesUptoSaid : Prop := weaveSizesUptoRow.holds Try.pinned (OpenSpec.upto weaveSizesSpec)

/-- 'lineallaw03.WeaveLayers', WHERE WHAT IT READS IS OF BULK AT MOST 1048576: true; the input reads as it did. -/
def weaveLayersUptoRow : OpenClaim := { program := "ytddnpooffcjhnaa", sum := "6e60dba5f3b2e5a7f9add2574d4ee5507448c4f14f3321bfcd1df89fe58b9ac0", func := "lineal/lineallaw03.WeaveLayers", spec := "weaveLayers", unfollowed := true, recurses := true, plainKeys := false, apart := false, narrowed := true }
def WeaveLayersUptoSaid : Prop := weaveLayersUptoRow.holds Try.pinned (OpenSpec.upto weaveLayersSpec)

/-- 'lineallaw03.WeaveForms', WHERE WHAT IT READS IS OF BULK AT MOST 1048576: true; the input reads as it did. -/
def weaveFormsUptoRow : OpenClaim := { program := "ytddnpooffcjhnaa", sum := "6e60dba5f3b2e5a7f9add2574d4ee5507448c4f14f3321bfcd1df89fe58b9ac0", func := "lineal/lineallaw03.WeaveForms", spec := "weaveForms", unfollowed := true, recurses := true, plainKeys := false, apart := false, narrowed := true }
def WeaveFormsUptoSaid : Prop := weaveFormsUptoRow.holds Try.pinned (OpenSpec.upto weaveFormsSpec)

/-- 'lineallaw03.WeaveTells', WHERE WHAT IT READS IS OF BULK AT MOST 1048576: true; the input reads as it did. -/
def weaveTellsUptoRow : OpenClaim := { program := "ytddnpooffcjhnaa", sum := "6e60dba5f3b2e5a7f9add2574d4ee5507448c4f14f3321bfcd1df89fe58b9ac0", func := "lineal/lineallaw03.WeaveTells", spec := "weaveTells", unfollowed := true, recurses := true, plainKeys := false, apart := false, narrowed := true }
def WeaveTellsUptoSaid : Prop := weaveTellsUptoRow.holds Try.pinned (OpenSpec.upto weaveTellsSpec)

/-- 'linealtop.TopWeave', WHERE WHAT IT READS IS OF BULK AT MOST 1048576: true; the input reads as it did. -/
def topWeaveUptoRow : OpenClaim := { program := "ytddnpooffcjhnaa", sum := "6e60dba5f3b2e5a7f9add2574d4ee5507448c4f14f3321bfcd1df89fe58b9ac0", func := "lineal/linealtop.TopWeave", spec := "topWeave", unfollowed := true, recurses := true, plainKeys := false, apart := false, narrowed := true }
def TopWeaveUptoSaid : Prop := topWeaveUptoRow.holds Try.pinned (OpenSpec.upto topWeaveSpec)

end Rows
end Go.Proofs.Ytddnpooffcjhnaa
