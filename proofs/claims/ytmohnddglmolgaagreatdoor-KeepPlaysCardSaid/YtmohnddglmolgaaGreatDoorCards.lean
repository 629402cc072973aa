/-
  DERIVED. GIVEN WITH THE SEED: THE CARDS: each row of YtmohnddglmolgaaGreatDoorRows.lean that lists a variable, with what it lists TIED to the program's text (the seventh form; the later family's looks); each row that meets fmt, with fmt's text TOLD by the authors' own Lean function (tested against real Go, not proved from fmt's source: count such statements apart). THE CARD IS WHAT COUNTS. Prove the row's statement (the work); the ties are given (YtmohnddglmolgaaGreatDoorTie.lean); close each card by the builder's one call (the guide's Derived/Test/ToyasCard.lean, 'card_holds'). Laid BY PROGRAM, IN A SANDBOX (cutbox-door.mjs). By AI agents, Wed Nov 11 2026. No macro, syntax, notation, axiom, sorry.
-/
import Derived.Test.YtmohnddglmolgaaGreatDoorRows
import GoSem.ClaimSeven
namespace Go.Proofs.YtmohnddglmolgaaGreatDoor
namespace Rows

/-- THE TIED CARD OF 'lineallaw10.KeepPlays'. -/
def keepPlaysCard : Claim7 := { stood := { row := keepPlaysRow, standIns := [], harness := (true, "13a7fc00212499885419e959c444dd2845884ab61455e06ced9475da32646069"), looks := true }, kinds := [], alts := [], laidByText := true, laidKinds := [.data, .data, .data, .data, .sentinel, .sentinel, .pinned], laidTests := true, laidLooks := .later }
def KeepPlaysCardSaid : Prop := Claim7.holds Tryz.pinned (.plain (OpenSpec.ofChange keepPlaysSpec)) keepPlaysCard

/-- THE TIED CARD OF 'lineallaw10.KeepAllOrNothing'. -/
def keepAllOrNothingCard : Claim7 := { stood := { row := keepAllOrNothingRow, standIns := [], harness := (true, "13a7fc00212499885419e959c444dd2845884ab61455e06ced9475da32646069"), looks := true }, kinds := [], alts := [], laidByText := true, laidKinds := [.data, .data, .data, .data, .sentinel, .sentinel, .pinned], laidTests := true, laidLooks := .later }
def KeepAllOrNothingCardSaid : Prop := Claim7.holds Tryz.pinned (.plain (OpenSpec.ofChange keepAllOrNothingSpec)) keepAllOrNothingCard

/-- THE TIED CARD OF 'lineallaw10.KeepCounts'. -/
def keepCountsCard : Claim7 := { stood := { row := keepCountsRow, standIns := [], harness := (true, "13a7fc00212499885419e959c444dd2845884ab61455e06ced9475da32646069"), looks := true }, kinds := [], alts := [], laidByText := true, laidKinds := [.data, .data, .data, .data, .sentinel, .sentinel, .pinned], laidTests := true, laidLooks := .later }
def KeepCountsCardSaid : Prop := Claim7.holds Tryz.pinned (.plain (OpenSpec.ofChange keepCountsSpec)) keepCountsCard

/-- THE TIED CARD OF 'lineallaw10.KeepStays'. -/
def keepStaysCard : Claim7 := { stood := { row := keepStaysRow, standIns := [], harness := (true, "13a7fc00212499885419e959c444dd2845884ab61455e06ced9475da32646069"), looks := true }, kinds := [], alts := [], laidByText := true, laidKinds := [.data, .data, .data, .data, .sentinel, .sentinel, .pinned], laidTests := true, laidLooks := .later }
def KeepStaysCardSaid : Prop := Claim7.holds Tryz.pinned (.plain (OpenSpec.ofChange keepStaysSpec)) keepStaysCard

/-- THE TIED CARD OF 'lineallaw10.KeepCopies'. -/
def keepCopiesCard : Claim7 := { stood := { row := keepCopiesRow, standIns := [], harness := (true, "13a7fc00212499885419e959c444dd2845884ab61455e06ced9475da32646069"), looks := true }, kinds := [], alts := [], laidByText := true, laidKinds := [.data, .data, .data, .data, .sentinel, .sentinel, .pinned], laidTests := true, laidLooks := .later }
def KeepCopiesCardSaid : Prop := Claim7.holds Tryz.pinned (.plain (OpenSpec.ofChange keepCopiesSpec)) keepCopiesCard

/-- THE TIED CARD OF 'lineallaw10.KeepSteps'. -/
def keepStepsCard : Claim7 := { stood := { row := keepStepsRow, standIns := [], harness := (true, "13a7fc00212499885419e959c444dd2845884ab61455e06ced9475da32646069"), looks := true }, kinds := [], alts := [], laidByText := true, laidKinds := [.data, .data, .data, .data, .sentinel, .sentinel, .pinned], laidTests := true, laidLooks := .later }
def KeepStepsCardSaid : Prop := Claim7.holds Tryz.pinned (.plain (OpenSpec.ofChange keepStepsSpec)) keepStepsCard

/-- THE TIED CARD OF 'lineallaw10.KeepNils'. -/
def keepNilsCard : Claim7 := { stood := { row := keepNilsRow, standIns := [], harness := (true, "13a7fc00212499885419e959c444dd2845884ab61455e06ced9475da32646069"), looks := true }, kinds := [], alts := [], laidByText := true, laidKinds := [.data, .data, .data, .data, .sentinel, .sentinel, .pinned], laidTests := true, laidLooks := .later }
def KeepNilsCardSaid : Prop := Claim7.holds Tryz.pinned (.plain (OpenSpec.ofChange keepNilsSpec)) keepNilsCard

/-- THE TIED CARD OF 'linealtop.TopKeep'. -/
def topKeepCard : Claim7 := { stood := { row := topKeepRow, standIns := [], harness := (true, "13a7fc00212499885419e959c444dd2845884ab61455e06ced9475da32646069"), looks := true }, kinds := [], alts := [], laidByText := true, laidKinds := [.data, .data, .data, .data, .sentinel, .sentinel, .pinned], laidTests := true, laidLooks := .later }
def TopKeepCardSaid : Prop := Claim7.holds Tryz.pinned (.plain (OpenSpec.ofChange topKeepSpec)) topKeepCard

/-- THE SECOND FORM's CARD OF 'lineallaw10.KeepPlays'. -/
def keepPlaysUptoCard : Claim7 := { stood := { row := keepPlaysUptoRow, standIns := [], harness := (true, "13a7fc00212499885419e959c444dd2845884ab61455e06ced9475da32646069"), looks := true }, kinds := [], alts := [], laidByText := true, laidKinds := [.data, .data, .data, .data, .sentinel, .sentinel, .pinned], laidTests := true, laidLooks := .later }
def KeepPlaysUptoCardSaid : Prop := Claim7.holds Tryz.pinned (.plain (OpenSpec.upto keepPlaysSpec)) keepPlaysUptoCard

/-- THE SECOND FORM's CARD OF 'lineallaw10.KeepAllOrNothing'. -/
def keepAllOrNothingUptoCard : Claim7 := { stood := { row := keepAllOrNothingUptoRow, standIns := [], harness := (true, "13a7fc00212499885419e959c444dd2845884ab61455e06ced9475da32646069"), looks := true }, kinds := [], alts := [], laidByText := true, laidKinds := [.data, .data, .data, .data, .sentinel, .sentinel, .pinned], laidTests := true, laidLooks := .later }
def KeepAllOrNothingUptoCardSaid : Prop := Claim7.holds Tryz.pinned (.plain (OpenSpec.upto keepAllOrNothingSpec)) keepAllOrNothingUptoCard

/-- THE SECOND FORM's CARD OF 'lineallaw10.KeepCounts'. -/
def keepCountsUptoCard : Claim7 := { stood := { row := keepCountsUptoRow, standIns := [], harness := (true, "13a7fc00212499885419e959c444dd2845884ab61455e06ced9475da32646069"), looks := true }, kinds := [], alts := [], laidByText := true, laidKinds := [.data, .data, .data, .data, .sentinel, .sentinel, .pinned], laidTests := true, laidLooks := .later }
def KeepCountsUptoCardSaid : Prop := Claim7.holds Tryz.pinned (.plain (OpenSpec.upto keepCountsSpec)) keepCountsUptoCard

/-- THE SECOND FORM's CARD OF 'lineallaw10.KeepStays'. -/
def keepStaysUptoCard : Claim7 := { stood := { row := keepStaysUptoRow, standIns := [], harness := (true, "13a7fc00212499885419e959c444dd2845884ab61455e06ced9475da32646069"), looks := true }, kinds := [], alts := [], laidByText := true, laidKinds := [.data, .data, .data, .data, .sentinel, .sentinel, .pinned], laidTests := true, laidLooks := .later }
def KeepStaysUptoCardSaid : Prop := Claim7.holds Tryz.pinned (.plain (OpenSpec.upto keepStaysSpec)) keepStaysUptoCard

/-- THE SECOND FORM's CARD OF 'lineallaw10.KeepCopies'. -/
def keepCopiesUptoCard : Claim7 := { stood := { row := keepCopiesUptoRow, standIns := [], harness := (true, "13a7fc00212499885419e959c444dd2845884ab61455e06ced9475da32646069"), looks := true }, kinds := [], alts := [], laidByText := true, laidKinds := [.data, .data, .data, .data, .sentinel, .sentinel, .pinned], laidTests := true, laidLooks := .later }
def KeepCopiesUptoCardSaid : Prop := Claim7.holds Tryz.pinned (.plain (OpenSpec.upto keepCopiesSpec)) keepCopiesUptoCard

/-- THE SECOND FORM's CARD OF 'lineallaw10.KeepSteps'. -/
def keepStepsUptoCard : Claim7 := { stood := { row := keepStepsUptoRow, standIns := [], harness := (true, "13a7fc00212499885419e959c444dd2845884ab61455e06ced9475da32646069"), looks := true }, kinds := [], alts := [], laidByText := true, laidKinds := [.data, .data, .data, .data, .sentinel, .sentinel, .pinned], laidTests := true, laidLooks := .later }
def KeepStepsUptoCardSaid : Prop := Claim7.holds Tryz.pinned (.plain (OpenSpec.upto keepStepsSpec)) keepStepsUptoCard

/-- THE SECOND FORM's CARD OF 'lineallaw10.KeepNils'. -/
def keepNilsUptoCard : Claim7 := { stood := { row := keepNilsUptoRow, standIns := [], harness := (true, "13a7fc00212499885419e959c444dd2845884ab61455e06ced9475da32646069"), looks := true }, kinds := [], alts := [], laidByText := true, laidKinds := [.data, .data, .data, .data, .sentinel, .sentinel, .pinned], laidTests := true, laidLooks := .later }
def KeepNilsUptoCardSaid : Prop := Claim7.holds Tryz.pinned (.plain (OpenSpec.upto keepNilsSpec)) keepNilsUptoCard

/-- THE SECOND FORM's CARD OF 'linealtop.TopKeep'. -/
def topKeepUptoCard : Claim7 := { stood := { row := topKeepUptoRow, standIns := [], harness := (true, "13a7fc00212499885419e959c444dd2845884ab61455e06ced9475da32646069"), looks := true }, kinds := [], alts := [], laidByText := true, laidKinds := [.data, .data, .data, .data, .sentinel, .sentinel, .pinned], laidTests := true, laidLooks := .later }
def TopKeepUptoCardSaid : Prop := Claim7.holds Tryz.pinned (.plain (OpenSpec.upto topKeepSpec)) topKeepUptoCard
end Rows
end Go.Proofs.YtmohnddglmolgaaGreatDoor
