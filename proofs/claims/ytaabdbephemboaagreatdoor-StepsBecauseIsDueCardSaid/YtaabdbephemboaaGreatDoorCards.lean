/-
  DERIVED. GIVEN WITH THE SEED: THE CARDS: each row of YtaabdbephemboaaGreatDoorRows.lean that lists a variable, with what it lists TIED to the program's text (the seventh form; the later family's looks); each row that meets fmt, with fmt's text TOLD by the authors' own Lean function (tested against real Go, not proved from fmt's source: count such statements apart). THE CARD IS WHAT COUNTS. Prove the row's statement (the work); the ties are given (YtaabdbephemboaaGreatDoorTie.lean); close each card by the builder's one call (the guide's Derived/Test/ToyasCard.lean, 'card_holds'). Laid BY PROGRAM, IN A SANDBOX (cutbox-door.mjs). By AI agents, Wed Nov 11 2026. No macro, syntax, notation, axiom, sorry.
-/
import Derived.Test.YtaabdbephemboaaGreatDoorRows
import GoSem.ClaimSeven
namespace Go.Proofs.YtaabdbephemboaaGreatDoor
namespace Rows

/-- THE TIED CARD OF 'smithyardlaw6.StepsAgainIsFresh'. -/
def stepsAgainIsFreshCard : Claim7 := { stood := { row := stepsAgainIsFreshRow, standIns := [], harness := (true, "cfc334ba468d15d1c80dff37af75158c56b9c4fd80492c2befbdbab4517ee2cc"), looks := true }, kinds := [], alts := [], laidByText := true, laidKinds := [.data, .data, .data, .data, .sentinel, .sentinel, .pinned], laidTests := true, laidLooks := .later }
def StepsAgainIsFreshCardSaid : Prop := Claim7.holds Tryz.pinned (.plain (OpenSpec.ofChange stepsAgainIsFreshSpec)) stepsAgainIsFreshCard

/-- THE TIED CARD OF 'smithyardlaw6.StepsNothingDue'. -/
def stepsNothingDueCard : Claim7 := { stood := { row := stepsNothingDueRow, standIns := [], harness := (true, "cfc334ba468d15d1c80dff37af75158c56b9c4fd80492c2befbdbab4517ee2cc"), looks := true }, kinds := [], alts := [], laidByText := true, laidKinds := [.data, .data, .data, .data, .sentinel, .sentinel, .pinned], laidTests := true, laidLooks := .later }
def StepsNothingDueCardSaid : Prop := Claim7.holds Tryz.pinned (.plain (OpenSpec.ofChange stepsNothingDueSpec)) stepsNothingDueCard

/-- THE TIED CARD OF 'smithyardlaw6.StepsEarlyStops'. -/
def stepsEarlyStopsCard : Claim7 := { stood := { row := stepsEarlyStopsRow, standIns := [], harness := (true, "cfc334ba468d15d1c80dff37af75158c56b9c4fd80492c2befbdbab4517ee2cc"), looks := true }, kinds := [], alts := [], laidByText := true, laidKinds := [.data, .data, .data, .data, .sentinel, .sentinel, .pinned], laidTests := true, laidLooks := .later }
def StepsEarlyStopsCardSaid : Prop := Claim7.holds Tryz.pinned (.plain (OpenSpec.ofChange stepsEarlyStopsSpec)) stepsEarlyStopsCard

/-- THE TIED CARD OF 'smithyardlaw6.StepsBecauseIsDue'. -/
def stepsBecauseIsDueCard : Claim7 := { stood := { row := stepsBecauseIsDueRow, standIns := [], harness := (true, "cfc334ba468d15d1c80dff37af75158c56b9c4fd80492c2befbdbab4517ee2cc"), looks := true }, kinds := [], alts := [], laidByText := true, laidKinds := [.data, .data, .data, .data, .sentinel, .sentinel, .pinned], laidTests := true, laidLooks := .later }
def StepsBecauseIsDueCardSaid : Prop := Claim7.holds Tryz.pinned (.plain (OpenSpec.ofChange stepsBecauseIsDueSpec)) stepsBecauseIsDueCard

/-- THE TIED CARD OF 'smithyardlaw6.StepsPrunedIsEnough'. -/
def stepsPrunedIsEnoughCard : Claim7 := { stood := { row := stepsPrunedIsEnoughRow, standIns := [], harness := (true, "cfc334ba468d15d1c80dff37af75158c56b9c4fd80492c2befbdbab4517ee2cc"), looks := true }, kinds := [], alts := [], laidByText := true, laidKinds := [.data, .data, .data, .data, .sentinel, .sentinel, .pinned], laidTests := true, laidLooks := .later }
def StepsPrunedIsEnoughCardSaid : Prop := Claim7.holds Tryz.pinned (.plain (OpenSpec.ofChange stepsPrunedIsEnoughSpec)) stepsPrunedIsEnoughCard

/-- THE TIED CARD OF 'smithyardlaw6.StepsDueAreSuspects'. -/
def stepsDueAreSuspectsCard : Claim7 := { stood := { row := stepsDueAreSuspectsRow, standIns := [], harness := (true, "cfc334ba468d15d1c80dff37af75158c56b9c4fd80492c2befbdbab4517ee2cc"), looks := true }, kinds := [], alts := [], laidByText := true, laidKinds := [.data, .data, .data, .data, .sentinel, .sentinel, .pinned], laidTests := true, laidLooks := .later }
def StepsDueAreSuspectsCardSaid : Prop := Claim7.holds Tryz.pinned (.plain (OpenSpec.ofChange stepsDueAreSuspectsSpec)) stepsDueAreSuspectsCard

/-- THE SECOND FORM's CARD OF 'smithyardlaw6.StepsAgainIsFresh'. -/
def stepsAgainIsFreshUptoCard : Claim7 := { stood := { row := stepsAgainIsFreshUptoRow, standIns := [], harness := (true, "cfc334ba468d15d1c80dff37af75158c56b9c4fd80492c2befbdbab4517ee2cc"), looks := true }, kinds := [], alts := [], laidByText := true, laidKinds := [.data, .data, .data, .data, .sentinel, .sentinel, .pinned], laidTests := true, laidLooks := .later }
def StepsAgainIsFreshUptoCardSaid : Prop := Claim7.holds Tryz.pinned (.plain (OpenSpec.upto stepsAgainIsFreshSpec)) stepsAgainIsFreshUptoCard

/-- THE SECOND FORM's CARD OF 'smithyardlaw6.StepsNothingDue'. -/
def stepsNothingDueUptoCard : Claim7 := { stood := { row := stepsNothingDueUptoRow, standIns := [], harness := (true, "cfc334ba468d15d1c80dff37af75158c56b9c4fd80492c2befbdbab4517ee2cc"), looks := true }, kinds := [], alts := [], laidByText := true, laidKinds := [.data, .data, .data, .data, .sentinel, .sentinel, .pinned], laidTests := true, laidLooks := .later }
def StepsNothingDueUptoCardSaid : Prop := Claim7.holds Tryz.pinned (.plain (OpenSpec.upto stepsNothingDueSpec)) stepsNothingDueUptoCard

/-- THE SECOND FORM's CARD OF 'smithyardlaw6.StepsEarlyStops'. -/
def stepsEarlyStopsUptoCard : Claim7 := { stood := { row := stepsEarlyStopsUptoRow, standIns := [], harness := (true, "cfc334ba468d15d1c80dff37af75158c56b9c4fd80492c2befbdbab4517ee2cc"), looks := true }, kinds := [], alts := [], laidByText := true, laidKinds := [.data, .data, .data, .data, .sentinel, .sentinel, .pinned], laidTests := true, laidLooks := .later }
def StepsEarlyStopsUptoCardSaid : Prop := Claim7.holds Tryz.pinned (.plain (OpenSpec.upto stepsEarlyStopsSpec)) stepsEarlyStopsUptoCard

/-- THE SECOND FORM's CARD OF 'smithyardlaw6.StepsBecauseIsDue'. -/
def stepsBecauseIsDueUptoCard : Claim7 := { stood := { row := stepsBecauseIsDueUptoRow, standIns := [], harness := (true, "cfc334ba468d15d1c80dff37af75158c56b9c4fd80492c2befbdbab4517ee2cc"), looks := true }, kinds := [], alts := [], laidByText := true, laidKinds := [.data, .data, .data, .data, .sentinel, .sentinel, .pinned], laidTests := true, laidLooks := .later }
def StepsBecauseIsDueUptoCardSaid : Prop := Claim7.holds Tryz.pinned (.plain (OpenSpec.upto stepsBecauseIsDueSpec)) stepsBecauseIsDueUptoCard

/-- THE SECOND FORM's CARD OF 'smithyardlaw6.StepsPrunedIsEnough'. -/
def stepsPrunedIsEnoughUptoCard : Claim7 := { stood := { row := stepsPrunedIsEnoughUptoRow, standIns := [], harness := (true, "cfc334ba468d15d1c80dff37af75158c56b9c4fd80492c2befbdbab4517ee2cc"), looks := true }, kinds := [], alts := [], laidByText := true, laidKinds := [.data, .data, .data, .data, .sentinel, .sentinel, .pinned], laidTests := true, laidLooks := .later }
def StepsPrunedIsEnoughUptoCardSaid : Prop := Claim7.holds Tryz.pinned (.plain (OpenSpec.upto stepsPrunedIsEnoughSpec)) stepsPrunedIsEnoughUptoCard

/-- THE SECOND FORM's CARD OF 'smithyardlaw6.StepsDueAreSuspects'. -/
def stepsDueAreSuspectsUptoCard : Claim7 := { stood := { row := stepsDueAreSuspectsUptoRow, standIns := [], harness := (true, "cfc334ba468d15d1c80dff37af75158c56b9c4fd80492c2befbdbab4517ee2cc"), looks := true }, kinds := [], alts := [], laidByText := true, laidKinds := [.data, .data, .data, .data, .sentinel, .sentinel, .pinned], laidTests := true, laidLooks := .later }
def StepsDueAreSuspectsUptoCardSaid : Prop := Claim7.holds Tryz.pinned (.plain (OpenSpec.upto stepsDueAreSuspectsSpec)) stepsDueAreSuspectsUptoCard
end Rows
end Go.Proofs.YtaabdbephemboaaGreatDoor
