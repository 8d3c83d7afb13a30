/-
  DERIVED. GIVEN WITH THE SEED: THE CARDS: each row of YtkdogcpgbogkhaaGreatDoorRows.lean that lists a variable, with what it lists TIED to the program's text (the seventh form; the later family's looks); each row that meets fmt, with fmt's text TOLD by the authors' own Lean function (tested against real Go, not proved from fmt's source: count such statements apart). THE CARD IS WHAT COUNTS. Prove the row's statement (the work); the ties are given (YtkdogcpgbogkhaaGreatDoorTie.lean); close each card by the builder's one call (the guide's Derived/Test/ToyasCard.lean, 'card_holds'). Laid BY PROGRAM, IN A SANDBOX (cutbox-door.mjs). By AI agents, Wed Nov 11 2026. No macro, syntax, notation, axiom, sorry.
-/
import Derived.Test.YtkdogcpgbogkhaaGreatDoorRows
import GoSem.ClaimSeven
namespace Go.Proofs.YtkdogcpgbogkhaaGreatDoor
namespace Rows

/-- THE TIED CARD OF 'smithyardlaw5.ActionLooksDecide'. -/
def actionLooksDecideCard : Claim7 := { stood := { row := actionLooksDecideRow, standIns := [], harness := (true, "9bd1e8b79ecaef10816cd80be32665479cc0376f4033199b57c04c21b45ad850"), looks := true }, kinds := [], alts := [], laidByText := true, laidKinds := [.data, .data, .data, .data, .sentinel, .sentinel, .pinned], laidTests := true, laidLooks := .later }
def ActionLooksDecideCardSaid : Prop := Claim7.holds Tryz.pinned (.plain (OpenSpec.ofChange actionLooksDecideSpec)) actionLooksDecideCard

/-- THE TIED CARD OF 'smithyardlaw5.ActionNeedsNoMore'. -/
def actionNeedsNoMoreCard : Claim7 := { stood := { row := actionNeedsNoMoreRow, standIns := [], harness := (true, "9bd1e8b79ecaef10816cd80be32665479cc0376f4033199b57c04c21b45ad850"), looks := true }, kinds := [], alts := [], laidByText := true, laidKinds := [.data, .data, .data, .data, .sentinel, .sentinel, .pinned], laidTests := true, laidLooks := .later }
def ActionNeedsNoMoreCardSaid : Prop := Claim7.holds Tryz.pinned (.plain (OpenSpec.ofChange actionNeedsNoMoreSpec)) actionNeedsNoMoreCard

/-- THE TIED CARD OF 'smithyardlaw5.ActionLooksStand'. -/
def actionLooksStandCard : Claim7 := { stood := { row := actionLooksStandRow, standIns := [], harness := (true, "9bd1e8b79ecaef10816cd80be32665479cc0376f4033199b57c04c21b45ad850"), looks := true }, kinds := [], alts := [], laidByText := true, laidKinds := [.data, .data, .data, .data, .sentinel, .sentinel, .pinned], laidTests := true, laidLooks := .later }
def ActionLooksStandCardSaid : Prop := Claim7.holds Tryz.pinned (.plain (OpenSpec.ofChange actionLooksStandSpec)) actionLooksStandCard

/-- THE TIED CARD OF 'smithyardlaw5.ActionResultsAreRight'. -/
def actionResultsAreRightCard : Claim7 := { stood := { row := actionResultsAreRightRow, standIns := [], harness := (true, "9bd1e8b79ecaef10816cd80be32665479cc0376f4033199b57c04c21b45ad850"), looks := true }, kinds := [], alts := [], laidByText := true, laidKinds := [.data, .data, .data, .data, .sentinel, .sentinel, .pinned], laidTests := true, laidLooks := .later }
def ActionResultsAreRightCardSaid : Prop := Claim7.holds Tryz.pinned (.plain (OpenSpec.ofChange actionResultsAreRightSpec)) actionResultsAreRightCard

/-- THE TIED CARD OF 'smithyardlaw5.ActionReducedIsEnough'. -/
def actionReducedIsEnoughCard : Claim7 := { stood := { row := actionReducedIsEnoughRow, standIns := [], harness := (true, "9bd1e8b79ecaef10816cd80be32665479cc0376f4033199b57c04c21b45ad850"), looks := true }, kinds := [], alts := [], laidByText := true, laidKinds := [.data, .data, .data, .data, .sentinel, .sentinel, .pinned], laidTests := true, laidLooks := .later }
def ActionReducedIsEnoughCardSaid : Prop := Claim7.holds Tryz.pinned (.plain (OpenSpec.ofChange actionReducedIsEnoughSpec)) actionReducedIsEnoughCard

/-- THE TIED CARD OF 'smithyardlaw6.StepsAgainIsFresh'. -/
def stepsAgainIsFreshCard : Claim7 := { stood := { row := stepsAgainIsFreshRow, standIns := [], harness := (true, "9bd1e8b79ecaef10816cd80be32665479cc0376f4033199b57c04c21b45ad850"), looks := true }, kinds := [], alts := [], laidByText := true, laidKinds := [.data, .data, .data, .data, .sentinel, .sentinel, .pinned], laidTests := true, laidLooks := .later }
def StepsAgainIsFreshCardSaid : Prop := Claim7.holds Tryz.pinned (.plain (OpenSpec.ofChange stepsAgainIsFreshSpec)) stepsAgainIsFreshCard

/-- THE TIED CARD OF 'smithyardlaw6.StepsNothingDue'. -/
def stepsNothingDueCard : Claim7 := { stood := { row := stepsNothingDueRow, standIns := [], harness := (true, "9bd1e8b79ecaef10816cd80be32665479cc0376f4033199b57c04c21b45ad850"), looks := true }, kinds := [], alts := [], laidByText := true, laidKinds := [.data, .data, .data, .data, .sentinel, .sentinel, .pinned], laidTests := true, laidLooks := .later }
def StepsNothingDueCardSaid : Prop := Claim7.holds Tryz.pinned (.plain (OpenSpec.ofChange stepsNothingDueSpec)) stepsNothingDueCard

/-- THE TIED CARD OF 'smithyardlaw6.StepsEarlyStops'. -/
def stepsEarlyStopsCard : Claim7 := { stood := { row := stepsEarlyStopsRow, standIns := [], harness := (true, "9bd1e8b79ecaef10816cd80be32665479cc0376f4033199b57c04c21b45ad850"), looks := true }, kinds := [], alts := [], laidByText := true, laidKinds := [.data, .data, .data, .data, .sentinel, .sentinel, .pinned], laidTests := true, laidLooks := .later }
def StepsEarlyStopsCardSaid : Prop := Claim7.holds Tryz.pinned (.plain (OpenSpec.ofChange stepsEarlyStopsSpec)) stepsEarlyStopsCard

/-- THE TIED CARD OF 'smithyardlaw6.StepsBecauseIsDue'. -/
def stepsBecauseIsDueCard : Claim7 := { stood := { row := stepsBecauseIsDueRow, standIns := [], harness := (true, "9bd1e8b79ecaef10816cd80be32665479cc0376f4033199b57c04c21b45ad850"), looks := true }, kinds := [], alts := [], laidByText := true, laidKinds := [.data, .data, .data, .data, .sentinel, .sentinel, .pinned], laidTests := true, laidLooks := .later }
def StepsBecauseIsDueCardSaid : Prop := Claim7.holds Tryz.pinned (.plain (OpenSpec.ofChange stepsBecauseIsDueSpec)) stepsBecauseIsDueCard

/-- THE TIED CARD OF 'smithyardlaw6.StepsPrunedIsEnough'. -/
def stepsPrunedIsEnoughCard : Claim7 := { stood := { row := stepsPrunedIsEnoughRow, standIns := [], harness := (true, "9bd1e8b79ecaef10816cd80be32665479cc0376f4033199b57c04c21b45ad850"), looks := true }, kinds := [], alts := [], laidByText := true, laidKinds := [.data, .data, .data, .data, .sentinel, .sentinel, .pinned], laidTests := true, laidLooks := .later }
def StepsPrunedIsEnoughCardSaid : Prop := Claim7.holds Tryz.pinned (.plain (OpenSpec.ofChange stepsPrunedIsEnoughSpec)) stepsPrunedIsEnoughCard

/-- THE TIED CARD OF 'smithyardlaw6.StepsDueAreSuspects'. -/
def stepsDueAreSuspectsCard : Claim7 := { stood := { row := stepsDueAreSuspectsRow, standIns := [], harness := (true, "9bd1e8b79ecaef10816cd80be32665479cc0376f4033199b57c04c21b45ad850"), looks := true }, kinds := [], alts := [], laidByText := true, laidKinds := [.data, .data, .data, .data, .sentinel, .sentinel, .pinned], laidTests := true, laidLooks := .later }
def StepsDueAreSuspectsCardSaid : Prop := Claim7.holds Tryz.pinned (.plain (OpenSpec.ofChange stepsDueAreSuspectsSpec)) stepsDueAreSuspectsCard

/-- THE SECOND FORM's CARD OF 'smithyardlaw5.ActionLooksDecide'. -/
def actionLooksDecideUptoCard : Claim7 := { stood := { row := actionLooksDecideUptoRow, standIns := [], harness := (true, "9bd1e8b79ecaef10816cd80be32665479cc0376f4033199b57c04c21b45ad850"), looks := true }, kinds := [], alts := [], laidByText := true, laidKinds := [.data, .data, .data, .data, .sentinel, .sentinel, .pinned], laidTests := true, laidLooks := .later }
def ActionLooksDecideUptoCardSaid : Prop := Claim7.holds Tryz.pinned (.plain (OpenSpec.upto actionLooksDecideSpec)) actionLooksDecideUptoCard

/-- THE SECOND FORM's CARD OF 'smithyardlaw5.ActionNeedsNoMore'. -/
def actionNeedsNoMoreUptoCard : Claim7 := { stood := { row := actionNeedsNoMoreUptoRow, standIns := [], harness := (true, "9bd1e8b79ecaef10816cd80be32665479cc0376f4033199b57c04c21b45ad850"), looks := true }, kinds := [], alts := [], laidByText := true, laidKinds := [.data, .data, .data, .data, .sentinel, .sentinel, .pinned], laidTests := true, laidLooks := .later }
def ActionNeedsNoMoreUptoCardSaid : Prop := Claim7.holds Tryz.pinned (.plain (OpenSpec.upto actionNeedsNoMoreSpec)) actionNeedsNoMoreUptoCard

/-- THE SECOND FORM's CARD OF 'smithyardlaw5.ActionLooksStand'. -/
def actionLooksStandUptoCard : Claim7 := { stood := { row := actionLooksStandUptoRow, standIns := [], harness := (true, "9bd1e8b79ecaef10816cd80be32665479cc0376f4033199b57c04c21b45ad850"), looks := true }, kinds := [], alts := [], laidByText := true, laidKinds := [.data, .data, .data, .data, .sentinel, .sentinel, .pinned], laidTests := true, laidLooks := .later }
def ActionLooksStandUptoCardSaid : Prop := Claim7.holds Tryz.pinned (.plain (OpenSpec.upto actionLooksStandSpec)) actionLooksStandUptoCard

/-- THE SECOND FORM's CARD OF 'smithyardlaw5.ActionResultsAreRight'. -/
def actionResultsAreRightUptoCard : Claim7 := { stood := { row := actionResultsAreRightUptoRow, standIns := [], harness := (true, "9bd1e8b79ecaef10816cd80be32665479cc0376f4033199b57c04c21b45ad850"), looks := true }, kinds := [], alts := [], laidByText := true, laidKinds := [.data, .data, .data, .data, .sentinel, .sentinel, .pinned], laidTests := true, laidLooks := .later }
def ActionResultsAreRightUptoCardSaid : Prop := Claim7.holds Tryz.pinned (.plain (OpenSpec.upto actionResultsAreRightSpec)) actionResultsAreRightUptoCard

/-- THE SECOND FORM's CARD OF 'smithyardlaw5.ActionReducedIsEnough'. -/
def actionReducedIsEnoughUptoCard : Claim7 := { stood := { row := actionReducedIsEnoughUptoRow, standIns := [], harness := (true, "9bd1e8b79ecaef10816cd80be32665479cc0376f4033199b57c04c21b45ad850"), looks := true }, kinds := [], alts := [], laidByText := true, laidKinds := [.data, .data, .data, .data, .sentinel, .sentinel, .pinned], laidTests := true, laidLooks := .later }
def ActionReducedIsEnoughUptoCardSaid : Prop := Claim7.holds Tryz.pinned (.plain (OpenSpec.upto actionReducedIsEnoughSpec)) actionReducedIsEnoughUptoCard

/-- THE SECOND FORM's CARD OF 'smithyardlaw6.StepsAgainIsFresh'. -/
def stepsAgainIsFreshUptoCard : Claim7 := { stood := { row := stepsAgainIsFreshUptoRow, standIns := [], harness := (true, "9bd1e8b79ecaef10816cd80be32665479cc0376f4033199b57c04c21b45ad850"), looks := true }, kinds := [], alts := [], laidByText := true, laidKinds := [.data, .data, .data, .data, .sentinel, .sentinel, .pinned], laidTests := true, laidLooks := .later }
def StepsAgainIsFreshUptoCardSaid : Prop := Claim7.holds Tryz.pinned (.plain (OpenSpec.upto stepsAgainIsFreshSpec)) stepsAgainIsFreshUptoCard

/-- THE SECOND FORM's CARD OF 'smithyardlaw6.StepsNothingDue'. -/
def stepsNothingDueUptoCard : Claim7 := { stood := { row := stepsNothingDueUptoRow, standIns := [], harness := (true, "9bd1e8b79ecaef10816cd80be32665479cc0376f4033199b57c04c21b45ad850"), looks := true }, kinds := [], alts := [], laidByText := true, laidKinds := [.data, .data, .data, .data, .sentinel, .sentinel, .pinned], laidTests := true, laidLooks := .later }
def StepsNothingDueUptoCardSaid : Prop := Claim7.holds Tryz.pinned (.plain (OpenSpec.upto stepsNothingDueSpec)) stepsNothingDueUptoCard

/-- THE SECOND FORM's CARD OF 'smithyardlaw6.StepsEarlyStops'. -/
def stepsEarlyStopsUptoCard : Claim7 := { stood := { row := stepsEarlyStopsUptoRow, standIns := [], harness := (true, "9bd1e8b79ecaef10816cd80be32665479cc0376f4033199b57c04c21b45ad850"), looks := true }, kinds := [], alts := [], laidByText := true, laidKinds := [.data, .data, .data, .data, .sentinel, .sentinel, .pinned], laidTests := true, laidLooks := .later }
def StepsEarlyStopsUptoCardSaid : Prop := Claim7.holds Tryz.pinned (.plain (OpenSpec.upto stepsEarlyStopsSpec)) stepsEarlyStopsUptoCard

/-- THE SECOND FORM's CARD OF 'smithyardlaw6.StepsBecauseIsDue'. -/
def stepsBecauseIsDueUptoCard : Claim7 := { stood := { row := stepsBecauseIsDueUptoRow, standIns := [], harness := (true, "9bd1e8b79ecaef10816cd80be32665479cc0376f4033199b57c04c21b45ad850"), looks := true }, kinds := [], alts := [], laidByText := true, laidKinds := [.data, .data, .data, .data, .sentinel, .sentinel, .pinned], laidTests := true, laidLooks := .later }
def StepsBecauseIsDueUptoCardSaid : Prop := Claim7.holds Tryz.pinned (.plain (OpenSpec.upto stepsBecauseIsDueSpec)) stepsBecauseIsDueUptoCard

/-- THE SECOND FORM's CARD OF 'smithyardlaw6.StepsPrunedIsEnough'. -/
def stepsPrunedIsEnoughUptoCard : Claim7 := { stood := { row := stepsPrunedIsEnoughUptoRow, standIns := [], harness := (true, "9bd1e8b79ecaef10816cd80be32665479cc0376f4033199b57c04c21b45ad850"), looks := true }, kinds := [], alts := [], laidByText := true, laidKinds := [.data, .data, .data, .data, .sentinel, .sentinel, .pinned], laidTests := true, laidLooks := .later }
def StepsPrunedIsEnoughUptoCardSaid : Prop := Claim7.holds Tryz.pinned (.plain (OpenSpec.upto stepsPrunedIsEnoughSpec)) stepsPrunedIsEnoughUptoCard

/-- THE SECOND FORM's CARD OF 'smithyardlaw6.StepsDueAreSuspects'. -/
def stepsDueAreSuspectsUptoCard : Claim7 := { stood := { row := stepsDueAreSuspectsUptoRow, standIns := [], harness := (true, "9bd1e8b79ecaef10816cd80be32665479cc0376f4033199b57c04c21b45ad850"), looks := true }, kinds := [], alts := [], laidByText := true, laidKinds := [.data, .data, .data, .data, .sentinel, .sentinel, .pinned], laidTests := true, laidLooks := .later }
def StepsDueAreSuspectsUptoCardSaid : Prop := Claim7.holds Tryz.pinned (.plain (OpenSpec.upto stepsDueAreSuspectsSpec)) stepsDueAreSuspectsUptoCard
end Rows
end Go.Proofs.YtkdogcpgbogkhaaGreatDoor
