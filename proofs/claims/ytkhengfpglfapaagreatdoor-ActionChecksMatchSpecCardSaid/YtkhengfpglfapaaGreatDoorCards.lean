/-
  DERIVED. GIVEN WITH THE SEED: THE CARDS: each row of YtkhengfpglfapaaGreatDoorRows.lean that lists a variable, with what it lists TIED to the program's text (the seventh form; the later family's looks); each row that meets fmt, with fmt's text TOLD by the authors' own Lean function (tested against real Go, not proved from fmt's source: count such statements apart). THE CARD IS WHAT COUNTS. Prove the row's statement (the work); the ties are given (YtkhengfpglfapaaGreatDoorTie.lean); close each card by the builder's one call (the guide's Derived/Test/ToyasCard.lean, 'card_holds'). Laid BY PROGRAM, IN A SANDBOX (cutbox-door.mjs). By AI agents, Wed Nov 11 2026. No macro, syntax, notation, axiom, sorry.
-/
import Derived.Test.YtkhengfpglfapaaGreatDoorRows
import GoSem.ClaimSeven
namespace Go.Proofs.YtkhengfpglfapaaGreatDoor
namespace Rows

/-- THE TIED CARD OF 'smithyardlaw5.ActionChecksMatchSpec'. -/
def actionChecksMatchSpecCard : Claim7 := { stood := { row := actionChecksMatchSpecRow, standIns := [], harness := (true, "65c4644d5ddf3c65e22e09aac485b5ca998740d19d00fac4985b0efaffefd5b7"), looks := true }, kinds := [], alts := [], laidByText := true, laidKinds := [.data, .data, .data, .data, .sentinel, .sentinel, .pinned], laidTests := true, laidLooks := .later }
def ActionChecksMatchSpecCardSaid : Prop := Claim7.holds Tryz.pinned (.plain (OpenSpec.ofChange actionChecksMatchSpecSpec)) actionChecksMatchSpecCard

/-- THE TIED CARD OF 'smithyardlaw5.ActionKeysMatchSpec'. -/
def actionKeysMatchSpecCard : Claim7 := { stood := { row := actionKeysMatchSpecRow, standIns := [], harness := (true, "65c4644d5ddf3c65e22e09aac485b5ca998740d19d00fac4985b0efaffefd5b7"), looks := true }, kinds := [], alts := [], laidByText := true, laidKinds := [.data, .data, .data, .data, .sentinel, .sentinel, .pinned], laidTests := true, laidLooks := .later }
def ActionKeysMatchSpecCardSaid : Prop := Claim7.holds Tryz.pinned (.plain (OpenSpec.ofChange actionKeysMatchSpecSpec)) actionKeysMatchSpecCard

/-- THE TIED CARD OF 'smithyardlaw5.ActionLooksDecide'. -/
def actionLooksDecideCard : Claim7 := { stood := { row := actionLooksDecideRow, standIns := [], harness := (true, "65c4644d5ddf3c65e22e09aac485b5ca998740d19d00fac4985b0efaffefd5b7"), looks := true }, kinds := [], alts := [], laidByText := true, laidKinds := [.data, .data, .data, .data, .sentinel, .sentinel, .pinned], laidTests := true, laidLooks := .later }
def ActionLooksDecideCardSaid : Prop := Claim7.holds Tryz.pinned (.plain (OpenSpec.ofChange actionLooksDecideSpec)) actionLooksDecideCard

/-- THE TIED CARD OF 'smithyardlaw5.ActionNeedsNoMore'. -/
def actionNeedsNoMoreCard : Claim7 := { stood := { row := actionNeedsNoMoreRow, standIns := [], harness := (true, "65c4644d5ddf3c65e22e09aac485b5ca998740d19d00fac4985b0efaffefd5b7"), looks := true }, kinds := [], alts := [], laidByText := true, laidKinds := [.data, .data, .data, .data, .sentinel, .sentinel, .pinned], laidTests := true, laidLooks := .later }
def ActionNeedsNoMoreCardSaid : Prop := Claim7.holds Tryz.pinned (.plain (OpenSpec.ofChange actionNeedsNoMoreSpec)) actionNeedsNoMoreCard

/-- THE TIED CARD OF 'smithyardlaw5.ActionLooksStand'. -/
def actionLooksStandCard : Claim7 := { stood := { row := actionLooksStandRow, standIns := [], harness := (true, "65c4644d5ddf3c65e22e09aac485b5ca998740d19d00fac4985b0efaffefd5b7"), looks := true }, kinds := [], alts := [], laidByText := true, laidKinds := [.data, .data, .data, .data, .sentinel, .sentinel, .pinned], laidTests := true, laidLooks := .later }
def ActionLooksStandCardSaid : Prop := Claim7.holds Tryz.pinned (.plain (OpenSpec.ofChange actionLooksStandSpec)) actionLooksStandCard

/-- THE TIED CARD OF 'smithyardlaw5.ActionResultsAreRight'. -/
def actionResultsAreRightCard : Claim7 := { stood := { row := actionResultsAreRightRow, standIns := [], harness := (true, "65c4644d5ddf3c65e22e09aac485b5ca998740d19d00fac4985b0efaffefd5b7"), looks := true }, kinds := [], alts := [], laidByText := true, laidKinds := [.data, .data, .data, .data, .sentinel, .sentinel, .pinned], laidTests := true, laidLooks := .later }
def ActionResultsAreRightCardSaid : Prop := Claim7.holds Tryz.pinned (.plain (OpenSpec.ofChange actionResultsAreRightSpec)) actionResultsAreRightCard

/-- THE TIED CARD OF 'smithyardlaw5.ActionReducedIsEnough'. -/
def actionReducedIsEnoughCard : Claim7 := { stood := { row := actionReducedIsEnoughRow, standIns := [], harness := (true, "65c4644d5ddf3c65e22e09aac485b5ca998740d19d00fac4985b0efaffefd5b7"), looks := true }, kinds := [], alts := [], laidByText := true, laidKinds := [.data, .data, .data, .data, .sentinel, .sentinel, .pinned], laidTests := true, laidLooks := .later }
def ActionReducedIsEnoughCardSaid : Prop := Claim7.holds Tryz.pinned (.plain (OpenSpec.ofChange actionReducedIsEnoughSpec)) actionReducedIsEnoughCard

/-- THE SECOND FORM's CARD OF 'smithyardlaw5.ActionChecksMatchSpec'. -/
def actionChecksMatchSpecUptoCard : Claim7 := { stood := { row := actionChecksMatchSpecUptoRow, standIns := [], harness := (true, "65c4644d5ddf3c65e22e09aac485b5ca998740d19d00fac4985b0efaffefd5b7"), looks := true }, kinds := [], alts := [], laidByText := true, laidKinds := [.data, .data, .data, .data, .sentinel, .sentinel, .pinned], laidTests := true, laidLooks := .later }
def ActionChecksMatchSpecUptoCardSaid : Prop := Claim7.holds Tryz.pinned (.plain (OpenSpec.upto actionChecksMatchSpecSpec)) actionChecksMatchSpecUptoCard

/-- THE SECOND FORM's CARD OF 'smithyardlaw5.ActionKeysMatchSpec'. -/
def actionKeysMatchSpecUptoCard : Claim7 := { stood := { row := actionKeysMatchSpecUptoRow, standIns := [], harness := (true, "65c4644d5ddf3c65e22e09aac485b5ca998740d19d00fac4985b0efaffefd5b7"), looks := true }, kinds := [], alts := [], laidByText := true, laidKinds := [.data, .data, .data, .data, .sentinel, .sentinel, .pinned], laidTests := true, laidLooks := .later }
def ActionKeysMatchSpecUptoCardSaid : Prop := Claim7.holds Tryz.pinned (.plain (OpenSpec.upto actionKeysMatchSpecSpec)) actionKeysMatchSpecUptoCard

/-- THE SECOND FORM's CARD OF 'smithyardlaw5.ActionLooksDecide'. -/
def actionLooksDecideUptoCard : Claim7 := { stood := { row := actionLooksDecideUptoRow, standIns := [], harness := (true, "65c4644d5ddf3c65e22e09aac485b5ca998740d19d00fac4985b0efaffefd5b7"), looks := true }, kinds := [], alts := [], laidByText := true, laidKinds := [.data, .data, .data, .data, .sentinel, .sentinel, .pinned], laidTests := true, laidLooks := .later }
def ActionLooksDecideUptoCardSaid : Prop := Claim7.holds Tryz.pinned (.plain (OpenSpec.upto actionLooksDecideSpec)) actionLooksDecideUptoCard

/-- THE SECOND FORM's CARD OF 'smithyardlaw5.ActionNeedsNoMore'. -/
def actionNeedsNoMoreUptoCard : Claim7 := { stood := { row := actionNeedsNoMoreUptoRow, standIns := [], harness := (true, "65c4644d5ddf3c65e22e09aac485b5ca998740d19d00fac4985b0efaffefd5b7"), looks := true }, kinds := [], alts := [], laidByText := true, laidKinds := [.data, .data, .data, .data, .sentinel, .sentinel, .pinned], laidTests := true, laidLooks := .later }
def ActionNeedsNoMoreUptoCardSaid : Prop := Claim7.holds Tryz.pinned (.plain (OpenSpec.upto actionNeedsNoMoreSpec)) actionNeedsNoMoreUptoCard

/-- THE SECOND FORM's CARD OF 'smithyardlaw5.ActionLooksStand'. -/
def actionLooksStandUptoCard : Claim7 := { stood := { row := actionLooksStandUptoRow, standIns := [], harness := (true, "65c4644d5ddf3c65e22e09aac485b5ca998740d19d00fac4985b0efaffefd5b7"), looks := true }, kinds := [], alts := [], laidByText := true, laidKinds := [.data, .data, .data, .data, .sentinel, .sentinel, .pinned], laidTests := true, laidLooks := .later }
def ActionLooksStandUptoCardSaid : Prop := Claim7.holds Tryz.pinned (.plain (OpenSpec.upto actionLooksStandSpec)) actionLooksStandUptoCard

/-- THE SECOND FORM's CARD OF 'smithyardlaw5.ActionResultsAreRight'. -/
def actionResultsAreRightUptoCard : Claim7 := { stood := { row := actionResultsAreRightUptoRow, standIns := [], harness := (true, "65c4644d5ddf3c65e22e09aac485b5ca998740d19d00fac4985b0efaffefd5b7"), looks := true }, kinds := [], alts := [], laidByText := true, laidKinds := [.data, .data, .data, .data, .sentinel, .sentinel, .pinned], laidTests := true, laidLooks := .later }
def ActionResultsAreRightUptoCardSaid : Prop := Claim7.holds Tryz.pinned (.plain (OpenSpec.upto actionResultsAreRightSpec)) actionResultsAreRightUptoCard

/-- THE SECOND FORM's CARD OF 'smithyardlaw5.ActionReducedIsEnough'. -/
def actionReducedIsEnoughUptoCard : Claim7 := { stood := { row := actionReducedIsEnoughUptoRow, standIns := [], harness := (true, "65c4644d5ddf3c65e22e09aac485b5ca998740d19d00fac4985b0efaffefd5b7"), looks := true }, kinds := [], alts := [], laidByText := true, laidKinds := [.data, .data, .data, .data, .sentinel, .sentinel, .pinned], laidTests := true, laidLooks := .later }
def ActionReducedIsEnoughUptoCardSaid : Prop := Claim7.holds Tryz.pinned (.plain (OpenSpec.upto actionReducedIsEnoughSpec)) actionReducedIsEnoughUptoCard
end Rows
end Go.Proofs.YtkhengfpglfapaaGreatDoor
