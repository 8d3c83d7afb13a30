/-
  DERIVED. GIVEN WITH THE SEED: THE CARDS: each row of YtogjdgpghpkgmaaGreatDoorRows.lean that lists a variable, with what it lists TIED to the program's text (the seventh form; the later family's looks); each row that meets fmt, with fmt's text TOLD by the authors' own Lean function (tested against real Go, not proved from fmt's source: count such statements apart). THE CARD IS WHAT COUNTS. Prove the row's statement (the work); the ties are given (YtogjdgpghpkgmaaGreatDoorTie.lean); close each card by the builder's one call (the guide's Derived/Test/ToyasCard.lean, 'card_holds'). Laid BY PROGRAM, IN A SANDBOX (cutbox-door.mjs). By AI agents, Wed Nov 11 2026. No macro, syntax, notation, axiom, sorry.
-/
import Derived.Test.YtogjdgpghpkgmaaGreatDoorRows
import GoSem.ClaimSeven
namespace Go.Proofs.YtogjdgpghpkgmaaGreatDoor
namespace Rows

/-- THE TIED CARD OF 'smithyardlaw6.StepsOrdersStand'. -/
def stepsOrdersStandCard : Claim7 := { stood := { row := stepsOrdersStandRow, standIns := [], harness := (true, "2559a50f8a3ca7973c671f7950b78ee00bc19c3b0efb620c241daa53af86ff01"), looks := true }, kinds := [], alts := [], laidByText := true, laidKinds := [.data, .pinned], laidTests := true, laidLooks := .later }
def StepsOrdersStandCardSaid : Prop := Claim7.holds Tryz.pinned (.plain (OpenSpec.ofChange stepsOrdersStandSpec)) stepsOrdersStandCard

/-- THE TIED CARD OF 'smithyardlaw6.StepsRulesMatchSpec'. -/
def stepsRulesMatchSpecCard : Claim7 := { stood := { row := stepsRulesMatchSpecRow, standIns := [], harness := (true, "2559a50f8a3ca7973c671f7950b78ee00bc19c3b0efb620c241daa53af86ff01"), looks := true }, kinds := [], alts := [], laidByText := true, laidKinds := [.data, .data, .data, .data, .sentinel, .sentinel, .pinned], laidTests := true, laidLooks := .later }
def StepsRulesMatchSpecCardSaid : Prop := Claim7.holds Tryz.pinned (.plain (OpenSpec.ofChange stepsRulesMatchSpecSpec)) stepsRulesMatchSpecCard

/-- THE TIED CARD OF 'smithyardlaw6.StepsSuspectsMatchSpec'. -/
def stepsSuspectsMatchSpecCard : Claim7 := { stood := { row := stepsSuspectsMatchSpecRow, standIns := [], harness := (true, "2559a50f8a3ca7973c671f7950b78ee00bc19c3b0efb620c241daa53af86ff01"), looks := true }, kinds := [], alts := [], laidByText := true, laidKinds := [.data, .data, .data, .data, .sentinel, .sentinel, .pinned], laidTests := true, laidLooks := .later }
def StepsSuspectsMatchSpecCardSaid : Prop := Claim7.holds Tryz.pinned (.plain (OpenSpec.ofChange stepsSuspectsMatchSpecSpec)) stepsSuspectsMatchSpecCard

/-- THE TIED CARD OF 'smithyardlaw6.StepsOrdersMatchSpec'. -/
def stepsOrdersMatchSpecCard : Claim7 := { stood := { row := stepsOrdersMatchSpecRow, standIns := [], harness := (true, "2559a50f8a3ca7973c671f7950b78ee00bc19c3b0efb620c241daa53af86ff01"), looks := true }, kinds := [], alts := [], laidByText := true, laidKinds := [.data, .data, .data, .data, .sentinel, .sentinel, .pinned], laidTests := true, laidLooks := .later }
def StepsOrdersMatchSpecCardSaid : Prop := Claim7.holds Tryz.pinned (.plain (OpenSpec.ofChange stepsOrdersMatchSpecSpec)) stepsOrdersMatchSpecCard

/-- THE SECOND FORM's CARD OF 'smithyardlaw6.StepsOrdersStand'. -/
def stepsOrdersStandUptoCard : Claim7 := { stood := { row := stepsOrdersStandUptoRow, standIns := [], harness := (true, "2559a50f8a3ca7973c671f7950b78ee00bc19c3b0efb620c241daa53af86ff01"), looks := true }, kinds := [], alts := [], laidByText := true, laidKinds := [.data, .pinned], laidTests := true, laidLooks := .later }
def StepsOrdersStandUptoCardSaid : Prop := Claim7.holds Tryz.pinned (.plain (OpenSpec.upto stepsOrdersStandSpec)) stepsOrdersStandUptoCard

/-- THE SECOND FORM's CARD OF 'smithyardlaw6.StepsRulesMatchSpec'. -/
def stepsRulesMatchSpecUptoCard : Claim7 := { stood := { row := stepsRulesMatchSpecUptoRow, standIns := [], harness := (true, "2559a50f8a3ca7973c671f7950b78ee00bc19c3b0efb620c241daa53af86ff01"), looks := true }, kinds := [], alts := [], laidByText := true, laidKinds := [.data, .data, .data, .data, .sentinel, .sentinel, .pinned], laidTests := true, laidLooks := .later }
def StepsRulesMatchSpecUptoCardSaid : Prop := Claim7.holds Tryz.pinned (.plain (OpenSpec.upto stepsRulesMatchSpecSpec)) stepsRulesMatchSpecUptoCard

/-- THE SECOND FORM's CARD OF 'smithyardlaw6.StepsSuspectsMatchSpec'. -/
def stepsSuspectsMatchSpecUptoCard : Claim7 := { stood := { row := stepsSuspectsMatchSpecUptoRow, standIns := [], harness := (true, "2559a50f8a3ca7973c671f7950b78ee00bc19c3b0efb620c241daa53af86ff01"), looks := true }, kinds := [], alts := [], laidByText := true, laidKinds := [.data, .data, .data, .data, .sentinel, .sentinel, .pinned], laidTests := true, laidLooks := .later }
def StepsSuspectsMatchSpecUptoCardSaid : Prop := Claim7.holds Tryz.pinned (.plain (OpenSpec.upto stepsSuspectsMatchSpecSpec)) stepsSuspectsMatchSpecUptoCard

/-- THE SECOND FORM's CARD OF 'smithyardlaw6.StepsOrdersMatchSpec'. -/
def stepsOrdersMatchSpecUptoCard : Claim7 := { stood := { row := stepsOrdersMatchSpecUptoRow, standIns := [], harness := (true, "2559a50f8a3ca7973c671f7950b78ee00bc19c3b0efb620c241daa53af86ff01"), looks := true }, kinds := [], alts := [], laidByText := true, laidKinds := [.data, .data, .data, .data, .sentinel, .sentinel, .pinned], laidTests := true, laidLooks := .later }
def StepsOrdersMatchSpecUptoCardSaid : Prop := Claim7.holds Tryz.pinned (.plain (OpenSpec.upto stepsOrdersMatchSpecSpec)) stepsOrdersMatchSpecUptoCard
end Rows
end Go.Proofs.YtogjdgpghpkgmaaGreatDoor
