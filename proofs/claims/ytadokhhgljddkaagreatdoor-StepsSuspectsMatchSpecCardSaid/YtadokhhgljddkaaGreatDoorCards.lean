/-
  DERIVED. GIVEN WITH THE SEED: THE CARDS: each row of YtadokhhgljddkaaGreatDoorRows.lean that lists a variable, with what it lists TIED to the program's text (the seventh form; the later family's looks); each row that meets fmt, with fmt's text TOLD by the authors' own Lean function (tested against real Go, not proved from fmt's source: count such statements apart). THE CARD IS WHAT COUNTS. Prove the row's statement (the work); the ties are given (YtadokhhgljddkaaGreatDoorTie.lean); close each card by the builder's one call (the guide's Derived/Test/ToyasCard.lean, 'card_holds'). Laid BY PROGRAM, IN A SANDBOX (cutbox-door.mjs). By AI agents, Wed Nov 11 2026. No macro, syntax, notation, axiom, sorry.
-/
import Derived.Test.YtadokhhgljddkaaGreatDoorRows
import GoSem.ClaimSeven
namespace Go.Proofs.YtadokhhgljddkaaGreatDoor
namespace Rows

/-- THE TIED CARD OF 'smithyardlaw6.StepsSuspectsMatchSpec'. -/
def stepsSuspectsMatchSpecCard : Claim7 := { stood := { row := stepsSuspectsMatchSpecRow, standIns := [], harness := (true, "921184d0653fe4a409a0359bf1683c9e5d01e891795af18155cf9c075b4752c1"), looks := true }, kinds := [], alts := [], laidByText := true, laidKinds := [.data, .data, .data, .data, .sentinel, .sentinel, .pinned], laidTests := true, laidLooks := .later }
def StepsSuspectsMatchSpecCardSaid : Prop := Claim7.holds Tryz.pinned (.plain (OpenSpec.ofChange stepsSuspectsMatchSpecSpec)) stepsSuspectsMatchSpecCard

/-- THE TIED CARD OF 'smithyardlaw6.StepsMemoryMatchSpec'. -/
def stepsMemoryMatchSpecCard : Claim7 := { stood := { row := stepsMemoryMatchSpecRow, standIns := [], harness := (true, "921184d0653fe4a409a0359bf1683c9e5d01e891795af18155cf9c075b4752c1"), looks := true }, kinds := [], alts := [], laidByText := true, laidKinds := [.data, .data, .data, .data, .sentinel, .sentinel, .pinned], laidTests := true, laidLooks := .later }
def StepsMemoryMatchSpecCardSaid : Prop := Claim7.holds Tryz.pinned (.plain (OpenSpec.ofChange stepsMemoryMatchSpecSpec)) stepsMemoryMatchSpecCard

/-- THE SECOND FORM's CARD OF 'smithyardlaw6.StepsSuspectsMatchSpec'. -/
def stepsSuspectsMatchSpecUptoCard : Claim7 := { stood := { row := stepsSuspectsMatchSpecUptoRow, standIns := [], harness := (true, "921184d0653fe4a409a0359bf1683c9e5d01e891795af18155cf9c075b4752c1"), looks := true }, kinds := [], alts := [], laidByText := true, laidKinds := [.data, .data, .data, .data, .sentinel, .sentinel, .pinned], laidTests := true, laidLooks := .later }
def StepsSuspectsMatchSpecUptoCardSaid : Prop := Claim7.holds Tryz.pinned (.plain (OpenSpec.upto stepsSuspectsMatchSpecSpec)) stepsSuspectsMatchSpecUptoCard

/-- THE SECOND FORM's CARD OF 'smithyardlaw6.StepsMemoryMatchSpec'. -/
def stepsMemoryMatchSpecUptoCard : Claim7 := { stood := { row := stepsMemoryMatchSpecUptoRow, standIns := [], harness := (true, "921184d0653fe4a409a0359bf1683c9e5d01e891795af18155cf9c075b4752c1"), looks := true }, kinds := [], alts := [], laidByText := true, laidKinds := [.data, .data, .data, .data, .sentinel, .sentinel, .pinned], laidTests := true, laidLooks := .later }
def StepsMemoryMatchSpecUptoCardSaid : Prop := Claim7.holds Tryz.pinned (.plain (OpenSpec.upto stepsMemoryMatchSpecSpec)) stepsMemoryMatchSpecUptoCard
end Rows
end Go.Proofs.YtadokhhgljddkaaGreatDoor
