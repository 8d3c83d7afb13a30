/-
  DERIVED. GIVEN WITH THE SEED: THE CARDS: each row of YtiajmcmncafecaaGreatDoorRows.lean that lists a variable, with what it lists TIED to the program's text (the seventh form; the later family's looks); each row that meets fmt, with fmt's text TOLD by the authors' own Lean function (tested against real Go, not proved from fmt's source: count such statements apart). THE CARD IS WHAT COUNTS. Prove the row's statement (the work); the ties are given (YtiajmcmncafecaaGreatDoorTie.lean); close each card by the builder's one call (the guide's Derived/Test/ToyasCard.lean, 'card_holds'). Laid BY PROGRAM, IN A SANDBOX (cutbox-door.mjs). By AI agents, Wed Nov 11 2026. No macro, syntax, notation, axiom, sorry.
-/
import Derived.Test.YtiajmcmncafecaaGreatDoorRows
import GoSem.ClaimSeven
namespace Go.Proofs.YtiajmcmncafecaaGreatDoor
namespace Rows

/-- THE TIED CARD OF 'smithyardlaw5.ActionReadsMatchSpec'. -/
def actionReadsMatchSpecCard : Claim7 := { stood := { row := actionReadsMatchSpecRow, standIns := [], harness := (true, "b144d9481771de28ff5582848874f641a591c1d2f4e6863d7585b4e74ebf05bd"), looks := true }, kinds := [], alts := [], laidByText := true, laidKinds := [.data, .data, .data, .data, .sentinel, .sentinel, .pinned], laidTests := true, laidLooks := .later }
def ActionReadsMatchSpecCardSaid : Prop := Claim7.holds Tryz.pinned (.plain (OpenSpec.ofChange actionReadsMatchSpecSpec)) actionReadsMatchSpecCard

/-- THE TIED CARD OF 'smithyardlaw5.ActionTextsComeBack'. -/
def actionTextsComeBackCard : Claim7 := { stood := { row := actionTextsComeBackRow, standIns := [], harness := (true, "b144d9481771de28ff5582848874f641a591c1d2f4e6863d7585b4e74ebf05bd"), looks := true }, kinds := [], alts := [], laidByText := true, laidKinds := [.data, .data, .data, .data, .sentinel, .sentinel, .pinned], laidTests := true, laidLooks := .later }
def ActionTextsComeBackCardSaid : Prop := Claim7.holds Tryz.pinned (.plain (OpenSpec.ofChange actionTextsComeBackSpec)) actionTextsComeBackCard

/-- THE SECOND FORM's CARD OF 'smithyardlaw5.ActionReadsMatchSpec'. -/
def actionReadsMatchSpecUptoCard : Claim7 := { stood := { row := actionReadsMatchSpecUptoRow, standIns := [], harness := (true, "b144d9481771de28ff5582848874f641a591c1d2f4e6863d7585b4e74ebf05bd"), looks := true }, kinds := [], alts := [], laidByText := true, laidKinds := [.data, .data, .data, .data, .sentinel, .sentinel, .pinned], laidTests := true, laidLooks := .later }
def ActionReadsMatchSpecUptoCardSaid : Prop := Claim7.holds Tryz.pinned (.plain (OpenSpec.upto actionReadsMatchSpecSpec)) actionReadsMatchSpecUptoCard

/-- THE SECOND FORM's CARD OF 'smithyardlaw5.ActionTextsComeBack'. -/
def actionTextsComeBackUptoCard : Claim7 := { stood := { row := actionTextsComeBackUptoRow, standIns := [], harness := (true, "b144d9481771de28ff5582848874f641a591c1d2f4e6863d7585b4e74ebf05bd"), looks := true }, kinds := [], alts := [], laidByText := true, laidKinds := [.data, .data, .data, .data, .sentinel, .sentinel, .pinned], laidTests := true, laidLooks := .later }
def ActionTextsComeBackUptoCardSaid : Prop := Claim7.holds Tryz.pinned (.plain (OpenSpec.upto actionTextsComeBackSpec)) actionTextsComeBackUptoCard
end Rows
end Go.Proofs.YtiajmcmncafecaaGreatDoor
