/-
  DERIVED. GIVEN WITH THE SEED: THE CARDS: each row of YtfdobbclpacijaaDoorRows.lean that lists a variable, with what it lists TIED to the program's text (the seventh form; the later family's looks); each row that meets fmt, with fmt's text TOLD by the authors' own Lean function (tested against real Go, not proved from fmt's source: count such statements apart). THE CARD IS WHAT COUNTS. Prove the row's statement (the work); the ties are given (YtfdobbclpacijaaDoorTie.lean); close each card by the builder's one call (the guide's Derived/Test/ToyasCard.lean, 'card_holds'). Laid BY PROGRAM, IN A SANDBOX (cutbox-door.mjs). By AI agents, Wed Nov 11 2026. No macro, syntax, notation, axiom, sorry.
-/
import Derived.Test.YtfdobbclpacijaaDoorRows
import GoSem.ClaimSeven
namespace Go.Proofs.YtfdobbclpacijaaDoor
namespace Rows

/-- THE TIED CARD OF 'smithyardlaw5.ActionLooksMatchSpec'. -/
def actionLooksMatchSpecCard : Claim7 := { stood := { row := actionLooksMatchSpecRow, standIns := [], harness := (true, "14351d52843b5db473e45a84481712f12354fdb84bffee3b59656dde11e51162"), looks := false }, kinds := [], alts := [], laidByText := true, laidKinds := [.data, .pinned], laidTests := true, laidLooks := .later }
def ActionLooksMatchSpecCardSaid : Prop := Claim7.holds Tryd.pinned (.plain (OpenSpec.ofChange actionLooksMatchSpecSpec)) actionLooksMatchSpecCard

/-- THE TIED CARD OF 'smithyardlaw5.ResultsMatchSpec'. -/
def resultsMatchSpecCard : Claim7 := { stood := { row := resultsMatchSpecRow, standIns := [], harness := (true, "14351d52843b5db473e45a84481712f12354fdb84bffee3b59656dde11e51162"), looks := false }, kinds := [], alts := [], laidByText := true, laidKinds := [.data, .data, .data, .data, .pinned], laidTests := true, laidLooks := .later }
def ResultsMatchSpecCardSaid : Prop := Claim7.holds Tryd.pinned (.plain (OpenSpec.ofChange resultsMatchSpecSpec)) resultsMatchSpecCard

/-- THE SECOND FORM's CARD OF 'smithyardlaw5.ActionLooksMatchSpec'. -/
def actionLooksMatchSpecUptoCard : Claim7 := { stood := { row := actionLooksMatchSpecUptoRow, standIns := [], harness := (true, "14351d52843b5db473e45a84481712f12354fdb84bffee3b59656dde11e51162"), looks := false }, kinds := [], alts := [], laidByText := true, laidKinds := [.data, .pinned], laidTests := true, laidLooks := .later }
def ActionLooksMatchSpecUptoCardSaid : Prop := Claim7.holds Tryd.pinned (.plain (OpenSpec.upto actionLooksMatchSpecSpec)) actionLooksMatchSpecUptoCard

/-- THE SECOND FORM's CARD OF 'smithyardlaw5.ResultsMatchSpec'. -/
def resultsMatchSpecUptoCard : Claim7 := { stood := { row := resultsMatchSpecUptoRow, standIns := [], harness := (true, "14351d52843b5db473e45a84481712f12354fdb84bffee3b59656dde11e51162"), looks := false }, kinds := [], alts := [], laidByText := true, laidKinds := [.data, .data, .data, .data, .pinned], laidTests := true, laidLooks := .later }
def ResultsMatchSpecUptoCardSaid : Prop := Claim7.holds Tryd.pinned (.plain (OpenSpec.upto resultsMatchSpecSpec)) resultsMatchSpecUptoCard
end Rows
end Go.Proofs.YtfdobbclpacijaaDoor
