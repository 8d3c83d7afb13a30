/- The closed facts of the row StepsBecauseIsDue (the function's text, the row's cells): no condition. -/
import Derived.Test.YtaabdbephemboaaGreatDoorCards
import Derived.Test.YtaabdbephemboaaGreatDoorTie
import Derived.OpenShut
import Derived.ShutString
import Derived.ChangeOld
import Derived.Deep.DeepHandedRow
import Derived.Deep.DeepWitnessRowRef
import Derived.Lib.LaidU8
import Derived.Lib.LaidTab
namespace Go.Proofs.YtaabdbephemboaaGreatDoor.because
open Go.ChangeShapes Go.WideShapes Go.ChangeAt Go.RowKit

set_option maxHeartbeats 0 in
set_option maxRecDepth 100000 in
theorem closed : joinedFacts Tryz.pinned.checked.prog 6 Tryz.f6 (OpenSpec.ofChange Rows.stepsBecauseIsDueSpec).bare Rows.stepsBecauseIsDueRow = true := by
  unfold joinedFacts
  simp only [Bool.and_eq_true]
  repeat' (refine And.intro ?_ ?_)
  all_goals (as_aux_lemma => kernel_rfl)
end Go.Proofs.YtaabdbephemboaaGreatDoor.because
