/- Walks: the reference's look at a path. -/
import Derived.Test.YtnhcaelapadhaaaGreatDoorW12
import Derived.Test.YtnhcaelapadhaaaGreatDoorPlain8
import Derived.StillTailTactics
namespace Go.Proofs.Sm
open Go.RowKit

end Go.Proofs.Sm
