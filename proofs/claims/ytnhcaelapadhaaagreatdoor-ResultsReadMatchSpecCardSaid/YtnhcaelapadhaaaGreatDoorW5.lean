/- Walks: the reference's digest. -/
import Derived.Test.YtnhcaelapadhaaaGreatDoorW4
namespace Go.Proofs.Sm
open Go.RowKit

end Go.Proofs.Sm
