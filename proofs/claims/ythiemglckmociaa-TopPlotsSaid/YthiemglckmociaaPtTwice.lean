/- What ranged and twice of the reference of package plot give. Conditions: coordinates are small; the list lies in memory as said. -/
import Derived.Test.YthiemglckmociaaPtSide
namespace Go.Proofs.Ythiemglckmociaa
open Go.RowKit Go.Shelf

end Go.Proofs.Ythiemglckmociaa
