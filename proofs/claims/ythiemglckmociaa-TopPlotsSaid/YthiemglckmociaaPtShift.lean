/- What Shift of package plot gives. Conditions: the list lies in memory as said. -/
import Derived.Test.YthiemglckmociaaPtChanged
import Derived.Test.YthiemglckmociaaPtMovedA
import Derived.Test.YthiemglckmociaaKit
namespace Go.Proofs.Ythiemglckmociaa
open Go.RowKit


end Go.Proofs.Ythiemglckmociaa
