/- What Shift of package plot gives. Conditions: the list lies in memory as said. -/
import Derived.Test.YthiemglckmociaaPtShift
import Derived.Test.YthiemglckmociaaPtQuarter
namespace Go.Proofs.Ythiemglckmociaa
open Go.RowKit
end Go.Proofs.Ythiemglckmociaa
