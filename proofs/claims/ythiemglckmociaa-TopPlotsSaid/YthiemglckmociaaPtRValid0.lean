/- What Validate of the reference of package plot gives. Conditions: the list lies in memory as said. -/
import Derived.Test.YthiemglckmociaaPtValid0
namespace Go.Proofs.Ythiemglckmociaa
open Go.RowKit Go.Shelf

attribute [local go_sem high] eql_pt eqg_pt

end Go.Proofs.Ythiemglckmociaa
