/- What Quarter and Mirror of package plot give. Conditions: the list lies in memory as said. -/
import Derived.Test.YthiemglckmociaaPtChanged
import Derived.Test.YthiemglckmociaaPtMovedA
namespace Go.Proofs.Ythiemglckmociaa
open Go.RowKit
theorem gi_bd {l : List (Int × Int)} (hv : Valid l) {i : Nat} (hi : i < l.length) : bdP (gi l (0, 0) i) := by
  have := hv.bd i
  rwa [cor_lt hi] at this
end Go.Proofs.Ythiemglckmociaa
