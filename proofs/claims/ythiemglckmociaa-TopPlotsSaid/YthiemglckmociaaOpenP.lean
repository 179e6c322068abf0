/- Two closed facts of the program. No conditions. -/
import Derived.Test.YthiemglckmociaaOpen
namespace Go.Proofs.Ythiemglckmociaa
theorem own : ownKnob Try.prog.godebug = none := by kernel_rfl
theorem laidOut : laidOutB Try.prog = true := by kernel_rfl
end Go.Proofs.Ythiemglckmociaa
