/- What Quarter, Mirror and Shift of the document give. Conditions: the list lies in memory as said. -/
import Derived.Test.YthiemglckmociaaPtShift2
import Derived.Test.YthiemglckmociaaKit
import Derived.Deep.RegionHeld3
import Derived.Deep.AppendLies
namespace Go.Proofs.Ythiemglckmociaa
open Go.RowKit
theorem PairsAt.cellB {w wr : World} {a : Option Addr} {n cap : Nat} {l : List (Int × Int)} (h : PairsAt w (.slice a n cap) l) (hb : Below w.heap.size w wr) {m : Nat} (hm : m < l.length) :
    ∃ b o, a = some ⟨b, o, none⟩ ∧ b < w.heap.size ∧ wr.cell? ⟨b, o + m * 2, none⟩ = some (.int .i64 (gi l (0, 0) m).1) ∧ wr.cell? ⟨b, o + m * 2 + 1, none⟩ = some (.int .i64 (gi l (0, 0) m).2) := by
  obtain ⟨b, o, e, hB, h1, h2⟩ := h.cellAt hm
  exact ⟨b, o, e, hB, (hb.cell (p := ⟨b, o + m * 2, none⟩) hB).trans h1, (hb.cell (p := ⟨b, o + m * 2 + 1, none⟩) hB).trans h2⟩
end Go.Proofs.Ythiemglckmociaa
