/-
  No cell of these rows narrows 'for every input' (looked for: loops, veiled, ifaces, maps, wideKeys, modest, calm, conditions, laid).
  DERIVED. THE GIVEN ROWS OF THIS SEAT. 14 by the template 'for every input the law returns true; each argument reads behind the call as it read before'; 0 by the template 'total and deterministic' (their statements: YthiemglckmociaaTotals.lean).
  GIVEN WITH THE SEED: the statements are not yours to turn. If you find one false, say at which input.
  Laid BY PROGRAM, IN A SANDBOX (cutbox-rows.mjs): the forced cells as the released guide's own fill.sh prints them over the translation f766055eb3a2d14d… (all of the seat's roots in one cut). By AI agents, Wed Nov 11 2026. No macro, syntax, notation, axiom, sorry.
-/
import Derived.Test.YthiemglckmociaaChecked
import GoSem.Claim
import GoSem.ClaimJoined
import GoSem.ClaimMapViews
import Derived.JoinedTies
import Derived.KernelRfl
namespace Go.Proofs.Ythiemglckmociaa
/- THE CELL 'sum', in the pinned program and in every row, IS THE sha256 OF THE DUMP (.gsa) THAT YthiemglckmociaaProg.lean LOADS. Nothing in Lean hashes anything: it is a label: what it is worth is what the hold of that sum in a sandbox is worth. -/
noncomputable def Try.pinned : Pinned := { name := "ythiemglckmociaa", sum := "f766055eb3a2d14ddc11ae537e802cf030e7b121b105b67b477947ae6cec13d0", checked := Try.checked }
namespace Rows
def none {H : Type} : Left H := { results := [], args := [] }

/-- 'selionlaw01.PlotPoints': WHATEVER THE INPUT: true; the input reads as it did. -/
def plotPointsSpec : ChangeSpec := { name := "plotPoints", fn := fun _ => fun
  | [d] => { results := [.lit (.bool true)], args := [d] }
  | _ => none }
def plotPointsRow : OpenClaim := { program := "ythiemglckmociaa", sum := "f766055eb3a2d14ddc11ae537e802cf030e7b121b105b67b477947ae6cec13d0", func := "selion/selionlaw01.PlotPoints", spec := "plotPoints", unfollowed := true, recurses := true, apart := false }
def PlotPointsSaid : Prop := plotPointsRow.holds Try.pinned (OpenSpec.ofChange plotPointsSpec)

/-- ITS FALSE NEIGHBOUR: 'it returns false'. Refute it at one input. -/
def plotPointsWrong : ChangeSpec := { name := "plotPoints", fn := fun _ => fun
  | [d] => { results := [.lit (.bool false)], args := [d] }
  | _ => none }
def PlotPointsWrongFalsely : Prop := plotPointsRow.holds Try.pinned (OpenSpec.ofChange plotPointsWrong)

/-- 'selionlaw01.PlotAreas': WHATEVER THE INPUT: true; the input reads as it did. -/
def plotAreasSpec : ChangeSpec := { name := "plotAreas", fn := fun _ => fun
  | [d] => { results := [.lit (.bool true)], args := [d] }
  | _ => none }
def plotAreasRow : OpenClaim := { program := "ythiemglckmociaa", sum := "f766055eb3a2d14ddc11ae537e802cf030e7b121b105b67b477947ae6cec13d0", func := "selion/selionlaw01.PlotAreas", spec := "plotAreas", unfollowed := true, recurses := true, apart := false }
def PlotAreasSaid : Prop := plotAreasRow.holds Try.pinned (OpenSpec.ofChange plotAreasSpec)

/-- ITS FALSE NEIGHBOUR: 'it returns false'. Refute it at one input. -/
def plotAreasWrong : ChangeSpec := { name := "plotAreas", fn := fun _ => fun
  | [d] => { results := [.lit (.bool false)], args := [d] }
  | _ => none }
def PlotAreasWrongFalsely : Prop := plotAreasRow.holds Try.pinned (OpenSpec.ofChange plotAreasWrong)

/-- 'selionlaw01.PlotSides': WHATEVER THE INPUT: true; the input reads as it did. -/
def plotSidesSpec : ChangeSpec := { name := "plotSides", fn := fun _ => fun
  | [d1, d2] => { results := [.lit (.bool true)], args := [d1, d2] }
  | _ => none }
def plotSidesRow : OpenClaim := { program := "ythiemglckmociaa", sum := "f766055eb3a2d14ddc11ae537e802cf030e7b121b105b67b477947ae6cec13d0", func := "selion/selionlaw01.PlotSides", spec := "plotSides", unfollowed := true, recurses := true, apart := false }
def PlotSidesSaid : Prop := plotSidesRow.holds Try.pinned (OpenSpec.ofChange plotSidesSpec)

/-- ITS FALSE NEIGHBOUR: 'it returns false'. Refute it at one input. -/
def plotSidesWrong : ChangeSpec := { name := "plotSides", fn := fun _ => fun
  | [d1, d2] => { results := [.lit (.bool false)], args := [d1, d2] }
  | _ => none }
def PlotSidesWrongFalsely : Prop := plotSidesRow.holds Try.pinned (OpenSpec.ofChange plotSidesWrong)

/-- 'selionlaw01.PlotShifts': WHATEVER THE INPUT: true; the input reads as it did. -/
def plotShiftsSpec : ChangeSpec := { name := "plotShifts", fn := fun _ => fun
  | [d1, d2] => { results := [.lit (.bool true)], args := [d1, d2] }
  | _ => none }
def plotShiftsRow : OpenClaim := { program := "ythiemglckmociaa", sum := "f766055eb3a2d14ddc11ae537e802cf030e7b121b105b67b477947ae6cec13d0", func := "selion/selionlaw01.PlotShifts", spec := "plotShifts", unfollowed := true, recurses := true, apart := false }
def PlotShiftsSaid : Prop := plotShiftsRow.holds Try.pinned (OpenSpec.ofChange plotShiftsSpec)

/-- ITS FALSE NEIGHBOUR: 'it returns false'. Refute it at one input. -/
def plotShiftsWrong : ChangeSpec := { name := "plotShifts", fn := fun _ => fun
  | [d1, d2] => { results := [.lit (.bool false)], args := [d1, d2] }
  | _ => none }
def PlotShiftsWrongFalsely : Prop := plotShiftsRow.holds Try.pinned (OpenSpec.ofChange plotShiftsWrong)

/-- 'selionlaw01.PlotQuarters': WHATEVER THE INPUT: true; the input reads as it did. -/
def plotQuartersSpec : ChangeSpec := { name := "plotQuarters", fn := fun _ => fun
  | [d1, d2] => { results := [.lit (.bool true)], args := [d1, d2] }
  | _ => none }
def plotQuartersRow : OpenClaim := { program := "ythiemglckmociaa", sum := "f766055eb3a2d14ddc11ae537e802cf030e7b121b105b67b477947ae6cec13d0", func := "selion/selionlaw01.PlotQuarters", spec := "plotQuarters", unfollowed := true, recurses := true, apart := false }
def PlotQuartersSaid : Prop := plotQuartersRow.holds Try.pinned (OpenSpec.ofChange plotQuartersSpec)

/-- ITS FALSE NEIGHBOUR: 'it returns false'. Refute it at one input. -/
def plotQuartersWrong : ChangeSpec := { name := "plotQuarters", fn := fun _ => fun
  | [d1, d2] => { results := [.lit (.bool false)], args := [d1, d2] }
  | _ => none }
def PlotQuartersWrongFalsely : Prop := plotQuartersRow.holds Try.pinned (OpenSpec.ofChange plotQuartersWrong)

/-- 'seliontop.TopPlots': WHATEVER THE INPUT: true; the input reads as it did. -/
def topPlotsSpec : ChangeSpec := { name := "topPlots", fn := fun _ => fun
  | [d1, d2] => { results := [.lit (.bool true)], args := [d1, d2] }
  | _ => none }
def topPlotsRow : OpenClaim := { program := "ythiemglckmociaa", sum := "f766055eb3a2d14ddc11ae537e802cf030e7b121b105b67b477947ae6cec13d0", func := "selion/seliontop.TopPlots", spec := "topPlots", unfollowed := true, recurses := true, apart := false }
def TopPlotsSaid : Prop := topPlotsRow.holds Try.pinned (OpenSpec.ofChange topPlotsSpec)

/-- ITS FALSE NEIGHBOUR: 'it returns false'. Refute it at one input. -/
def topPlotsWrong : ChangeSpec := { name := "topPlots", fn := fun _ => fun
  | [d1, d2] => { results := [.lit (.bool false)], args := [d1, d2] }
  | _ => none }
def TopPlotsWrongFalsely : Prop := topPlotsRow.holds Try.pinned (OpenSpec.ofChange topPlotsWrong)

/-- 'selionlaw01.PlotEars': WHATEVER THE INPUT: true; the input reads as it did. -/
def plotEarsSpec : ChangeSpec := { name := "plotEars", fn := fun _ => fun
  | [d] => { results := [.lit (.bool true)], args := [d] }
  | _ => none }
def plotEarsRow : OpenClaim := { program := "ythiemglckmociaa", sum := "f766055eb3a2d14ddc11ae537e802cf030e7b121b105b67b477947ae6cec13d0", func := "selion/selionlaw01.PlotEars", spec := "plotEars", unfollowed := true, recurses := true, apart := false }
def PlotEarsSaid : Prop := plotEarsRow.holds Try.pinned (OpenSpec.ofChange plotEarsSpec)

/-- ITS FALSE NEIGHBOUR: 'it returns false'. Refute it at one input. -/
def plotEarsWrong : ChangeSpec := { name := "plotEars", fn := fun _ => fun
  | [d] => { results := [.lit (.bool false)], args := [d] }
  | _ => none }
def PlotEarsWrongFalsely : Prop := plotEarsRow.holds Try.pinned (OpenSpec.ofChange plotEarsWrong)

/-- 'selionlaw01.PlotSplits': WHATEVER THE INPUT: true; the input reads as it did. -/
def plotSplitsSpec : ChangeSpec := { name := "plotSplits", fn := fun _ => fun
  | [d1, d2, d3] => { results := [.lit (.bool true)], args := [d1, d2, d3] }
  | _ => none }
def plotSplitsRow : OpenClaim := { program := "ythiemglckmociaa", sum := "f766055eb3a2d14ddc11ae537e802cf030e7b121b105b67b477947ae6cec13d0", func := "selion/selionlaw01.PlotSplits", spec := "plotSplits", unfollowed := true, recurses := true, apart := false }
def PlotSplitsSaid : Prop := plotSplitsRow.holds Try.pinned (OpenSpec.ofChange plotSplitsSpec)

/-- ITS FALSE NEIGHBOUR: 'it returns false'. Refute it at one input. -/
def plotSplitsWrong : ChangeSpec := { name := "plotSplits", fn := fun _ => fun
  | [d1, d2, d3] => { results := [.lit (.bool false)], args := [d1, d2, d3] }
  | _ => none }
def PlotSplitsWrongFalsely : Prop := plotSplitsRow.holds Try.pinned (OpenSpec.ofChange plotSplitsWrong)

/-- 'selionlaw01.PlotNormals': WHATEVER THE INPUT: true; the input reads as it did. -/
def plotNormalsSpec : ChangeSpec := { name := "plotNormals", fn := fun _ => fun
  | [d] => { results := [.lit (.bool true)], args := [d] }
  | _ => none }
def plotNormalsRow : OpenClaim := { program := "ythiemglckmociaa", sum := "f766055eb3a2d14ddc11ae537e802cf030e7b121b105b67b477947ae6cec13d0", func := "selion/selionlaw01.PlotNormals", spec := "plotNormals", unfollowed := true, recurses := true, apart := false }
def PlotNormalsSaid : Prop := plotNormalsRow.holds Try.pinned (OpenSpec.ofChange plotNormalsSpec)

/-- ITS FALSE NEIGHBOUR: 'it returns false'. Refute it at one input. -/
def plotNormalsWrong : ChangeSpec := { name := "plotNormals", fn := fun _ => fun
  | [d] => { results := [.lit (.bool false)], args := [d] }
  | _ => none }
def PlotNormalsWrongFalsely : Prop := plotNormalsRow.holds Try.pinned (OpenSpec.ofChange plotNormalsWrong)

/-- 'selionlaw01.PlotSame': WHATEVER THE INPUT: true; the input reads as it did. -/
def plotSameSpec : ChangeSpec := { name := "plotSame", fn := fun _ => fun
  | [d1, d2] => { results := [.lit (.bool true)], args := [d1, d2] }
  | _ => none }
def plotSameRow : OpenClaim := { program := "ythiemglckmociaa", sum := "f766055eb3a2d14ddc11ae537e802cf030e7b121b105b67b477947ae6cec13d0", func := "selion/selionlaw01.PlotSame", spec := "plotSame", unfollowed := true, recurses := true, apart := false }
def PlotSameSaid : Prop := plotSameRow.holds Try.pinned (OpenSpec.ofChange plotSameSpec)

/-- ITS FALSE NEIGHBOUR: 'it returns false'. Refute it at one input. -/
def plotSameWrong : ChangeSpec := { name := "plotSame", fn := fun _ => fun
  | [d1, d2] => { results := [.lit (.bool false)], args := [d1, d2] }
  | _ => none }
def PlotSameWrongFalsely : Prop := plotSameRow.holds Try.pinned (OpenSpec.ofChange plotSameWrong)

/-- 'selionlaw01.PlotTurns': WHATEVER THE INPUT: true; the input reads as it did. -/
def plotTurnsSpec : ChangeSpec := { name := "plotTurns", fn := fun _ => fun
  | [d] => { results := [.lit (.bool true)], args := [d] }
  | _ => none }
def plotTurnsRow : OpenClaim := { program := "ythiemglckmociaa", sum := "f766055eb3a2d14ddc11ae537e802cf030e7b121b105b67b477947ae6cec13d0", func := "selion/selionlaw01.PlotTurns", spec := "plotTurns", unfollowed := true, recurses := true, apart := false }
def PlotTurnsSaid : Prop := plotTurnsRow.holds Try.pinned (OpenSpec.ofChange plotTurnsSpec)

/-- ITS FALSE NEIGHBOUR: 'it returns false'. Refute it at one input. -/
def plotTurnsWrong : ChangeSpec := { name := "plotTurns", fn := fun _ => fun
  | [d] => { results := [.lit (.bool false)], args := [d] }
  | _ => none }
def PlotTurnsWrongFalsely : Prop := plotTurnsRow.holds Try.pinned (OpenSpec.ofChange plotTurnsWrong)

/-- 'selionlaw01.PlotTriangles': WHATEVER THE INPUT: true; the input reads as it did. -/
def plotTrianglesSpec : ChangeSpec := { name := "plotTriangles", fn := fun _ => fun
  | [d] => { results := [.lit (.bool true)], args := [d] }
  | _ => none }
def plotTrianglesRow : OpenClaim := { program := "ythiemglckmociaa", sum := "f766055eb3a2d14ddc11ae537e802cf030e7b121b105b67b477947ae6cec13d0", func := "selion/selionlaw01.PlotTriangles", spec := "plotTriangles", unfollowed := true, recurses := true, apart := false }
def PlotTrianglesSaid : Prop := plotTrianglesRow.holds Try.pinned (OpenSpec.ofChange plotTrianglesSpec)

/-- ITS FALSE NEIGHBOUR: 'it returns false'. Refute it at one input. -/
def plotTrianglesWrong : ChangeSpec := { name := "plotTriangles", fn := fun _ => fun
  | [d] => { results := [.lit (.bool false)], args := [d] }
  | _ => none }
def PlotTrianglesWrongFalsely : Prop := plotTrianglesRow.holds Try.pinned (OpenSpec.ofChange plotTrianglesWrong)

/-- 'selionlaw01.PlotConvex': WHATEVER THE INPUT: true; the input reads as it did. -/
def plotConvexSpec : ChangeSpec := { name := "plotConvex", fn := fun _ => fun
  | [d] => { results := [.lit (.bool true)], args := [d] }
  | _ => none }
def plotConvexRow : OpenClaim := { program := "ythiemglckmociaa", sum := "f766055eb3a2d14ddc11ae537e802cf030e7b121b105b67b477947ae6cec13d0", func := "selion/selionlaw01.PlotConvex", spec := "plotConvex", unfollowed := true, recurses := true, apart := false }
def PlotConvexSaid : Prop := plotConvexRow.holds Try.pinned (OpenSpec.ofChange plotConvexSpec)

/-- ITS FALSE NEIGHBOUR: 'it returns false'. Refute it at one input. -/
def plotConvexWrong : ChangeSpec := { name := "plotConvex", fn := fun _ => fun
  | [d] => { results := [.lit (.bool false)], args := [d] }
  | _ => none }
def PlotConvexWrongFalsely : Prop := plotConvexRow.holds Try.pinned (OpenSpec.ofChange plotConvexWrong)

/-- 'selionlaw01.PlotHulls': WHATEVER THE INPUT: true; the input reads as it did. -/
def plotHullsSpec : ChangeSpec := { name := "plotHulls", fn := fun _ => fun
  | [d] => { results := [.lit (.bool true)], args := [d] }
  | _ => none }
def plotHullsRow : OpenClaim := { program := "ythiemglckmociaa", sum := "f766055eb3a2d14ddc11ae537e802cf030e7b121b105b67b477947ae6cec13d0", func := "selion/selionlaw01.PlotHulls", spec := "plotHulls", unfollowed := true, recurses := true, apart := false }
def PlotHullsSaid : Prop := plotHullsRow.holds Try.pinned (OpenSpec.ofChange plotHullsSpec)

/-- ITS FALSE NEIGHBOUR: 'it returns false'. Refute it at one input. -/
def plotHullsWrong : ChangeSpec := { name := "plotHulls", fn := fun _ => fun
  | [d] => { results := [.lit (.bool false)], args := [d] }
  | _ => none }
def PlotHullsWrongFalsely : Prop := plotHullsRow.holds Try.pinned (OpenSpec.ofChange plotHullsWrong)

/- THE SECOND FORM. 'bulk': how many values and letters a reading holds, each counted each time it is reached (what is shared counts as often as it is met; a slice's spare places count too). A statement '..UptoSaid' is the law's where the arguments, and the package variables that the reading takes, are together of bulk at most 1048576: NARROWER than '..Said'. Prove '..Said' where nothing that the law and all that it calls make is longer than what came in: it says more and counts as full. Else prove '..UptoSaid'. A law counts once. -/
mutual
def uptoBulk {H : Type} : DataW H → Nat
  | .lit (.string bytes) => bytes.length + 1
  | .lit _ => 1
  | .nil => 1
  | .ptr d => uptoBulk d + 1
  | .slice elems spare => uptoBulkAll elems + uptoBulkAll spare + 1
  | .agg parts => uptoBulkAll parts + 1
  | .iface _ d => uptoBulk d + 1
  | .map entries => uptoBulkEntries entries + 1
  | .held _ => 1
def uptoBulkAll {H : Type} : List (DataW H) → Nat
  | [] => 0
  | d :: r => uptoBulk d + uptoBulkAll r
def uptoBulkEntries {H : Type} : List (Lit × DataW H) → Nat
  | [] => 0
  | x :: r => uptoBulkEntry x + uptoBulkEntries r
def uptoBulkEntry {H : Type} : Lit × DataW H → Nat
  | (.string bytes, d) => bytes.length + uptoBulk d + 1
  | (_, d) => uptoBulk d + 1
 end
def uptoSmall : (H : Type) → List (DataW H) → Bool := fun _ ds => decide (uptoBulkAll ds ≤ 1048576)
def OpenSpec.upto (s : _root_.Go.ChangeSpec) : _root_.Go.OpenSpec := { _root_.Go.OpenSpec.ofChange s with cond := some uptoSmall }

/-- 'selionlaw01.PlotPoints', WHERE WHAT IT READS IS OF BULK AT MOST 1048576: true; the input reads as it did. -/
def plotPointsUptoRow : OpenClaim := { program := "ythiemglckmociaa", sum := "f766055eb3a2d14ddc11ae537e802cf030e7b121b105b67b477947ae6cec13d0", func := "selion/selionlaw01.PlotPoints", spec := "plotPoints", unfollowed := true, recurses := true, apart := false, narrowed := true }
def PlotPointsUptoSaid : Prop := plotPointsUptoRow.holds Try.pinned (OpenSpec.upto plotPointsSpec)

/-- 'selionlaw01.PlotAreas', WHERE WHAT IT READS IS OF BULK AT MOST 1048576: true; the input reads as it did. -/
def plotAreasUptoRow : OpenClaim := { program := "ythiemglckmociaa", sum := "f766055eb3a2d14ddc11ae537e802cf030e7b121b105b67b477947ae6cec13d0", func := "selion/selionlaw01.PlotAreas", spec := "plotAreas", unfollowed := true, recurses := true, apart := false, narrowed := true }
def PlotAreasUptoSaid : Prop := plotAreasUptoRow.holds Try.pinned (OpenSpec.upto plotAreasSpec)

/-- 'selionlaw01.PlotSides', WHERE WHAT IT READS IS OF BULK AT MOST 1048576: true; the input reads as it did. -/
def plotSidesUptoRow : OpenClaim := { program := "ythiemglckmociaa", sum := "f766055eb3a2d14ddc11ae537e802cf030e7b121b105b67b477947ae6cec13d0", func := "selion/selionlaw01.PlotSides", spec := "plotSides", unfollowed := true, recurses := true, apart := false, narrowed := true }
def PlotSidesUptoSaid : Prop := plotSidesUptoRow.holds Try.pinned (OpenSpec.upto plotSidesSpec)

/-- 'selionlaw01.PlotShifts', WHERE WHAT IT READS IS OF BULK AT MOST 1048576: true; the input reads as it did. -/
def plotShiftsUptoRow : OpenClaim := { program := "ythiemglckmociaa", sum := "f766055eb3a2d14ddc11ae537e802cf030e7b121b105b67b477947ae6cec13d0", func := "selion/selionlaw01.PlotShifts", spec := "plotShifts", unfollowed := true, recurses := true, apart := false, narrowed := true }
def PlotShiftsUptoSaid : Prop := plotShiftsUptoRow.holds Try.pinned (OpenSpec.upto plotShiftsSpec)

/-- 'selionlaw01.PlotQuarters', WHERE WHAT IT READS IS OF BULK AT MOST 1048576: true; the input reads as it did. -/
def plotQuartersUptoRow : OpenClaim := { program := "ythiemglckmociaa", sum := "f766055eb3a2d14ddc11ae537e802cf030e7b121b105b67b477947ae6cec13d0", func := "selion/selionlaw01.PlotQuarters", spec := "plotQuarters", unfollowed := true, recurses := true, apart := false, narrowed := true }
def PlotQuartersUptoSaid : Prop := plotQuartersUptoRow.holds Try.pinned (OpenSpec.upto plotQuartersSpec)

/-- 'seliontop.TopPlots', WHERE WHAT IT READS IS OF BULK AT MOST 1048576: true; the input reads as it did. -/
def topPlotsUptoRow : OpenClaim := { program := "ythiemglckmociaa", sum := "f766055eb3a2d14ddc11ae537e802cf030e7b121b105b67b477947ae6cec13d0", func := "selion/seliontop.TopPlots", spec := "topPlots", unfollowed := true, recurses := true, apart := false, narrowed := true }
def TopPlotsUptoSaid : Prop := topPlotsUptoRow.holds Try.pinned (OpenSpec.upto topPlotsSpec)

/-- 'selionlaw01.PlotEars', WHERE WHAT IT READS IS OF BULK AT MOST 1048576: true; the input reads as it did. -/
def plotEarsUptoRow : OpenClaim := { program := "ythiemglckmociaa", sum := "f766055eb3a2d14ddc11ae537e802cf030e7b121b105b67b477947ae6cec13d0", func := "selion/selionlaw01.PlotEars", spec := "plotEars", unfollowed := true, recurses := true, apart := false, narrowed := true }
def PlotEarsUptoSaid : Prop := plotEarsUptoRow.holds Try.pinned (OpenSpec.upto plotEarsSpec)

/-- 'selionlaw01.PlotSplits', WHERE WHAT IT READS IS OF BULK AT MOST 1048576: true; the input reads as it did. -/
def plotSplitsUptoRow : OpenClaim := { program := "ythiemglckmociaa", sum := "f766055eb3a2d14ddc11ae537e802cf030e7b121b105b67b477947ae6cec13d0", func := "selion/selionlaw01.PlotSplits", spec := "plotSplits", unfollowed := true, recurses := true, apart := false, narrowed := true }
def PlotSplitsUptoSaid : Prop := plotSplitsUptoRow.holds Try.pinned (OpenSpec.upto plotSplitsSpec)

/-- 'selionlaw01.PlotNormals', WHERE WHAT IT READS IS OF BULK AT MOST 1048576: true; the input reads as it did. -/
def plotNormalsUptoRow : OpenClaim := { program := "ythiemglckmociaa", sum := "f766055eb3a2d14ddc11ae537e802cf030e7b121b105b67b477947ae6cec13d0", func := "selion/selionlaw01.PlotNormals", spec := "plotNormals", unfollowed := true, recurses := true, apart := false, narrowed := true }
def PlotNormalsUptoSaid : Prop := plotNormalsUptoRow.holds Try.pinned (OpenSpec.upto plotNormalsSpec)

/-- 'selionlaw01.PlotSame', WHERE WHAT IT READS IS OF BULK AT MOST 1048576: true; the input reads as it did. -/
def plotSameUptoRow : OpenClaim := { program := "ythiemglckmociaa", sum := "f766055eb3a2d14ddc11ae537e802cf030e7b121b105b67b477947ae6cec13d0", func := "selion/selionlaw01.PlotSame", spec := "plotSame", unfollowed := true, recurses := true, apart := false, narrowed := true }
def PlotSameUptoSaid : Prop := plotSameUptoRow.holds Try.pinned (OpenSpec.upto plotSameSpec)

/-- 'selionlaw01.PlotTurns', WHERE WHAT IT READS IS OF BULK AT MOST 1048576: true; the input reads as it did. -/
def plotTurnsUptoRow : OpenClaim := { program := "ythiemglckmociaa", sum := "f766055eb3a2d14ddc11ae537e802cf030e7b121b105b67b477947ae6cec13d0", func := "selion/selionlaw01.PlotTurns", spec := "plotTurns", unfollowed := true, recurses := true, apart := false, narrowed := true }
def PlotTurnsUptoSaid : Prop := plotTurnsUptoRow.holds Try.pinned (OpenSpec.upto plotTurnsSpec)

/-- 'selionlaw01.PlotTriangles', WHERE WHAT IT READS IS OF BULK AT MOST 1048576: true; the input reads as it did. -/
def plotTrianglesUptoRow : OpenClaim := { program := "ythiemglckmociaa", sum := "f766055eb3a2d14ddc11ae537e802cf030e7b121b105b67b477947ae6cec13d0", func := "selion/selionlaw01.PlotTriangles", spec := "plotTriangles", unfollowed := true, recurses := true, apart := false, narrowed := true }
def PlotTrianglesUptoSaid : Prop := plotTrianglesUptoRow.holds Try.pinned (OpenSpec.upto plotTrianglesSpec)

/-- 'selionlaw01.PlotConvex', WHERE WHAT IT READS IS OF BULK AT MOST 1048576: true; the input reads as it did. -/
def plotConvexUptoRow : OpenClaim := { program := "ythiemglckmociaa", sum := "f766055eb3a2d14ddc11ae537e802cf030e7b121b105b67b477947ae6cec13d0", func := "selion/selionlaw01.PlotConvex", spec := "plotConvex", unfollowed := true, recurses := true, apart := false, narrowed := true }
def PlotConvexUptoSaid : Prop := plotConvexUptoRow.holds Try.pinned (OpenSpec.upto plotConvexSpec)

/-- 'selionlaw01.PlotHulls', WHERE WHAT IT READS IS OF BULK AT MOST 1048576: true; the input reads as it did. -/
def plotHullsUptoRow : OpenClaim := { program := "ythiemglckmociaa", sum := "f766055eb3a2d14ddc11ae537e802cf030e7b121b105b67b477947ae6cec13d0", func := "selion/selionlaw01.PlotHulls", spec := "plotHulls", unfollowed := true, recurses := true, apart := false, narrowed := true }
def PlotHullsUptoSaid : Prop := plotHullsUptoRow.holds Try.pinned (OpenSpec.upto plotHullsSpec)

end Rows
end Go.Proofs.Ythiemglckmociaa
