/-
  No cell of these rows narrows 'for every input' (looked for: loops, veiled, ifaces, maps, wideKeys, modest, calm, conditions, laid).
  DERIVED. THE GIVEN ROWS OF THIS SEAT. 14 by the template 'for every input the law returns true; each argument reads behind the call as it read before'; 0 by the template 'total and deterministic' (their statements: YtnhohnnoffhkhaaTotals.lean).
  GIVEN WITH THE SEED: the statements are not yours to turn. If you find one false, say at which input.
  Laid BY PROGRAM, IN A SANDBOX (cutbox-rows.mjs): the forced cells as the released guide's own fill.sh prints them over the translation 45ba9b8577e81ce6… (all of the seat's roots in one cut). By AI agents, Wed Nov 11 2026. No macro, syntax, notation, axiom, sorry.
-/
import Derived.Test.YtnhohnnoffhkhaaChecked
import GoSem.Claim
import GoSem.ClaimJoined
import GoSem.ClaimMapViews
import Derived.JoinedTies
import Derived.KernelRfl
namespace Go.Proofs.Ytnhohnnoffhkhaa
/- THE CELL 'sum', in the pinned program and in every row, IS THE sha256 OF THE DUMP (.gsa) THAT YtnhohnnoffhkhaaProg.lean LOADS. Nothing in Lean hashes anything: it is a label: what it is worth is what the hold of that sum in a sandbox is worth. -/
noncomputable def Try.pinned : Pinned := { name := "ytnhohnnoffhkhaa", sum := "45ba9b8577e81ce617f2c517262d1183eb684b1ce89da34cc785f70b3d075565", checked := Try.checked }
namespace Rows
def none {H : Type} : Left H := { results := [], args := [] }

/-- 'selionlaw08.TermGrows': WHATEVER THE INPUT: true; the input reads as it did. -/
def termGrowsSpec : ChangeSpec := { name := "termGrows", fn := fun _ => fun
  | [d1, d2, d3] => { results := [.lit (.bool true)], args := [d1, d2, d3] }
  | _ => none }
def termGrowsRow : OpenClaim := { program := "ytnhohnnoffhkhaa", sum := "45ba9b8577e81ce617f2c517262d1183eb684b1ce89da34cc785f70b3d075565", func := "selion/selionlaw08.TermGrows", spec := "termGrows", unfollowed := true, recurses := true, apart := false }
def TermGrowsSaid : Prop := termGrowsRow.holds Try.pinned (OpenSpec.ofChange termGrowsSpec)

/-- ITS FALSE NEIGHBOUR: 'it returns false'. Refute it at one input. -/
def termGrowsWrong : ChangeSpec := { name := "termGrows", fn := fun _ => fun
  | [d1, d2, d3] => { results := [.lit (.bool false)], args := [d1, d2, d3] }
  | _ => none }
def TermGrowsWrongFalsely : Prop := termGrowsRow.holds Try.pinned (OpenSpec.ofChange termGrowsWrong)

/-- 'selionlaw08.TermVotes': WHATEVER THE INPUT: true; the input reads as it did. -/
def termVotesSpec : ChangeSpec := { name := "termVotes", fn := fun _ => fun
  | [d1, d2] => { results := [.lit (.bool true)], args := [d1, d2] }
  | _ => none }
def termVotesRow : OpenClaim := { program := "ytnhohnnoffhkhaa", sum := "45ba9b8577e81ce617f2c517262d1183eb684b1ce89da34cc785f70b3d075565", func := "selion/selionlaw08.TermVotes", spec := "termVotes", unfollowed := true, recurses := true, apart := false }
def TermVotesSaid : Prop := termVotesRow.holds Try.pinned (OpenSpec.ofChange termVotesSpec)

/-- ITS FALSE NEIGHBOUR: 'it returns false'. Refute it at one input. -/
def termVotesWrong : ChangeSpec := { name := "termVotes", fn := fun _ => fun
  | [d1, d2] => { results := [.lit (.bool false)], args := [d1, d2] }
  | _ => none }
def TermVotesWrongFalsely : Prop := termVotesRow.holds Try.pinned (OpenSpec.ofChange termVotesWrong)

/-- 'selionlaw08.TermSwings': WHATEVER THE INPUT: true; the input reads as it did. -/
def termSwingsSpec : ChangeSpec := { name := "termSwings", fn := fun _ => fun
  | [d] => { results := [.lit (.bool true)], args := [d] }
  | _ => none }
def termSwingsRow : OpenClaim := { program := "ytnhohnnoffhkhaa", sum := "45ba9b8577e81ce617f2c517262d1183eb684b1ce89da34cc785f70b3d075565", func := "selion/selionlaw08.TermSwings", spec := "termSwings", unfollowed := true, recurses := true, apart := false }
def TermSwingsSaid : Prop := termSwingsRow.holds Try.pinned (OpenSpec.ofChange termSwingsSpec)

/-- ITS FALSE NEIGHBOUR: 'it returns false'. Refute it at one input. -/
def termSwingsWrong : ChangeSpec := { name := "termSwings", fn := fun _ => fun
  | [d] => { results := [.lit (.bool false)], args := [d] }
  | _ => none }
def TermSwingsWrongFalsely : Prop := termSwingsRow.holds Try.pinned (OpenSpec.ofChange termSwingsWrong)

/-- 'selionlaw08.TermLatests': WHATEVER THE INPUT: true; the input reads as it did. -/
def termLatestsSpec : ChangeSpec := { name := "termLatests", fn := fun _ => fun
  | [d1, d2, d3] => { results := [.lit (.bool true)], args := [d1, d2, d3] }
  | _ => none }
def termLatestsRow : OpenClaim := { program := "ytnhohnnoffhkhaa", sum := "45ba9b8577e81ce617f2c517262d1183eb684b1ce89da34cc785f70b3d075565", func := "selion/selionlaw08.TermLatests", spec := "termLatests", unfollowed := true, recurses := true, apart := false }
def TermLatestsSaid : Prop := termLatestsRow.holds Try.pinned (OpenSpec.ofChange termLatestsSpec)

/-- ITS FALSE NEIGHBOUR: 'it returns false'. Refute it at one input. -/
def termLatestsWrong : ChangeSpec := { name := "termLatests", fn := fun _ => fun
  | [d1, d2, d3] => { results := [.lit (.bool false)], args := [d1, d2, d3] }
  | _ => none }
def TermLatestsWrongFalsely : Prop := termLatestsRow.holds Try.pinned (OpenSpec.ofChange termLatestsWrong)

/-- 'selionlaw08.TermChains': WHATEVER THE INPUT: true; the input reads as it did. -/
def termChainsSpec : ChangeSpec := { name := "termChains", fn := fun _ => fun
  | [d1, d2, d3] => { results := [.lit (.bool true)], args := [d1, d2, d3] }
  | _ => none }
def termChainsRow : OpenClaim := { program := "ytnhohnnoffhkhaa", sum := "45ba9b8577e81ce617f2c517262d1183eb684b1ce89da34cc785f70b3d075565", func := "selion/selionlaw08.TermChains", spec := "termChains", unfollowed := true, recurses := true, apart := false }
def TermChainsSaid : Prop := termChainsRow.holds Try.pinned (OpenSpec.ofChange termChainsSpec)

/-- ITS FALSE NEIGHBOUR: 'it returns false'. Refute it at one input. -/
def termChainsWrong : ChangeSpec := { name := "termChains", fn := fun _ => fun
  | [d1, d2, d3] => { results := [.lit (.bool false)], args := [d1, d2, d3] }
  | _ => none }
def TermChainsWrongFalsely : Prop := termChainsRow.holds Try.pinned (OpenSpec.ofChange termChainsWrong)

/-- 'seliontop.TopTerms': WHATEVER THE INPUT: true; the input reads as it did. -/
def topTermsSpec : ChangeSpec := { name := "topTerms", fn := fun _ => fun
  | [d1, d2, d3] => { results := [.lit (.bool true)], args := [d1, d2, d3] }
  | _ => none }
def topTermsRow : OpenClaim := { program := "ytnhohnnoffhkhaa", sum := "45ba9b8577e81ce617f2c517262d1183eb684b1ce89da34cc785f70b3d075565", func := "selion/seliontop.TopTerms", spec := "topTerms", unfollowed := true, recurses := true, apart := false }
def TopTermsSaid : Prop := topTermsRow.holds Try.pinned (OpenSpec.ofChange topTermsSpec)

/-- ITS FALSE NEIGHBOUR: 'it returns false'. Refute it at one input. -/
def topTermsWrong : ChangeSpec := { name := "topTerms", fn := fun _ => fun
  | [d1, d2, d3] => { results := [.lit (.bool false)], args := [d1, d2, d3] }
  | _ => none }
def TopTermsWrongFalsely : Prop := topTermsRow.holds Try.pinned (OpenSpec.ofChange topTermsWrong)

/-- 'selionlaw08.TermDays': WHATEVER THE INPUT: true; the input reads as it did. -/
def termDaysSpec : ChangeSpec := { name := "termDays", fn := fun _ => fun
  | [d1, d2] => { results := [.lit (.bool true)], args := [d1, d2] }
  | _ => none }
def termDaysRow : OpenClaim := { program := "ytnhohnnoffhkhaa", sum := "45ba9b8577e81ce617f2c517262d1183eb684b1ce89da34cc785f70b3d075565", func := "selion/selionlaw08.TermDays", spec := "termDays", unfollowed := true, recurses := true, apart := false }
def TermDaysSaid : Prop := termDaysRow.holds Try.pinned (OpenSpec.ofChange termDaysSpec)

/-- ITS FALSE NEIGHBOUR: 'it returns false'. Refute it at one input. -/
def termDaysWrong : ChangeSpec := { name := "termDays", fn := fun _ => fun
  | [d1, d2] => { results := [.lit (.bool false)], args := [d1, d2] }
  | _ => none }
def TermDaysWrongFalsely : Prop := termDaysRow.holds Try.pinned (OpenSpec.ofChange termDaysWrong)

/-- 'selionlaw08.TermNexts': WHATEVER THE INPUT: true; the input reads as it did. -/
def termNextsSpec : ChangeSpec := { name := "termNexts", fn := fun _ => fun
  | [d1, d2] => { results := [.lit (.bool true)], args := [d1, d2] }
  | _ => none }
def termNextsRow : OpenClaim := { program := "ytnhohnnoffhkhaa", sum := "45ba9b8577e81ce617f2c517262d1183eb684b1ce89da34cc785f70b3d075565", func := "selion/selionlaw08.TermNexts", spec := "termNexts", unfollowed := true, recurses := true, apart := false }
def TermNextsSaid : Prop := termNextsRow.holds Try.pinned (OpenSpec.ofChange termNextsSpec)

/-- ITS FALSE NEIGHBOUR: 'it returns false'. Refute it at one input. -/
def termNextsWrong : ChangeSpec := { name := "termNexts", fn := fun _ => fun
  | [d1, d2] => { results := [.lit (.bool false)], args := [d1, d2] }
  | _ => none }
def TermNextsWrongFalsely : Prop := termNextsRow.holds Try.pinned (OpenSpec.ofChange termNextsWrong)

/-- 'selionlaw08.TermAdds': WHATEVER THE INPUT: true; the input reads as it did. -/
def termAddsSpec : ChangeSpec := { name := "termAdds", fn := fun _ => fun
  | [d1, d2, d3] => { results := [.lit (.bool true)], args := [d1, d2, d3] }
  | _ => none }
def termAddsRow : OpenClaim := { program := "ytnhohnnoffhkhaa", sum := "45ba9b8577e81ce617f2c517262d1183eb684b1ce89da34cc785f70b3d075565", func := "selion/selionlaw08.TermAdds", spec := "termAdds", unfollowed := true, recurses := true, apart := false }
def TermAddsSaid : Prop := termAddsRow.holds Try.pinned (OpenSpec.ofChange termAddsSpec)

/-- ITS FALSE NEIGHBOUR: 'it returns false'. Refute it at one input. -/
def termAddsWrong : ChangeSpec := { name := "termAdds", fn := fun _ => fun
  | [d1, d2, d3] => { results := [.lit (.bool false)], args := [d1, d2, d3] }
  | _ => none }
def TermAddsWrongFalsely : Prop := termAddsRow.holds Try.pinned (OpenSpec.ofChange termAddsWrong)

/-- 'selionlaw08.TermCounts': WHATEVER THE INPUT: true; the input reads as it did. -/
def termCountsSpec : ChangeSpec := { name := "termCounts", fn := fun _ => fun
  | [d1, d2] => { results := [.lit (.bool true)], args := [d1, d2] }
  | _ => none }
def termCountsRow : OpenClaim := { program := "ytnhohnnoffhkhaa", sum := "45ba9b8577e81ce617f2c517262d1183eb684b1ce89da34cc785f70b3d075565", func := "selion/selionlaw08.TermCounts", spec := "termCounts", unfollowed := true, recurses := true, apart := false }
def TermCountsSaid : Prop := termCountsRow.holds Try.pinned (OpenSpec.ofChange termCountsSpec)

/-- ITS FALSE NEIGHBOUR: 'it returns false'. Refute it at one input. -/
def termCountsWrong : ChangeSpec := { name := "termCounts", fn := fun _ => fun
  | [d1, d2] => { results := [.lit (.bool false)], args := [d1, d2] }
  | _ => none }
def TermCountsWrongFalsely : Prop := termCountsRow.holds Try.pinned (OpenSpec.ofChange termCountsWrong)

/-- 'selionlaw08.TermEnds': WHATEVER THE INPUT: true; the input reads as it did. -/
def termEndsSpec : ChangeSpec := { name := "termEnds", fn := fun _ => fun
  | [d1, d2, d3] => { results := [.lit (.bool true)], args := [d1, d2, d3] }
  | _ => none }
def termEndsRow : OpenClaim := { program := "ytnhohnnoffhkhaa", sum := "45ba9b8577e81ce617f2c517262d1183eb684b1ce89da34cc785f70b3d075565", func := "selion/selionlaw08.TermEnds", spec := "termEnds", unfollowed := true, recurses := true, apart := false }
def TermEndsSaid : Prop := termEndsRow.holds Try.pinned (OpenSpec.ofChange termEndsSpec)

/-- ITS FALSE NEIGHBOUR: 'it returns false'. Refute it at one input. -/
def termEndsWrong : ChangeSpec := { name := "termEnds", fn := fun _ => fun
  | [d1, d2, d3] => { results := [.lit (.bool false)], args := [d1, d2, d3] }
  | _ => none }
def TermEndsWrongFalsely : Prop := termEndsRow.holds Try.pinned (OpenSpec.ofChange termEndsWrong)

/-- 'selionlaw08.TermWorks': WHATEVER THE INPUT: true; the input reads as it did. -/
def termWorksSpec : ChangeSpec := { name := "termWorks", fn := fun _ => fun
  | [d1, d2, d3] => { results := [.lit (.bool true)], args := [d1, d2, d3] }
  | _ => none }
def termWorksRow : OpenClaim := { program := "ytnhohnnoffhkhaa", sum := "45ba9b8577e81ce617f2c517262d1183eb684b1ce89da34cc785f70b3d075565", func := "selion/selionlaw08.TermWorks", spec := "termWorks", unfollowed := true, recurses := true, apart := false }
def TermWorksSaid : Prop := termWorksRow.holds Try.pinned (OpenSpec.ofChange termWorksSpec)

/-- ITS FALSE NEIGHBOUR: 'it returns false'. Refute it at one input. -/
def termWorksWrong : ChangeSpec := { name := "termWorks", fn := fun _ => fun
  | [d1, d2, d3] => { results := [.lit (.bool false)], args := [d1, d2, d3] }
  | _ => none }
def TermWorksWrongFalsely : Prop := termWorksRow.holds Try.pinned (OpenSpec.ofChange termWorksWrong)

/-- 'selionlaw08.TermWith': WHATEVER THE INPUT: true; the input reads as it did. -/
def termWithSpec : ChangeSpec := { name := "termWith", fn := fun _ => fun
  | [d1, d2, d3] => { results := [.lit (.bool true)], args := [d1, d2, d3] }
  | _ => none }
def termWithRow : OpenClaim := { program := "ytnhohnnoffhkhaa", sum := "45ba9b8577e81ce617f2c517262d1183eb684b1ce89da34cc785f70b3d075565", func := "selion/selionlaw08.TermWith", spec := "termWith", unfollowed := true, recurses := true, apart := false }
def TermWithSaid : Prop := termWithRow.holds Try.pinned (OpenSpec.ofChange termWithSpec)

/-- ITS FALSE NEIGHBOUR: 'it returns false'. Refute it at one input. -/
def termWithWrong : ChangeSpec := { name := "termWith", fn := fun _ => fun
  | [d1, d2, d3] => { results := [.lit (.bool false)], args := [d1, d2, d3] }
  | _ => none }
def TermWithWrongFalsely : Prop := termWithRow.holds Try.pinned (OpenSpec.ofChange termWithWrong)

/-- 'selionlaw08.TermObjections': WHATEVER THE INPUT: true; the input reads as it did. -/
def termObjectionsSpec : ChangeSpec := { name := "termObjections", fn := fun _ => fun
  | [d1, d2, d3] => { results := [.lit (.bool true)], args := [d1, d2, d3] }
  | _ => none }
def termObjectionsRow : OpenClaim := { program := "ytnhohnnoffhkhaa", sum := "45ba9b8577e81ce617f2c517262d1183eb684b1ce89da34cc785f70b3d075565", func := "selion/selionlaw08.TermObjections", spec := "termObjections", unfollowed := true, recurses := true, apart := false }
def TermObjectionsSaid : Prop := termObjectionsRow.holds Try.pinned (OpenSpec.ofChange termObjectionsSpec)

/-- ITS FALSE NEIGHBOUR: 'it returns false'. Refute it at one input. -/
def termObjectionsWrong : ChangeSpec := { name := "termObjections", fn := fun _ => fun
  | [d1, d2, d3] => { results := [.lit (.bool false)], args := [d1, d2, d3] }
  | _ => none }
def TermObjectionsWrongFalsely : Prop := termObjectionsRow.holds Try.pinned (OpenSpec.ofChange termObjectionsWrong)

/- THE SECOND FORM. 'bulk': how many values and letters a reading holds, each counted each time it is reached (what is shared counts as often as it is met; a slice's spare places count too). A statement '..UptoSaid' is the law's where the arguments, and the package variables that the reading takes, are together of bulk at most 1048576: NARROWER than '..Said'. Prove '..Said' where nothing that the law and all that it calls make is longer than what came in: it says more and counts as full. Else prove '..UptoSaid'. A law counts once. -/
mutual
def uptoBulk {H : Type} : DataW H → Nat
  | .lit (.string bytes) => bytes.length + 1
  | .lit _ => 1
  | .nil => 1
  | .ptr d => uptoBulk d + 1
  | .slice elems spare => uptoBulkAll elems + uptoBulkAll spare + 1
  | .agg parts => uptoBulkAll parts + 1
  | .iface _ d => uptoBulk d + 1
  | .map entries => uptoBulkEntries entries + 1
  | .held _ => 1
def uptoBulkAll {H : Type} : List (DataW H) → Nat
  | [] => 0
  | d :: r => uptoBulk d + uptoBulkAll r
def uptoBulkEntries {H : Type} : List (Lit × DataW H) → Nat
  | [] => 0
  | x :: r => uptoBulkEntry x + uptoBulkEntries r
def uptoBulkEntry {H : Type} : Lit × DataW H → Nat
  | (.string bytes, d) => bytes.length + uptoBulk d + 1
  | (_, d) => uptoBulk d + 1
 end
def uptoSmall : (H : Type) → List (DataW H) → Bool := fun _ ds => decide (uptoBulkAll ds ≤ 1048576)
def OpenSpec.upto (s : _root_.Go.ChangeSpec) : _root_.Go.OpenSpec := { _root_.Go.OpenSpec.ofChange s with cond := some uptoSmall }

/-- 'selionlaw08.TermGrows', WHERE WHAT IT READS IS OF BULK AT MOST 1048576: true; the input reads as it did. -/
def termGrowsUptoRow : OpenClaim := { program := "ytnhohnnoffhkhaa", sum := "45ba9b8577e81ce617f2c517262d1183eb684b1ce89da34cc785f70b3d075565", func := "selion/selionlaw08.TermGrows", spec := "termGrows", unfollowed := true, recurses := true, apart := false, narrowed := true }
def TermGrowsUptoSaid : Prop := termGrowsUptoRow.holds Try.pinned (OpenSpec.upto termGrowsSpec)

/-- 'selionlaw08.TermVotes', WHERE WHAT IT READS IS OF BULK AT MOST 1048576: true; the input reads as it did. -/
def termVotesUptoRow : OpenClaim := { program := "ytnhohnnoffhkhaa", sum := "45ba9b8577e81ce617f2c517262d1183eb684b1ce89da34cc785f70b3d075565", func := "selion/selionlaw08.TermVotes", spec := "termVotes", unfollowed := true, recurses := true, apart := false, narrowed := true }
def TermVotesUptoSaid : Prop := termVotesUptoRow.holds Try.pinned (OpenSpec.upto termVotesSpec)

/-- 'selionlaw08.TermSwings', WHERE WHAT IT READS IS OF BULK AT MOST 1048576: true; the input reads as it did. -/
def termSwingsUptoRow : OpenClaim := { program := "ytnhohnnoffhkhaa", sum := "45ba9b8577e81ce617f2c517262d1183eb684b1ce89da34cc785f70b3d075565", func := "selion/selionlaw08.TermSwings", spec := "termSwings", unfollowed := true, recurses := true, apart := false, narrowed := true }
def TermSwingsUptoSaid : Prop := termSwingsUptoRow.holds Try.pinned (OpenSpec.upto termSwingsSpec)

/-- 'selionlaw08.TermLatests', WHERE WHAT IT READS IS OF BULK AT MOST 1048576: true; the input reads as it did. -/
def termLatestsUptoRow : OpenClaim := { program := "ytnhohnnoffhkhaa", sum := "45ba9b8577e81ce617f2c517262d1183eb684b1ce89da34cc785f70b3d075565", func := "selion/selionlaw08.TermLatests", spec := "termLatests", unfollowed := true, recurses := true, apart := false, narrowed := true }
def TermLatestsUptoSaid : Prop := termLatestsUptoRow.holds Try.pinned (OpenSpec.upto termLatestsSpec)

/-- 'selionlaw08.TermChains', WHERE WHAT IT READS IS OF BULK AT MOST 1048576: true; the input reads as it did. -/
def termChainsUptoRow : OpenClaim := { program := "ytnhohnnoffhkhaa", sum := "45ba9b8577e81ce617f2c517262d1183eb684b1ce89da34cc785f70b3d075565", func := "selion/selionlaw08.TermChains", spec := "termChains", unfollowed := true, recurses := true, apart := false, narrowed := true }
def TermChainsUptoSaid : Prop := termChainsUptoRow.holds Try.pinned (OpenSpec.upto termChainsSpec)

/-- 'seliontop.TopTerms', WHERE WHAT IT READS IS OF BULK AT MOST 1048576: true; the input reads as it did. -/
def topTermsUptoRow : OpenClaim := { program := "ytnhohnnoffhkhaa", sum := "45ba9b8577e81ce617f2c517262d1183eb684b1ce89da34cc785f70b3d075565", func := "selion/seliontop.TopTerms", spec := "topTerms", unfollowed := true, recurses := true, apart := false, narrowed := true }
def TopTermsUptoSaid : Prop := topTermsUptoRow.holds Try.pinned (OpenSpec.upto topTermsSpec)

/-- 'selionlaw08.TermDays', WHERE WHAT IT READS IS OF BULK AT MOST 1048576: true; the input reads as it did. -/
def termDaysUptoRow : OpenClaim := { program := "ytnhohnnoffhkhaa", sum := "45ba9b8577e81ce617f2c517262d1183eb684b1ce89da34cc785f70b3d075565", func := "selion/selionlaw08.TermDays", spec := "termDays", unfollowed := true, recurses := true, apart := false, narrowed := true }
def TermDaysUptoSaid : Prop := termDaysUptoRow.holds Try.pinned (OpenSpec.upto termDaysSpec)

/-- 'selionlaw08.TermNexts', WHERE WHAT IT READS IS OF BULK AT MOST 1048576: true; the input reads as it did. -/
def termNextsUptoRow : OpenClaim := { program := "ytnhohnnoffhkhaa", sum := "45ba9b8577e81ce617f2c517262d1183eb684b1ce89da34cc785f70b3d075565", func := "selion/selionlaw08.TermNexts", spec := "termNexts", unfollowed := true, recurses := true, apart := false, narrowed := true }
def TermNextsUptoSaid : Prop := termNextsUptoRow.holds Try.pinned (OpenSpec.upto termNextsSpec)

/-- 'selionlaw08.TermAdds', WHERE WHAT IT READS IS OF BULK AT MOST 1048576: true; the input reads as it did. -/
def termAddsUptoRow : OpenClaim := { program := "ytnhohnnoffhkhaa", sum := "45ba9b8577e81ce617f2c517262d1183eb684b1ce89da34cc785f70b3d075565", func := "selion/selionlaw08.TermAdds", spec := "termAdds", unfollowed := true, recurses := true, apart := false, narrowed := true }
def TermAddsUptoSaid : Prop := termAddsUptoRow.holds Try.pinned (OpenSpec.upto termAddsSpec)

/-- 'selionlaw08.TermCounts', WHERE WHAT IT READS IS OF BULK AT MOST 1048576: true; the input reads as it did. -/
def termCountsUptoRow : OpenClaim := { program := "ytnhohnnoffhkhaa", sum := "45ba9b8577e81ce617f2c517262d1183eb684b1ce89da34cc785f70b3d075565", func := "selion/selionlaw08.TermCounts", spec := "termCounts", unfollowed := true, recurses := true, apart := false, narrowed := true }
def TermCountsUptoSaid : Prop := termCountsUptoRow.holds Try.pinned (OpenSpec.upto termCountsSpec)

/-- 'selionlaw08.TermEnds', WHERE WHAT IT READS IS OF BULK AT MOST 1048576: true; the input reads as it did. -/
def termEndsUptoRow : OpenClaim := { program := "ytnhohnnoffhkhaa", sum := "45ba9b8577e81ce617f2c517262d1183eb684b1ce89da34cc785f70b3d075565", func := "selion/selionlaw08.TermEnds", spec := "termEnds", unfollowed := true, recurses := true, apart := false, narrowed := true }
def TermEndsUptoSaid : Prop := termEndsUptoRow.holds Try.pinned (OpenSpec.upto termEndsSpec)

/-- 'selionlaw08.TermWorks', WHERE WHAT IT READS IS OF BULK AT MOST 1048576: true; the input reads as it did. -/
def termWorksUptoRow : OpenClaim := { program := "ytnhohnnoffhkhaa", sum := "45ba9b8577e81ce617f2c517262d1183eb684b1ce89da34cc785f70b3d075565", func := "selion/selionlaw08.TermWorks", spec := "termWorks", unfollowed := true, recurses := true, apart := false, narrowed := true }
def TermWorksUptoSaid : Prop := termWorksUptoRow.holds Try.pinned (OpenSpec.upto termWorksSpec)

/-- 'selionlaw08.TermWith', WHERE WHAT IT READS IS OF BULK AT MOST 1048576: true; the input reads as it did. -/
def termWithUptoRow : OpenClaim := { program := "ytnhohnnoffhkhaa", sum := "45ba9b8577e81ce617f2c517262d1183eb684b1ce89da34cc785f70b3d075565", func := "selion/selionlaw08.TermWith", spec := "termWith", unfollowed := true, recurses := true, apart := false, narrowed := true }
def TermWithUptoSaid : Prop := termWithUptoRow.holds Try.pinned (OpenSpec.upto termWithSpec)

/-- 'selionlaw08.TermObjections', WHERE WHAT IT READS IS OF BULK AT MOST 1048576: true; the input reads as it did. -/
def termObjectionsUptoRow : OpenClaim := { program := "ytnhohnnoffhkhaa", sum := "45ba9b8577e81ce617f2c517262d1183eb684b1ce89da34cc785f70b3d075565", func := "selion/selionlaw08.TermObjections", spec := "termObjections", unfollowed := true, recurses := true, apart := false, narrowed := true }
def TermObjectionsUptoSaid : Prop := termObjectionsUptoRow.holds Try.pinned (OpenSpec.upto termObjectionsSpec)

end Rows
end Go.Proofs.Ytnhohnnoffhkhaa
