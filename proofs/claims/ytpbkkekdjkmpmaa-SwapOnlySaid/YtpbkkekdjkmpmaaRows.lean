/-
  No cell of these rows narrows 'for every input' (looked for: loops, veiled, ifaces, maps, wideKeys, modest, calm, conditions, laid).
  DERIVED. THE GIVEN ROWS OF THIS SEAT. 5 by the template 'for every input the law returns true; each argument reads behind the call as it read before'; 0 by the template 'total and deterministic' (their statements: YtpbkkekdjkmpmaaTotals.lean).
  GIVEN WITH THE SEED: the statements are not yours to turn. If you find one false, say at which input.
  Laid BY PROGRAM, IN A SANDBOX (cutbox-rows.mjs): the forced cells as the released guide's own fill.sh prints them over the translation e6fdf16fd69ef143… (all of the seat's roots in one cut). By AI agents, Wed Nov 11 2026. No macro, syntax, notation, axiom, sorry.
-/
import Derived.Test.YtpbkkekdjkmpmaaChecked
import GoSem.Claim
import GoSem.ClaimJoined
import GoSem.ClaimMapViews
import Derived.JoinedTies
import Derived.KernelRfl
namespace Go.Proofs.Ytpbkkekdjkmpmaa
/- THE CELL 'sum', in the pinned program and in every row, IS THE sha256 OF THE DUMP (.gsa) THAT YtpbkkekdjkmpmaaProg.lean LOADS. Nothing in Lean hashes anything: it is a label: what it is worth is what the hold of that sum in a sandbox is worth. -/
noncomputable def Try.pinned : Pinned := { name := "ytpbkkekdjkmpmaa", sum := "e6fdf16fd69ef1435b7e1699e51c2009f049ca950ec772ad162a33da1bfe5f7d", checked := Try.checked }
namespace Rows
def none {H : Type} : Left H := { results := [], args := [] }

/-- 'selionlaw05.SwapLikes': WHATEVER THE INPUT: true; the input reads as it did. -/
def swapLikesSpec : ChangeSpec := { name := "swapLikes", fn := fun _ => fun
  | [d1, d2] => { results := [.lit (.bool true)], args := [d1, d2] }
  | _ => none }
def swapLikesRow : OpenClaim := { program := "ytpbkkekdjkmpmaa", sum := "e6fdf16fd69ef1435b7e1699e51c2009f049ca950ec772ad162a33da1bfe5f7d", func := "selion/selionlaw05.SwapLikes", spec := "swapLikes", unfollowed := true, recurses := true, apart := false }
def SwapLikesSaid : Prop := swapLikesRow.holds Try.pinned (OpenSpec.ofChange swapLikesSpec)

/-- ITS FALSE NEIGHBOUR: 'it returns false'. Refute it at one input. -/
def swapLikesWrong : ChangeSpec := { name := "swapLikes", fn := fun _ => fun
  | [d1, d2] => { results := [.lit (.bool false)], args := [d1, d2] }
  | _ => none }
def SwapLikesWrongFalsely : Prop := swapLikesRow.holds Try.pinned (OpenSpec.ofChange swapLikesWrong)

/-- 'selionlaw05.SwapRounds': WHATEVER THE INPUT: true; the input reads as it did. -/
def swapRoundsSpec : ChangeSpec := { name := "swapRounds", fn := fun _ => fun
  | [d] => { results := [.lit (.bool true)], args := [d] }
  | _ => none }
def swapRoundsRow : OpenClaim := { program := "ytpbkkekdjkmpmaa", sum := "e6fdf16fd69ef1435b7e1699e51c2009f049ca950ec772ad162a33da1bfe5f7d", func := "selion/selionlaw05.SwapRounds", spec := "swapRounds", unfollowed := true, recurses := true, apart := false }
def SwapRoundsSaid : Prop := swapRoundsRow.holds Try.pinned (OpenSpec.ofChange swapRoundsSpec)

/-- ITS FALSE NEIGHBOUR: 'it returns false'. Refute it at one input. -/
def swapRoundsWrong : ChangeSpec := { name := "swapRounds", fn := fun _ => fun
  | [d] => { results := [.lit (.bool false)], args := [d] }
  | _ => none }
def SwapRoundsWrongFalsely : Prop := swapRoundsRow.holds Try.pinned (OpenSpec.ofChange swapRoundsWrong)

/-- 'selionlaw05.SwapFirst': WHATEVER THE INPUT: true; the input reads as it did. -/
def swapFirstSpec : ChangeSpec := { name := "swapFirst", fn := fun _ => fun
  | [d] => { results := [.lit (.bool true)], args := [d] }
  | _ => none }
def swapFirstRow : OpenClaim := { program := "ytpbkkekdjkmpmaa", sum := "e6fdf16fd69ef1435b7e1699e51c2009f049ca950ec772ad162a33da1bfe5f7d", func := "selion/selionlaw05.SwapFirst", spec := "swapFirst", unfollowed := true, recurses := true, apart := false }
def SwapFirstSaid : Prop := swapFirstRow.holds Try.pinned (OpenSpec.ofChange swapFirstSpec)

/-- ITS FALSE NEIGHBOUR: 'it returns false'. Refute it at one input. -/
def swapFirstWrong : ChangeSpec := { name := "swapFirst", fn := fun _ => fun
  | [d] => { results := [.lit (.bool false)], args := [d] }
  | _ => none }
def SwapFirstWrongFalsely : Prop := swapFirstRow.holds Try.pinned (OpenSpec.ofChange swapFirstWrong)

/-- 'selionlaw05.SwapOnly': WHATEVER THE INPUT: true; the input reads as it did. -/
def swapOnlySpec : ChangeSpec := { name := "swapOnly", fn := fun _ => fun
  | [d1, d2] => { results := [.lit (.bool true)], args := [d1, d2] }
  | _ => none }
def swapOnlyRow : OpenClaim := { program := "ytpbkkekdjkmpmaa", sum := "e6fdf16fd69ef1435b7e1699e51c2009f049ca950ec772ad162a33da1bfe5f7d", func := "selion/selionlaw05.SwapOnly", spec := "swapOnly", unfollowed := true, recurses := true, apart := false }
def SwapOnlySaid : Prop := swapOnlyRow.holds Try.pinned (OpenSpec.ofChange swapOnlySpec)

/-- ITS FALSE NEIGHBOUR: 'it returns false'. Refute it at one input. -/
def swapOnlyWrong : ChangeSpec := { name := "swapOnly", fn := fun _ => fun
  | [d1, d2] => { results := [.lit (.bool false)], args := [d1, d2] }
  | _ => none }
def SwapOnlyWrongFalsely : Prop := swapOnlyRow.holds Try.pinned (OpenSpec.ofChange swapOnlyWrong)

/-- 'selionlaw05.SwapBest': WHATEVER THE INPUT: true; the input reads as it did. -/
def swapBestSpec : ChangeSpec := { name := "swapBest", fn := fun _ => fun
  | [d] => { results := [.lit (.bool true)], args := [d] }
  | _ => none }
def swapBestRow : OpenClaim := { program := "ytpbkkekdjkmpmaa", sum := "e6fdf16fd69ef1435b7e1699e51c2009f049ca950ec772ad162a33da1bfe5f7d", func := "selion/selionlaw05.SwapBest", spec := "swapBest", unfollowed := true, recurses := true, apart := false }
def SwapBestSaid : Prop := swapBestRow.holds Try.pinned (OpenSpec.ofChange swapBestSpec)

/-- ITS FALSE NEIGHBOUR: 'it returns false'. Refute it at one input. -/
def swapBestWrong : ChangeSpec := { name := "swapBest", fn := fun _ => fun
  | [d] => { results := [.lit (.bool false)], args := [d] }
  | _ => none }
def SwapBestWrongFalsely : Prop := swapBestRow.holds Try.pinned (OpenSpec.ofChange swapBestWrong)

/- THE SECOND FORM. 'bulk': how many values and letters a reading holds, each counted each time it is reached (what is shared counts as often as it is met; a slice's spare places count too). A statement '..UptoSaid' is the law's where the arguments, and the package variables that the reading takes, are together of bulk at most 1048576: NARROWER than '..Said'. Prove '..Said' where nothing that the law and all that it calls make is longer than what came in: it says more and counts as full. Else prove '..UptoSaid'. A law counts once. -/
mutual
def uptoBulk {H : Type} : DataW H → Nat
  | .lit (.string bytes) => bytes.length + 1
  | .lit _ => 1
  | .nil => 1
  | .ptr d => uptoBulk d + 1
  | .slice elems spare => uptoBulkAll elems + uptoBulkAll spare + 1
  | .agg parts => uptoBulkAll parts + 1
  | .iface _ d => uptoBulk d + 1
  | .map entries => uptoBulkEntries entries + 1
  | .held _ => 1
def uptoBulkAll {H : Type} : List (DataW H) → Nat
  | [] => 0
  | d :: r => uptoBulk d + uptoBulkAll r
def uptoBulkEntries {H : Type} : List (Lit × DataW H) → Nat
  | [] => 0
  | x :: r => uptoBulkEntry x + uptoBulkEntries r
def uptoBulkEntry {H : Type} : Lit × DataW H → Nat
  | (.string bytes, d) => bytes.length + uptoBulk d + 1
  | (_, d) => uptoBulk d + 1
 end
def uptoSmall : (H : Type) → List (DataW H) → Bool := fun _ ds => decide (uptoBulkAll ds ≤ 1048576)
def OpenSpec.upto (s : _root_.Go.ChangeSpec) : _root_.Go.OpenSpec := { _root_.Go.OpenSpec.ofChange s with cond := some uptoSmall }

/-- 'selionlaw05.SwapLikes', WHERE WHAT IT READS IS OF BULK AT MOST 1048576: true; the input reads as it did. -/
def swapLikesUptoRow : OpenClaim := { program := "ytpbkkekdjkmpmaa", sum := "e6fdf16fd69ef1435b7e1699e51c2009f049ca950ec772ad162a33da1bfe5f7d", func := "selion/selionlaw05.SwapLikes", spec := "swapLikes", unfollowed := true, recurses := true, apart := false, narrowed := true }
def SwapLikesUptoSaid : Prop := swapLikesUptoRow.holds Try.pinned (OpenSpec.upto swapLikesSpec)

/-- 'selionlaw05.SwapRounds', WHERE WHAT IT READS IS OF BULK AT MOST 1048576: true; the input reads as it did. -/
def swapRoundsUptoRow : OpenClaim := { program := "ytpbkkekdjkmpmaa", sum := "e6fdf16fd69ef1435b7e1699e51c2009f049ca950ec772ad162a33da1bfe5f7d", func := "selion/selionlaw05.SwapRounds", spec := "swapRounds", unfollowed := true, recurses := true, apart := false, narrowed := true }
def SwapRoundsUptoSaid : Prop := swapRoundsUptoRow.holds Try.pinned (OpenSpec.upto swapRoundsSpec)

/-- 'selionlaw05.SwapFirst', WHERE WHAT IT READS IS OF BULK AT MOST 1048576: true; the input reads as it did. -/
def swapFirstUptoRow : OpenClaim := { program := "ytpbkkekdjkmpmaa", sum := "e6fdf16fd69ef1435b7e1699e51c2009f049ca950ec772ad162a33da1bfe5f7d", func := "selion/selionlaw05.SwapFirst", spec := "swapFirst", unfollowed := true, recurses := true, apart := false, narrowed := true }
def SwapFirstUptoSaid : Prop := swapFirstUptoRow.holds Try.pinned (OpenSpec.upto swapFirstSpec)

/-- 'selionlaw05.SwapOnly', WHERE WHAT IT READS IS OF BULK AT MOST 1048576: true; the input reads as it did. -/
def swapOnlyUptoRow : OpenClaim := { program := "ytpbkkekdjkmpmaa", sum := "e6fdf16fd69ef1435b7e1699e51c2009f049ca950ec772ad162a33da1bfe5f7d", func := "selion/selionlaw05.SwapOnly", spec := "swapOnly", unfollowed := true, recurses := true, apart := false, narrowed := true }
def SwapOnlyUptoSaid : Prop := swapOnlyUptoRow.holds Try.pinned (OpenSpec.upto swapOnlySpec)

/-- 'selionlaw05.SwapBest', WHERE WHAT IT READS IS OF BULK AT MOST 1048576: true; the input reads as it did. -/
def swapBestUptoRow : OpenClaim := { program := "ytpbkkekdjkmpmaa", sum := "e6fdf16fd69ef1435b7e1699e51c2009f049ca950ec772ad162a33da1bfe5f7d", func := "selion/selionlaw05.SwapBest", spec := "swapBest", unfollowed := true, recurses := true, apart := false, narrowed := true }
def SwapBestUptoSaid : Prop := swapBestUptoRow.holds Try.pinned (OpenSpec.upto swapBestSpec)

end Rows
end Go.Proofs.Ytpbkkekdjkmpmaa
