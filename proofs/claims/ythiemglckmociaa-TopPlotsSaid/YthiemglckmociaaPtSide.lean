/- What side of the reference of package plot gives. Conditions: coordinates are small; the list lies in memory as said. -/
import Derived.Test.YthiemglckmociaaPtWhere
namespace Go.Proofs.Ythiemglckmociaa
open Go.RowKit Go.Shelf

theorem cr_bd (x a b : Int × Int) : -1 ≤ cr x a b ∧ cr x a b ≤ 1 := by unfold cr; split <;> (try split) <;> omega
/-- How often the first k sides go round a point. -/
def windK (l : List (Int × Int)) (x : Int × Int) (k : Nat) : Int := sumN (fun i => cr x (cor l i) (cor l (i + 1))) k
theorem windK_succ (l : List (Int × Int)) (x : Int × Int) (k : Nat) : windK l x (k + 1) = windK l x k + cr x (cor l k) (cor l (k + 1)) := rfl
def sideF (l : List (Int × Int)) (x : Int × Int) : Int := if onAny l x = true then 0 else if windK l x l.length = 0 then -1 else 1

end Go.Proofs.Ythiemglckmociaa
