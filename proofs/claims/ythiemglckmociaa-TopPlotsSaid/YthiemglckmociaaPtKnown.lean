/- What field, known and Long of the statements about package plot give. No conditions. -/
import Derived.Test.YthiemglckmociaaPtIns
namespace Go.Proofs.Ythiemglckmociaa
open Go.RowKit

theorem Twice_is {v : Value} {l : List (Int × Int)} {a e : Int} (w : World) (h : PairsAt w v l) (ha : twiceF l = a) (he : validF l = e) : Gives Try.prog 23 #[v] w (.tuple #[.int .i64 a, .int .i64 e]) := by subst ha he; exact Twice_calls v l w h
theorem Side_is {v : Value} {l : List (Int × Int)} {x : Int × Int} {a e : Int} (w : World) (h : PairsAt w v l) (ha : sideP l x = a) (he : sideE l x = e) : Gives Try.prog 29 #[v, .agg #[.int .i64 x.1, .int .i64 x.2]] w (.tuple #[.int .i64 a, .int .i64 e]) := by subst ha he; exact Side_calls v l x w h
theorem OnBorder_is {v : Value} {l : List (Int × Int)} {a e : Int} (w : World) (h : PairsAt w v l) (ha : bordF l = a) (he : validF l = e) : Gives Try.prog 19 #[v] w (.tuple #[.int .i64 a, .int .i64 e]) := by subst ha he; exact OnBorder_calls v l w h
theorem Inside_is {v : Value} {l : List (Int × Int)} {a e : Int} (w : World) (h : PairsAt w v l) (ha : insideF l = a) (he : validF l = e) : Gives Try.prog 21 #[v] w (.tuple #[.int .i64 a, .int .i64 e]) := by subst ha he; exact Inside_calls v l w h
end Go.Proofs.Ythiemglckmociaa
