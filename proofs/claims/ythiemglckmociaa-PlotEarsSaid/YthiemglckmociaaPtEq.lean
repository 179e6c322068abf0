/- Two points compared. -/
import Derived.Test.YthiemglckmociaaPtSlices
namespace Go.Proofs.Ythiemglckmociaa
open Go.RowKit
theorem eqi_pt (d : Nat) (a b c f : Int) (w : World) : (Op.equalIn (d + 1 + 1) 32 (.agg #[.int .i64 a, .int .i64 b]) (.agg #[.int .i64 c, .int .i64 f])).run Try.prog w = .ok ((a, b) == (c, f)) w := by
  have h2 : Try.prog.stoodInHeld 32 = false := by kernel_rfl
  have e : ((a, b) == (c, f)) = (decide (a = c) && decide (b = f)) := by rw [Bool.eq_iff_iff]; simp
  rw [e]
  simp only [Op.equalIn, Sem.run_bind, run_underlying Try.underlying32, Result.andThen_ok, run_program, h2, Bool.false_eq_true, if_false]
  simp [go_sem]
  by_cases k1 : a = c <;> by_cases k2 : b = f <;> simp [k1, k2]
theorem eql_pt (a b c d : Int) (w : World) : (binOp .eql 32 (.agg #[.int .i64 a, .int .i64 b]) (.agg #[.int .i64 c, .int .i64 d])).run Try.prog w = .ok (.bool ((a, b) == (c, d))) w := by
  simp only [binOp, Op.equal, Op.maxDepth, Sem.run_bind]
  rw [eqi_pt 9998]; rfl
theorem neq_pt (a b c d : Int) (w : World) : (binOp .neq 32 (.agg #[.int .i64 a, .int .i64 b]) (.agg #[.int .i64 c, .int .i64 d])).run Try.prog w = .ok (.bool (!((a, b) == (c, d)))) w := by
  simp only [binOp, Op.equal, Op.maxDepth, Sem.run_bind]
  rw [eqi_pt 9998]; rfl
theorem eqg_pt (op : BinOp) (x y : Operand) (xs ys : Array Value) (w : World) : (eqGuard op 32 x y (.agg xs) (.agg ys)).run Try.prog w = .ok () w := by
  have h : Try.prog.eqGuardType Try.prog.depth 32 = false := by kernel_rfl
  cases op <;> simp [eqGuard, run_program, h]
end Go.Proofs.Ythiemglckmociaa
