/- Two equal lists of points are the same. Conditions: both lie in memory as said. -/
import Derived.Test.YthiemglckmociaaPtEq
import Derived.WalkSmall
import Derived.Test.YthiemglckmociaaPtIdx
import Derived.Test.YthiemglckmociaaPtLow2
namespace Go.Proofs.Ythiemglckmociaa
open Go.RowKit
attribute [local go_sem high] neq_pt eqg_pt
set_option maxHeartbeats 400000 in
theorem samePts_calls (a b : Value) (l : List (Int × Int)) (w : World) (ha : PairsAt w a l) (hb : PairsAt w b l) :
    Gives Try.prog 33 #[a, b] w (.bool true) := by
  have HA := Lib.hid ha
  have HB := Lib.hid hb
  obtain ⟨aa, ac, rfl, hal, ham, _⟩ := ha
  obtain ⟨ba, bc, rfl, hbl, hbm, _⟩ := hb
  unfold Gives
  have h1 : ((l.length : Int) != (l.length : Int)) = false := by simp
  go_enter Try.func33, Try.ntmps33
  go_wp2
  go_loopw [5] (fun i wr => ∃ k : Nat, k ≤ l.length ∧ i = .int .i64 k ∧ Below w.heap.size w wr) (fun i _ => l.length - (intOf i).toNat)
  case atStart => exact ⟨0, Nat.zero_le _, rfl, Below.refl _ _⟩
  case round =>
    obtain ⟨k, hk, rfl, hb⟩ := hrel
    by_cases hlt : k < l.length
    · have hg : decide ((k : Int) < (l.length : Int)) = true := by simpa using hlt
      obtain ⟨aa', ac', e1, _, _, hcell0⟩ := HA.out.below hb
      simp only [Value.slice.injEq] at e1
      obtain ⟨rfl, _, rfl⟩ := e1
      obtain ⟨ab, ao, rfl, hA, hcella, hcellA⟩ := hcell0 k hlt
      obtain ⟨ba', bc', e2, _, _, hcell1⟩ := HB.out.below hb
      simp only [Value.slice.injEq] at e2
      obtain ⟨rfl, _, rfl⟩ := e2
      obtain ⟨bb, bo, rfl, hB, hcellb, hcellB⟩ := hcell1 k hlt
      clear hcell0 hcell1
      have hs : (((gi l (0, 0) k).1, (gi l (0, 0) k).2) == ((gi l (0, 0) k).1, (gi l (0, 0) k).2)) = true := by simp
      have q0 := fun d os => cell_regrown hcella d os
      have q1 := fun d os => cell_regrown hcellb d os
      have q2 := fun d os => cell_regrown hcellA d os
      have q3 := fun d os => cell_regrown hcellB d os
      go_wp2
      refine region_q mixed (by kernel_rfl) ?_
      repeat (go_big_quiet_step (fail))
      refine wpQuiet_nil ?_
      intro wq hbq
      clear q0 q1 q2 q3
      go_wp2
      go_roundw
      case rel => exact ⟨k + 1, by omega, by go_num, by (repeat' (first | exact Below.refl _ _ | assumption | refine below_new ?_ _ | refine below_draw ?_ | refine below_tail (by assumption) ?_ | refine below_set ?_ (by first | omega | (simp <;> omega)) _))⟩
      case measure => simp [intOf]; omega
    · have hg : decide ((k : Int) < (l.length : Int)) = false := by simpa using hlt
      go_wp2
      go_ret
      exact ⟨rfl, hb⟩
end Go.Proofs.Ythiemglckmociaa
