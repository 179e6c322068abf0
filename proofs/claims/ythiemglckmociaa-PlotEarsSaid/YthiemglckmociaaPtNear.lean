/- What near and the changes of single points give. Conditions: as said in each. -/
import Derived.Test.YthiemglckmociaaPtIdx
import Derived.Test.YthiemglckmociaaPtLow2
import Derived.Laws.Rows
namespace Go.Proofs.Ythiemglckmociaa
open Go.RowKit
def nearF (n : Int) : Int := if n ≤ -120 then -120 else if 120 ≤ n then 120 else n
set_option maxHeartbeats 400000 in
theorem near_calls (n : Int) (w : World) : Gives Try.prog 76 #[.int .i64 n] w (.int .i64 (nearF n)) := by
  have H : Hid (nearF n = if n ≤ -120 then -120 else if 120 ≤ n then 120 else n) := rfl
  unfold Gives
  rcases Int.lt_trichotomy n (-120) with c | c | c
  · go_enter Try.func76, Try.ntmps76
    go_wp2
    all_goals (go_ret; exact ⟨ret_int (by rw [H.out, if_pos (by omega)] <;> omega), Below.refl _ _⟩)
  · go_enter Try.func76, Try.ntmps76
    go_wp2
    all_goals (go_ret; exact ⟨ret_int (by rw [H.out, if_pos (by omega)] <;> omega), Below.refl _ _⟩)
  · by_cases d : 120 ≤ n
    · go_enter Try.func76, Try.ntmps76
      go_wp2
      all_goals (go_ret; exact ⟨ret_int (by rw [H.out, if_neg (by omega), if_pos (by omega)] <;> omega), Below.refl _ _⟩)
    · go_enter Try.func76, Try.ntmps76
      go_wp2
      all_goals (go_ret; exact ⟨ret_int (by rw [H.out, if_neg (by omega), if_neg (by omega)] <;> omega), Below.refl _ _⟩)
theorem near_is {n m : Int} (w : World) (h : nearF n = m) : Gives Try.prog 76 #[.int .i64 n] w (.int .i64 m) := h ▸ near_calls n w
theorem near_bd (n : Int) : -120 ≤ nearF n ∧ nearF n ≤ 120 := by unfold nearF; split <;> (try split) <;> omega
set_option maxHeartbeats 400000 in
theorem quarter1_calls (x : Int × Int) (w : World) (hx : bdP x) : Gives Try.prog 77 #[.agg #[.int .i64 x.1, .int .i64 x.2]] w (.agg #[.int .i64 (-x.2), .int .i64 x.1]) := by
  obtain ⟨⟨x1, x2⟩, x3, x4⟩ := hx
  unfold Gives
  go_enter Try.func77, Try.ntmps77
  go_wp2
  refine bodyPost_ret (results_cell_row rfl _ _ (w.heap.size + 1) _ _ _ _ rfl (heap_alloc2_new _ _ _) Try.underlying32 rfl (by kernel_rfl)) rfl ?_
  exact ⟨rfl, by (repeat' (first | exact Below.refl _ _ | assumption | refine below_new ?_ _ | refine below_draw ?_ | refine below_tail (by assumption) ?_ | refine below_set ?_ (by first | omega | (simp <;> omega)) _))⟩
set_option maxHeartbeats 400000 in
theorem mirror1_calls (x : Int × Int) (w : World) : Gives Try.prog 96 #[.agg #[.int .i64 x.1, .int .i64 x.2]] w (.agg #[.int .i64 x.2, .int .i64 x.1]) := by
  unfold Gives
  go_enter Try.func96, Try.ntmps96
  go_wp2
  refine bodyPost_ret (results_cell_row rfl _ _ (w.heap.size + 1) _ _ _ _ rfl (heap_alloc2_new _ _ _) Try.underlying32 rfl (by kernel_rfl)) rfl ?_
  exact ⟨rfl, by (repeat' (first | exact Below.refl _ _ | assumption | refine below_new ?_ _ | refine below_draw ?_ | refine below_tail (by assumption) ?_ | refine below_set ?_ (by first | omega | (simp <;> omega)) _))⟩
set_option maxHeartbeats 400000 in
theorem reverse1_calls (x : Int × Int) (w : World) : Gives Try.prog 97 #[.agg #[.int .i64 x.1, .int .i64 x.2]] w (.agg #[.int .i64 x.1, .int .i64 x.2]) := by
  unfold Gives
  go_enter Try.func97, Try.ntmps97
  go_wp2
  refine bodyPost_ret (results_cell_row rfl _ _ (w.heap.size + 1) _ _ _ _ rfl (heap_alloc2_new _ _ _) Try.underlying32 rfl (by kernel_rfl)) rfl ?_
  exact ⟨rfl, by (repeat' (first | exact Below.refl _ _ | assumption | refine below_new ?_ _ | refine below_draw ?_ | refine below_tail (by assumption) ?_ | refine below_set ?_ (by first | omega | (simp <;> omega)) _))⟩
end Go.Proofs.Ythiemglckmociaa
