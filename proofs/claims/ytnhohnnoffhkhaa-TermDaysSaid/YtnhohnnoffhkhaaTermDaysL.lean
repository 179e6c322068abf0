/- The law TermDays: its walk. Conditions: a calendar lies in memory as said. -/
import Derived.Test.YtnhohnnoffhkhaaTermKnown
namespace Go.Proofs.Ytnhohnnoffhkhaa
open Go.RowKit
set_option maxHeartbeats 4000000 in
set_option maxRecDepth 100000 in
theorem termDays_calls (v : Value) (c : Cal) (d : Int) (w : World) (h : CalAt w v c) :
    Gives Try.prog 9 #[v, .int .i64 d] w (.bool true) := by
  obtain ⟨fa, fc, sa, sc, rfl, hf, hs, hfc, hsc, hfl, hsl⟩ := h.cells
  have HCal := Lib.hid h
  clear h hf hs
  unfold Gives
  cases hL : (decide (100 < c.free.length) || decide (100 < c.still.length))
  · have e1 : (validF c == validF c) = true := by simp
    have e2 : (askedF c [d] [] == askedF c [d] []) = true := by simp
    have e3 : (weekR c d == weekR c d) = true := by simp
    have e4 : (freeR c d == freeR c d) = true := by simp
    have e5 : (stillR c d == stillR c d) = true := by simp
    go_enter Try.func9, Try.ntmps9
    go_wp2_with (first | (go_at_call 17; (with_reducible refine (long_calls _ c _ (HCal.out.below (by (repeat' (first | exact Below.refl _ _ | assumption | refine below_new ?_ _ | refine below_draw ?_ | refine below_tail (by assumption) ?_ | refine below_set ?_ (by first | omega | (simp <;> omega)) _))))).use ?_); intro w1 hb1 hz1 hc1 hf1; (try simp at hz1); have hy1 : w.heap.size < w1.heap.size := (by omega); have hx10 := fun o => hc1 (w.heap.size) o (by first | omega | (simp <;> omega)); clear hc1 hf1; rw [hL]) | (go_at_call 34; (with_reducible refine (Week_calls _ c d _ (HCal.out.below (by (repeat' (first | exact Below.refl _ _ | assumption | refine below_new ?_ _ | refine below_draw ?_ | refine below_tail (by assumption) ?_ | refine below_set ?_ (by first | omega | (simp <;> omega)) _))))).use ?_); intro w2 hb2 hz2 hc2 hf2; (try simp at hz2); have hy2 : w.heap.size < w2.heap.size := (by omega); have hx20 := fun o => hc2 (w.heap.size) o (by first | omega | (simp <;> omega)); clear hc2 hf2) | (go_at_call 35; (with_reducible refine (rWeek_calls _ c d _ (HCal.out.below (by (repeat' (first | exact Below.refl _ _ | assumption | refine below_new ?_ _ | refine below_draw ?_ | refine below_tail (by assumption) ?_ | refine below_set ?_ (by first | omega | (simp <;> omega)) _))))).use ?_); intro w3 hb3 hz3 hc3 hf3; (try simp at hz3); have hy3 : w.heap.size < w3.heap.size := (by omega); have hx30 := fun o => hc3 (w.heap.size) o (by first | omega | (simp <;> omega)); clear hc3 hf3) | (go_at_call 36; (with_reducible refine (IsFree_calls _ c d _ (HCal.out.below (by (repeat' (first | exact Below.refl _ _ | assumption | refine below_new ?_ _ | refine below_draw ?_ | refine below_tail (by assumption) ?_ | refine below_set ?_ (by first | omega | (simp <;> omega)) _))))).use ?_); intro w4 hb4 hz4 hc4 hf4; (try simp at hz4); have hy4 : w.heap.size < w4.heap.size := (by omega); have hx40 := fun o => hc4 (w.heap.size) o (by first | omega | (simp <;> omega)); clear hc4 hf4) | (go_at_call 37; (with_reducible refine (rIsFree_calls _ c d _ (HCal.out.below (by (repeat' (first | exact Below.refl _ _ | assumption | refine below_new ?_ _ | refine below_draw ?_ | refine below_tail (by assumption) ?_ | refine below_set ?_ (by first | omega | (simp <;> omega)) _))))).use ?_); intro w5 hb5 hz5 hc5 hf5; (try simp at hz5); have hy5 : w.heap.size < w5.heap.size := (by omega); have hx50 := fun o => hc5 (w.heap.size) o (by first | omega | (simp <;> omega)); clear hc5 hf5) | (go_at_call 38; (with_reducible refine (IsStill_calls _ c d _ (HCal.out.below (by (repeat' (first | exact Below.refl _ _ | assumption | refine below_new ?_ _ | refine below_draw ?_ | refine below_tail (by assumption) ?_ | refine below_set ?_ (by first | omega | (simp <;> omega)) _))))).use ?_); intro w6 hb6 hz6 hc6 hf6; (try simp at hz6); have hy6 : w.heap.size < w6.heap.size := (by omega); have hx60 := fun o => hc6 (w.heap.size) o (by first | omega | (simp <;> omega)); clear hc6 hf6) | (go_at_call 39; (with_reducible refine (rIsStill_calls _ c d _ (HCal.out.below (by (repeat' (first | exact Below.refl _ _ | assumption | refine below_new ?_ _ | refine below_draw ?_ | refine below_tail (by assumption) ?_ | refine below_set ?_ (by first | omega | (simp <;> omega)) _))))).use ?_); intro w7 hb7 hz7 hc7 hf7; (try simp at hz7); have hy7 : w.heap.size < w7.heap.size := (by omega); have hx70 := fun o => hc7 (w.heap.size) o (by first | omega | (simp <;> omega)); clear hc7 hf7))
    have q00 := fun d os => cell_regrown (show w7.cell? { block := w.heap.size, off := 0 } = some (.int .i64 c.first) by simp [hx70, hx60, hx50, hx40, hx30, hx20, hx10]) d os
    have q01 := fun d os => cell_regrown (show w7.cell? { block := w.heap.size, off := 1 } = some (.slice fa c.free.length fc) by simp [hx70, hx60, hx50, hx40, hx30, hx20, hx10]) d os
    have q02 := fun d os => cell_regrown (show w7.cell? { block := w.heap.size, off := 2 } = some (.slice sa c.still.length sc) by simp [hx70, hx60, hx50, hx40, hx30, hx20, hx10]) d os
    have HC7 := Lib.hid (HCal.out.below (w' := w7) (by (repeat' (first | exact Below.refl _ _ | assumption | refine below_new ?_ _ | refine below_draw ?_ | refine below_tail (by assumption) ?_ | refine below_set ?_ (by first | omega | (simp <;> omega)) _))))
    refine region_q mixed (by kernel_rfl) ?_
    repeat (go_big_quiet_step (first | (go_at_call 40; exact Calls.regrown_of (validate_calls _ c _ (HC7.out.below (below_regrown _ _ _)))) | (go_at_call 41; exact Calls.regrown_of (rvalidate_calls _ c _ (HC7.out.below (below_regrown _ _ _)))) | (go_at_call 18; exact Calls.regrown_of (known_calls _))))
    refine wpQuiet_nil ?_
    intro wq hbq
    clear q00 q01 q02
    go_wp2
    go_ret
    exact ⟨rfl, by (repeat' (first | exact Below.refl _ _ | assumption | refine below_new ?_ _ | refine below_draw ?_ | refine below_tail (by assumption) ?_ | refine below_set ?_ (by first | omega | (simp <;> omega)) _))⟩
  · go_enter Try.func9, Try.ntmps9
    go_wp2_with (first | (go_at_call 17; (with_reducible refine (long_calls _ c _ (HCal.out.below (by (repeat' (first | exact Below.refl _ _ | assumption | refine below_new ?_ _ | refine below_draw ?_ | refine below_tail (by assumption) ?_ | refine below_set ?_ (by first | omega | (simp <;> omega)) _))))).use ?_); intro w1 hb1 hz1 hc1 hf1; (try simp at hz1); have hy1 : w.heap.size < w1.heap.size := (by omega); have hx10 := fun o => hc1 (w.heap.size) o (by first | omega | (simp <;> omega)); clear hc1 hf1; rw [hL]) | (go_at_call 18; (with_reducible refine (known_calls _).use ?_); intro w2 hb2 hz2 hc2 hf2; (try simp at hz2); clear hc2 hf2))
    go_ret
    exact ⟨rfl, by (repeat' (first | exact Below.refl _ _ | assumption | refine below_new ?_ _ | refine below_draw ?_ | refine below_tail (by assumption) ?_ | refine below_set ?_ (by first | omega | (simp <;> omega)) _))⟩
end Go.Proofs.Ytnhohnnoffhkhaa
