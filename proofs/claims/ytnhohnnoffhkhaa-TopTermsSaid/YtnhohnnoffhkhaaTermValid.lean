/- What the two Validates of package term give. Conditions: a calendar lies in memory as said. -/
import Derived.Test.YtnhohnnoffhkhaaTermLow
import Derived.Deep.RegionHeld3
import Derived.Deep.DeepCutAuto
import Derived.Lib.QuietBelow
namespace Go.Proofs.Ytnhohnnoffhkhaa
open Go.RowKit

theorem mixed : Try.prog.follows .mixedOrders = true := by kernel_rfl

set_option maxHeartbeats 1000000 in
set_option maxRecDepth 100000 in
theorem validate_calls (v : Value) (c : Cal) (w : World) (h : CalAt w v c) :
    Gives Try.prog 40 #[v] w (.int .i64 (validF c)) := by
  obtain ⟨fa, fc, sa, sc, rfl, hf, hs, hfc, hsc, hfl, hsl⟩ := h.cells
  have HF := Lib.hid hf
  have HS := Lib.hid hs
  clear h hf hs
  unfold Gives
  cases hw : withinB c.first 0 6
  · go_enter Try.func40, Try.ntmps40
    go_wp2_with (first
      | (go_at_call 82; refine (within_calls _ _ _ _).mono ?_; rintro e w' ⟨rfl, rfl⟩))
    go_ret
    exact ⟨ret_int (by unfold validF; rw [hw]; rfl), by (repeat' (first | exact Below.refl _ _ | assumption | refine below_new ?_ _ | refine below_draw ?_ | refine below_tail (by assumption) ?_ | refine below_set ?_ (by first | omega | (simp <;> omega)) _))⟩
  · by_cases hlf : 12 < c.free.length
    · have hlf1 : decide ((12 : Int) < (c.free.length : Int)) = true := by simp; omega
      go_enter Try.func40, Try.ntmps40
      go_wp2_with (first
        | (go_at_call 82; refine (within_calls _ _ _ _).mono ?_; rintro e w' ⟨rfl, rfl⟩))
      go_ret
      exact ⟨ret_int (by unfold validF; rw [hw]; simp [hlf]), by (repeat' (first | exact Below.refl _ _ | assumption | refine below_new ?_ _ | refine below_draw ?_ | refine below_tail (by assumption) ?_ | refine below_set ?_ (by first | omega | (simp <;> omega)) _))⟩
    · have hlf1 : decide ((12 : Int) < (c.free.length : Int)) = false := by simp; omega
      by_cases hls : 4 < c.still.length
      · have hls1 : decide ((4 : Int) < (c.still.length : Int)) = true := by simp; omega
        go_enter Try.func40, Try.ntmps40
        go_wp2_with (first
          | (go_at_call 82; refine (within_calls _ _ _ _).mono ?_; rintro e w' ⟨rfl, rfl⟩))
        go_ret
        exact ⟨ret_int (by unfold validF; rw [hw]; simp [hls]), by (repeat' (first | exact Below.refl _ _ | assumption | refine below_new ?_ _ | refine below_draw ?_ | refine below_tail (by assumption) ?_ | refine below_set ?_ (by first | omega | (simp <;> omega)) _))⟩
      · have hv : Hid (validF c = (if someFrom (badFree c.free) c.free.length 0 then 1 else if someFrom (badStill c.still) c.still.length 0 then 1 else 0)) := by
          unfold Hid validF; rw [hw]; simp [hls, hlf]
        have hls1 : decide ((4 : Int) < (c.still.length : Int)) = false := by simp; omega
        go_enter Try.func40, Try.ntmps40
        go_wp2_with (first
          | (go_at_call 82; refine (within_calls _ _ _ _).mono ?_; rintro e w' ⟨rfl, rfl⟩))
        go_loop [24] (fun i => ∃ k : Nat, k ≤ c.free.length ∧ i = .int .i64 k ∧ Hid (someFrom (badFree c.free) c.free.length 0 = someFrom (badFree c.free) c.free.length k)) (fun i => c.free.length - (intOf i).toNat)
        case atStart => exact ⟨0, Nat.zero_le _, rfl, rfl⟩
        case round =>
          obtain ⟨k, hk, rfl, hr⟩ := hrel
          by_cases hlt : k < c.free.length
          · have hcell0 := HF.out
            obtain ⟨fa', fc', e1, _, _, hcell0⟩ := hcell0
            simp only [Value.slice.injEq] at e1
            obtain ⟨rfl, _, rfl⟩ := e1
            have hprev := hcell0 (k - 1) (by omega)
            obtain ⟨b, o, rfl, hB, hcell⟩ := hcell0 k hlt
            clear hcell0
            obtain ⟨b', o', e1, _, hprev⟩ := hprev
            simp only [Option.some.injEq, Addr.mk.injEq, and_true] at e1
            obtain ⟨rfl, rfl⟩ := e1
            have HH : Hid (badFree c.free k = (!(withinB (gi c.free 0 k) 0 10000) || (decide (0 < k) && decide (gi c.free 0 k ≤ gi c.free 0 (k - 1))))) := rfl
            cases hx : withinB (gi c.free 0 k) 0 10000
            · have H1 := Lib.hid (someFrom_yes (p := badFree c.free) hlt (by rw [HH.out, hx]; rfl))
              go_wp2_with (go_at_call 82; refine (within_calls _ _ _ _).mono ?_; rintro e w' ⟨rfl, rfl⟩)
              go_ret
              exact ⟨ret_int (by rw [hv.out, hr.out, H1.out]; rfl), by (repeat' (first | exact Below.refl _ _ | assumption | refine below_new ?_ _ | refine below_draw ?_ | refine below_tail (by assumption) ?_ | refine below_set ?_ (by first | omega | (simp <;> omega)) _))⟩
            · by_cases hk0 : 0 < k
              · have hk1 : decide ((0 : Int) < (k : Int)) = true := by simpa using hk0
                have hk2 : (k : Int) - 1 = ((k - 1 : Nat) : Int) := by omega
                cases hy : decide (gi c.free 0 k ≤ gi c.free 0 (k - 1))
                · have H1 := Lib.hid (someFrom_no (p := badFree c.free) hlt (by rw [HH.out, hx, hy]; simp))
                  have H2 := Lib.hid hk2
                  clear hk2
                  go_wp2_with (go_at_call 82; refine (within_calls _ _ _ _).mono ?_; rintro e w' ⟨rfl, rfl⟩)
                  go_round
                  case rel => exact ⟨k + 1, by omega, by go_num, by unfold Hid; rw [hr.out, H1.out]⟩
                  case measure => simp [intOf]; omega
                · have H1 := Lib.hid (someFrom_yes (p := badFree c.free) hlt (by rw [HH.out, hx, hy]; simp [hk0]))
                  clear hk2
                  go_wp2_with (go_at_call 82; refine (within_calls _ _ _ _).mono ?_; rintro e w' ⟨rfl, rfl⟩)
                  go_ret
                  exact ⟨ret_int (by rw [hv.out, hr.out, H1.out]; rfl), by (repeat' (first | exact Below.refl _ _ | assumption | refine below_new ?_ _ | refine below_draw ?_ | refine below_tail (by assumption) ?_ | refine below_set ?_ (by first | omega | (simp <;> omega)) _))⟩
              · have hk1 : decide ((0 : Int) < (k : Int)) = false := by simp; omega
                have hk2 : decide (0 < k) = false := by simp; omega
                have H1 := Lib.hid (someFrom_no (p := badFree c.free) hlt (by rw [HH.out, hx, hk2]; simp))
                clear hk2
                go_wp2_with (go_at_call 82; refine (within_calls _ _ _ _).mono ?_; rintro e w' ⟨rfl, rfl⟩)
                go_round
                case rel => exact ⟨k + 1, by omega, by go_num, by unfold Hid; rw [hr.out, H1.out]⟩
                case measure => simp [intOf]; omega
          · have H1 := Lib.hid (hr.out.trans (someFrom_end (p := badFree c.free) hlt))
            clear hr
            go_wp2
            go_loopw [50] (fun i wr => ∃ k : Nat, k ≤ c.still.length ∧ i = .int .i64 k ∧ Hid (someFrom (badStill c.still) c.still.length 0 = someFrom (badStill c.still) c.still.length k) ∧
                Below (w.alloc (.cells #[.int .i64 c.first, .slice fa c.free.length fc, .slice sa c.still.length sc] 25)).heap.size (w.alloc (.cells #[.int .i64 c.first, .slice fa c.free.length fc, .slice sa c.still.length sc] 25)) wr)
              (fun i _ => c.still.length - (intOf i).toNat)
            case atStart => exact ⟨0, Nat.zero_le _, rfl, rfl, Below.refl _ _⟩
            case round =>
              obtain ⟨j, hj, rfl, hr, hb⟩ := hrel
              by_cases hjl : j < c.still.length
              · have hwr : w.heap.size < wr.heap.size := by have := hb.size; simp at this; omega
                have hcb : wr.cell? ⟨w.heap.size, 2, none⟩ = some (.slice sa c.still.length sc) := (hb.cell (p := ⟨w.heap.size, 2, none⟩) (by simp)).trans (by simp)
                obtain ⟨sa', sc', e1, _, _, hcell0⟩ := HS.out.below (w' := wr) (by (repeat' (first | exact Below.refl _ _ | assumption | refine below_new ?_ _ | refine below_draw ?_ | refine below_tail (by assumption) ?_ | refine below_set ?_ (by first | omega | (simp <;> omega)) _)))
                simp only [Value.slice.injEq] at e1
                obtain ⟨rfl, _, rfl⟩ := e1
                have hprev := hcell0 (j - 1) (by omega)
                obtain ⟨b, o, rfl, hB, hcell1, hcell2⟩ := hcell0 j hjl
                clear hcell0
                obtain ⟨b', o', e1, _, _, hprev⟩ := hprev
                simp only [Option.some.injEq, Addr.mk.injEq, and_true] at e1
                obtain ⟨rfl, rfl⟩ := e1
                have HH : Hid (badStill c.still j = (!(spanB (gi c.still (0, 0) j)) || (decide (0 < j) && decide ((gi c.still (0, 0) j).1 ≤ (gi c.still (0, 0) (j - 1)).2)))) := rfl
                cases hx : spanB (gi c.still (0, 0) j)
                · have H3 := Lib.hid (someFrom_yes (p := badStill c.still) hjl (by rw [HH.out, hx]; rfl))
                  have q0 := fun d os => cell_regrown (w := wr.alloc (.cells #[.int .i64 (gi c.still (0, 0) j).1, .int .i64 (gi c.still (0, 0) j).2] 50)) (a := ⟨wr.heap.size, 0, none⟩) (v := .int .i64 (gi c.still (0, 0) j).1) (by simp) d os
                  have q1 := fun d os => cell_regrown (w := wr.alloc (.cells #[.int .i64 (gi c.still (0, 0) j).1, .int .i64 (gi c.still (0, 0) j).2] 50)) (a := ⟨wr.heap.size, 1, none⟩) (v := .int .i64 (gi c.still (0, 0) j).2) (by simp) d os
                  go_wp2
                  refine wp_region_quiet_below mixed (by kernel_rfl) ?_
                  repeat (go_big_quiet_step ((go_at_call 67; exact Calls.regrown_of (isSpan_calls _ _))))
                  refine wpQuiet_nil ?_
                  rintro _ ⟨⟨dq, osq⟩, rfl⟩
                  have hbq := below_regrown (wr.alloc (.cells #[.int .i64 (gi c.still (0, 0) j).1, .int .i64 (gi c.still (0, 0) j).2] 50)) dq osq
                  clear q0 q1
                  revert hbq
                  generalize Go.Sort.grow (redrawn _ dq) osq = wq
                  intro hbq
                  go_wp2
                  go_ret
                  exact ⟨ret_int (by rw [hv.out, H1.out, hr.out, H3.out]; rfl), by (repeat' (first | exact Below.refl _ _ | assumption | refine below_new ?_ _ | refine below_draw ?_ | refine below_tail (by assumption) ?_ | refine below_set ?_ (by first | omega | (simp <;> omega)) _))⟩
                · by_cases hj0 : 0 < j
                  · have hj1 : decide ((0 : Int) < (j : Int)) = true := by simpa using hj0
                    have hj2 : (1 : Int) ≤ (j : Int) := by omega
                    cases hy : decide ((gi c.still (0, 0) j).1 ≤ (gi c.still (0, 0) (j - 1)).2)
                    · have H3 := Lib.hid (someFrom_no (p := badStill c.still) hjl (by rw [HH.out, hx, hy]; simp))
                      have q0 := fun d os => cell_regrown (w := wr.alloc (.cells #[.int .i64 (gi c.still (0, 0) j).1, .int .i64 (gi c.still (0, 0) j).2] 50)) (a := ⟨wr.heap.size, 0, none⟩) (v := .int .i64 (gi c.still (0, 0) j).1) (by simp) d os
                      have q1 := fun d os => cell_regrown (w := wr.alloc (.cells #[.int .i64 (gi c.still (0, 0) j).1, .int .i64 (gi c.still (0, 0) j).2] 50)) (a := ⟨wr.heap.size, 1, none⟩) (v := .int .i64 (gi c.still (0, 0) j).2) (by simp) d os
                      have q2 := fun d os => cell_regrown (w := wr.alloc (.cells #[.int .i64 (gi c.still (0, 0) j).1, .int .i64 (gi c.still (0, 0) j).2] 50)) (a := ⟨w.heap.size, 2, none⟩) (v := .slice (some ⟨b, o, none⟩) c.still.length sc) (((below_new (Below.refl _ wr) _).cell (p := ⟨w.heap.size, 2, none⟩) hwr).trans hcb) d os
                      have q3 := fun d os => cell_regrown (w := wr.alloc (.cells #[.int .i64 (gi c.still (0, 0) j).1, .int .i64 (gi c.still (0, 0) j).2] 50)) (a := ⟨b, o + (j - 1) * 2 + 1, none⟩) (v := .int .i64 (gi c.still (0, 0) (j - 1)).2) (((below_new (Below.refl _ wr) _).cell (p := ⟨b, o + (j - 1) * 2 + 1, none⟩) hB).trans hprev) d os
                      go_wp2
                      refine wp_region_quiet_below mixed (by kernel_rfl) ?_
                      repeat (go_big_quiet_step ((go_at_call 67; exact Calls.regrown_of (isSpan_calls _ _))))
                      refine wpQuiet_nil ?_
                      rintro _ ⟨⟨dq, osq⟩, rfl⟩
                      have hbq := below_regrown (wr.alloc (.cells #[.int .i64 (gi c.still (0, 0) j).1, .int .i64 (gi c.still (0, 0) j).2] 50)) dq osq
                      clear q0 q1 q2 q3
                      revert hbq
                      generalize Go.Sort.grow (redrawn _ dq) osq = wq
                      intro hbq
                      go_wp2
                      go_roundw
                      case rel => exact ⟨j + 1, by omega, by go_num, by unfold Hid; rw [hr.out, H3.out], by (repeat' (first | exact Below.refl _ _ | assumption | refine below_new ?_ _ | refine below_draw ?_ | refine below_tail (by assumption) ?_ | refine below_set ?_ (by first | omega | (simp <;> omega)) _))⟩
                      case measure => simp [intOf]; omega
                    · have H3 := Lib.hid (someFrom_yes (p := badStill c.still) hjl (by rw [HH.out, hx, hy]; simp [hj0]))
                      have q0 := fun d os => cell_regrown (w := wr.alloc (.cells #[.int .i64 (gi c.still (0, 0) j).1, .int .i64 (gi c.still (0, 0) j).2] 50)) (a := ⟨wr.heap.size, 0, none⟩) (v := .int .i64 (gi c.still (0, 0) j).1) (by simp) d os
                      have q1 := fun d os => cell_regrown (w := wr.alloc (.cells #[.int .i64 (gi c.still (0, 0) j).1, .int .i64 (gi c.still (0, 0) j).2] 50)) (a := ⟨wr.heap.size, 1, none⟩) (v := .int .i64 (gi c.still (0, 0) j).2) (by simp) d os
                      have q2 := fun d os => cell_regrown (w := wr.alloc (.cells #[.int .i64 (gi c.still (0, 0) j).1, .int .i64 (gi c.still (0, 0) j).2] 50)) (a := ⟨w.heap.size, 2, none⟩) (v := .slice (some ⟨b, o, none⟩) c.still.length sc) (((below_new (Below.refl _ wr) _).cell (p := ⟨w.heap.size, 2, none⟩) hwr).trans hcb) d os
                      have q3 := fun d os => cell_regrown (w := wr.alloc (.cells #[.int .i64 (gi c.still (0, 0) j).1, .int .i64 (gi c.still (0, 0) j).2] 50)) (a := ⟨b, o + (j - 1) * 2 + 1, none⟩) (v := .int .i64 (gi c.still (0, 0) (j - 1)).2) (((below_new (Below.refl _ wr) _).cell (p := ⟨b, o + (j - 1) * 2 + 1, none⟩) hB).trans hprev) d os
                      go_wp2
                      refine wp_region_quiet_below mixed (by kernel_rfl) ?_
                      repeat (go_big_quiet_step ((go_at_call 67; exact Calls.regrown_of (isSpan_calls _ _))))
                      refine wpQuiet_nil ?_
                      rintro _ ⟨⟨dq, osq⟩, rfl⟩
                      have hbq := below_regrown (wr.alloc (.cells #[.int .i64 (gi c.still (0, 0) j).1, .int .i64 (gi c.still (0, 0) j).2] 50)) dq osq
                      clear q0 q1 q2 q3
                      revert hbq
                      generalize Go.Sort.grow (redrawn _ dq) osq = wq
                      intro hbq
                      go_wp2
                      go_ret
                      exact ⟨ret_int (by rw [hv.out, H1.out, hr.out, H3.out]; rfl), by (repeat' (first | exact Below.refl _ _ | assumption | refine below_new ?_ _ | refine below_draw ?_ | refine below_tail (by assumption) ?_ | refine below_set ?_ (by first | omega | (simp <;> omega)) _))⟩
                  · have H3 := Lib.hid (someFrom_no (p := badStill c.still) hjl (by rw [HH.out, hx]; simp [hj0]))
                    have hj1 : decide ((0 : Int) < (j : Int)) = false := by simp; omega
                    have q0 := fun d os => cell_regrown (w := wr.alloc (.cells #[.int .i64 (gi c.still (0, 0) j).1, .int .i64 (gi c.still (0, 0) j).2] 50)) (a := ⟨wr.heap.size, 0, none⟩) (v := .int .i64 (gi c.still (0, 0) j).1) (by simp) d os
                    have q1 := fun d os => cell_regrown (w := wr.alloc (.cells #[.int .i64 (gi c.still (0, 0) j).1, .int .i64 (gi c.still (0, 0) j).2] 50)) (a := ⟨wr.heap.size, 1, none⟩) (v := .int .i64 (gi c.still (0, 0) j).2) (by simp) d os
                    go_wp2
                    refine wp_region_quiet_below mixed (by kernel_rfl) ?_
                    repeat (go_big_quiet_step ((go_at_call 67; exact Calls.regrown_of (isSpan_calls _ _))))
                    refine wpQuiet_nil ?_
                    rintro _ ⟨⟨dq, osq⟩, rfl⟩
                    have hbq := below_regrown (wr.alloc (.cells #[.int .i64 (gi c.still (0, 0) j).1, .int .i64 (gi c.still (0, 0) j).2] 50)) dq osq
                    clear q0 q1
                    revert hbq
                    generalize Go.Sort.grow (redrawn _ dq) osq = wq
                    intro hbq
                    go_wp2
                    go_roundw
                    case rel => exact ⟨j + 1, by omega, by go_num, by unfold Hid; rw [hr.out, H3.out], by (repeat' (first | exact Below.refl _ _ | assumption | refine below_new ?_ _ | refine below_draw ?_ | refine below_tail (by assumption) ?_ | refine below_set ?_ (by first | omega | (simp <;> omega)) _))⟩
                    case measure => simp [intOf]; omega
              · have H2 := Lib.hid (hr.out.trans (someFrom_end (p := badStill c.still) hjl))
                go_wp2
                go_ret
                exact ⟨ret_int (by rw [hv.out, H1.out, H2.out]; rfl), by (repeat' (first | exact Below.refl _ _ | assumption | refine below_new ?_ _ | refine below_draw ?_ | refine below_tail (by assumption) ?_ | refine below_set ?_ (by first | omega | (simp <;> omega)) _))⟩
end Go.Proofs.Ytnhohnnoffhkhaa
