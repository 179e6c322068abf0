/- What the reference's Validate gives. Conditions: a calendar lies in memory as said. -/
import Derived.Test.YtnhohnnoffhkhaaTermValid
namespace Go.Proofs.Ytnhohnnoffhkhaa
open Go.RowKit

set_option maxHeartbeats 400000 in
theorem rspan_calls (s : Int × Int) (w : World) :
    Gives Try.prog 84 #[.agg #[.int .i64 s.1, .int .i64 s.2]] w (.bool (spanB s)) := by
  obtain ⟨a, b⟩ := s
  unfold Gives
  have H : Hid (spanB (a, b) = (withinB a 0 10000 && withinB b a 10000)) := by
    unfold Hid; rw [Bool.eq_iff_iff, spanB_iff, Bool.and_eq_true, withinB_iff, withinB_iff]; simp only; omega
  cases hw : withinB a 0 10000
  · go_enter Try.func84, Try.ntmps84
    go_wp2_with (go_at_call 83; refine (rwithin_calls _ _ _ _).mono ?_; rintro e w' ⟨rfl, rfl⟩)
    go_ret
    exact ⟨ret_bool (by rw [H.out, hw]; rfl), by (repeat' (first | exact Below.refl _ _ | assumption | refine below_new ?_ _ | refine below_draw ?_ | refine below_tail (by assumption) ?_ | refine below_set ?_ (by first | omega | (simp <;> omega)) _))⟩
  · go_enter Try.func84, Try.ntmps84
    go_wp2_with (go_at_call 83; refine (rwithin_calls _ _ _ _).mono ?_; rintro e w' ⟨rfl, rfl⟩)
    go_ret
    exact ⟨ret_bool (by rw [H.out, hw]; rfl), by (repeat' (first | exact Below.refl _ _ | assumption | refine below_new ?_ _ | refine below_draw ?_ | refine below_tail (by assumption) ?_ | refine below_set ?_ (by first | omega | (simp <;> omega)) _))⟩

set_option maxHeartbeats 1000000 in
set_option maxRecDepth 100000 in
theorem rvalidate_calls (v : Value) (c : Cal) (w : World) (h : CalAt w v c) :
    Gives Try.prog 41 #[v] w (.int .i64 (validF c)) := by
  obtain ⟨fa, fc, sa, sc, rfl, hf, hs, hfc, hsc, hfl, hsl⟩ := h.cells
  have HF := Lib.hid hf
  have HS := Lib.hid hs
  clear h hf hs
  unfold Gives
  cases hw : withinB c.first 0 6
  · go_enter Try.func41, Try.ntmps41
    go_wp2_with (first
      | (go_at_call 83; refine (rwithin_calls _ _ _ _).mono ?_; rintro e w' ⟨rfl, rfl⟩))
    go_ret
    exact ⟨ret_int (by unfold validF; rw [hw]; rfl), by (repeat' (first | exact Below.refl _ _ | assumption | refine below_new ?_ _ | refine below_draw ?_ | refine below_tail (by assumption) ?_ | refine below_set ?_ (by first | omega | (simp <;> omega)) _))⟩
  · by_cases hlf : 12 < c.free.length
    · have hlf1 : decide ((12 : Int) < (c.free.length : Int)) = true := by simp; omega
      go_enter Try.func41, Try.ntmps41
      go_wp2_with (first
        | (go_at_call 83; refine (rwithin_calls _ _ _ _).mono ?_; rintro e w' ⟨rfl, rfl⟩))
      go_ret
      exact ⟨ret_int (by unfold validF; rw [hw]; simp [hlf]), by (repeat' (first | exact Below.refl _ _ | assumption | refine below_new ?_ _ | refine below_draw ?_ | refine below_tail (by assumption) ?_ | refine below_set ?_ (by first | omega | (simp <;> omega)) _))⟩
    · have hlf1 : decide ((12 : Int) < (c.free.length : Int)) = false := by simp; omega
      by_cases hls : 4 < c.still.length
      · have hls1 : decide ((4 : Int) < (c.still.length : Int)) = true := by simp; omega
        go_enter Try.func41, Try.ntmps41
        go_wp2_with (first
          | (go_at_call 83; refine (rwithin_calls _ _ _ _).mono ?_; rintro e w' ⟨rfl, rfl⟩))
        go_ret
        exact ⟨ret_int (by unfold validF; rw [hw]; simp [hls]), by (repeat' (first | exact Below.refl _ _ | assumption | refine below_new ?_ _ | refine below_draw ?_ | refine below_tail (by assumption) ?_ | refine below_set ?_ (by first | omega | (simp <;> omega)) _))⟩
      · have hv : Hid (validF c = (if someFrom (badFree c.free) c.free.length 0 then 1 else if someFrom (badStill c.still) c.still.length 0 then 1 else 0)) := by
          unfold Hid validF; rw [hw]; simp [hls, hlf]
        have hls1 : decide ((4 : Int) < (c.still.length : Int)) = false := by simp; omega
        go_enter Try.func41, Try.ntmps41
        go_wp2_with (first
          | (go_at_call 83; refine (rwithin_calls _ _ _ _).mono ?_; rintro e w' ⟨rfl, rfl⟩))
        obtain ⟨W0, hW0, HW0⟩ : ∃ W0, Below w.heap.size w W0 ∧ Hid (W0.cell? ⟨w.heap.size, 1, none⟩ = some (.slice fa c.free.length fc) ∧ W0.cell? ⟨w.heap.size, 2, none⟩ = some (.slice sa c.still.length sc) ∧ w.heap.size < W0.heap.size ∧
            W0 = w.alloc (.cells #[.int .i64 c.first, .slice fa c.free.length fc, .slice sa c.still.length sc] 25)) :=
          ⟨_, below_new (Below.refl _ w) _, by unfold Hid; exact ⟨by simp, by simp, by simp, rfl⟩⟩
        obtain ⟨hk1, hk2, hk3, hk4⟩ := HW0.out
        clear HW0
        rw [← hk4]
        clear hk4
        go_loopw [3] (fun i wr => ∃ k : Nat, k ≤ c.free.length ∧ i = .int .i64 k ∧ Hid (someFrom (badFree c.free) c.free.length 0 = someFrom (badFree c.free) c.free.length k) ∧ Below W0.heap.size W0 wr) (fun i _ => c.free.length - (intOf i).toNat)
        case atStart => exact ⟨0, Nat.zero_le _, rfl, rfl, Below.refl _ _⟩
        case round =>
          obtain ⟨k, hk, rfl, hr, hb⟩ := hrel
          have hb0 : Below w.heap.size w wr := below_tail hb hW0
          have hcb : wr.cell? ⟨w.heap.size, 1, none⟩ = some (.slice fa c.free.length fc) := (hb.cell (p := ⟨w.heap.size, 1, none⟩) hk3).trans hk1
          by_cases hlt : k < c.free.length
          · have hcell0 := HF.out.below hb0
            obtain ⟨fa', fc', e1, _, _, hcell0⟩ := hcell0
            simp only [Value.slice.injEq] at e1
            obtain ⟨rfl, _, rfl⟩ := e1
            have hprev := hcell0 (k - 1) (by omega)
            obtain ⟨b, o, rfl, hB, hcell⟩ := hcell0 k hlt
            clear hcell0
            obtain ⟨b', o', e1, _, hprev⟩ := hprev
            simp only [Option.some.injEq, Addr.mk.injEq, and_true] at e1
            obtain ⟨rfl, rfl⟩ := e1
            have q0 := fun d os => cell_regrown hcb d os
            have q1 := fun d os => cell_regrown hcell d os
            have q2 := fun d os => cell_regrown hprev d os
            have HH : Hid (badFree c.free k = (!(withinB (gi c.free 0 k) 0 10000) || (decide (0 < k) && decide (gi c.free 0 k ≤ gi c.free 0 (k - 1))))) := rfl
            cases hx : withinB (gi c.free 0 k) 0 10000
            · have H1 := Lib.hid (someFrom_yes (p := badFree c.free) hlt (by rw [HH.out, hx]; rfl))
              go_wp2
              refine region_q mixed (by kernel_rfl) ?_
              repeat (go_big_quiet_step ((go_at_call 83; exact Calls.regrown_of (Gives.of_same (rwithin_calls _ _ _ _)))))
              refine wpQuiet_nil ?_
              intro wq hbq
              clear q0 q1 q2
              go_wp2
              go_ret
              exact ⟨ret_int (by rw [hv.out, hr.out, H1.out]; rfl), below_tail hbq hb0⟩
            · by_cases hk0 : 0 < k
              · have hk1 : decide ((0 : Int) < (k : Int)) = true := by simpa using hk0
                have hj2 : (1 : Int) ≤ (k : Int) := by omega
                cases hy : decide (gi c.free 0 k ≤ gi c.free 0 (k - 1))
                · have H1 := Lib.hid (someFrom_no (p := badFree c.free) hlt (by rw [HH.out, hx, hy]; simp))
                  go_wp2
                  refine region_q mixed (by kernel_rfl) ?_
                  repeat (go_big_quiet_step ((go_at_call 83; exact Calls.regrown_of (Gives.of_same (rwithin_calls _ _ _ _)))))
                  refine wpQuiet_nil ?_
                  intro wq hbq
                  clear q0 q1 q2
                  go_wp2
                  go_roundw
                  case rel => exact ⟨k + 1, by omega, by go_num, by unfold Hid; rw [hr.out, H1.out], below_tail hbq hb⟩
                  case measure => simp [intOf]; omega
                · have H1 := Lib.hid (someFrom_yes (p := badFree c.free) hlt (by rw [HH.out, hx, hy]; simp [hk0]))
                  go_wp2
                  refine region_q mixed (by kernel_rfl) ?_
                  repeat (go_big_quiet_step ((go_at_call 83; exact Calls.regrown_of (Gives.of_same (rwithin_calls _ _ _ _)))))
                  refine wpQuiet_nil ?_
                  intro wq hbq
                  clear q0 q1 q2
                  go_wp2
                  go_ret
                  exact ⟨ret_int (by rw [hv.out, hr.out, H1.out]; rfl), below_tail hbq hb0⟩
              · have hk1 : decide ((0 : Int) < (k : Int)) = false := by simp; omega
                have H1 := Lib.hid (someFrom_no (p := badFree c.free) hlt (by rw [HH.out, hx]; simp [hk0]))
                go_wp2
                refine region_q mixed (by kernel_rfl) ?_
                repeat (go_big_quiet_step ((go_at_call 83; exact Calls.regrown_of (Gives.of_same (rwithin_calls _ _ _ _)))))
                refine wpQuiet_nil ?_
                intro wq hbq
                clear q0 q1 q2
                go_wp2
                go_roundw
                case rel => exact ⟨k + 1, by omega, by go_num, by unfold Hid; rw [hr.out, H1.out], below_tail hbq hb⟩
                case measure => simp [intOf]; omega
          · have H1 := Lib.hid (hr.out.trans (someFrom_end (p := badFree c.free) hlt))
            clear hr
            go_wp2
            go_loopw [4] (fun i wr => ∃ k : Nat, k ≤ c.still.length ∧ i = .int .i64 k ∧ Hid (someFrom (badStill c.still) c.still.length 0 = someFrom (badStill c.still) c.still.length k) ∧ Below W0.heap.size W0 wr)
              (fun i _ => c.still.length - (intOf i).toNat)
            case atStart => exact ⟨0, Nat.zero_le _, rfl, rfl, hb⟩
            case round =>
              clear hb hb0 hcb
              obtain ⟨j, hj, rfl, hr, hb⟩ := hrel
              have hb0 : Below w.heap.size w wr := below_tail hb hW0
              have hcb : wr.cell? ⟨w.heap.size, 2, none⟩ = some (.slice sa c.still.length sc) := (hb.cell (p := ⟨w.heap.size, 2, none⟩) hk3).trans hk2
              by_cases hjl : j < c.still.length
              · obtain ⟨sa', sc', e1, _, _, hcell0⟩ := HS.out.below hb0
                simp only [Value.slice.injEq] at e1
                obtain ⟨rfl, _, rfl⟩ := e1
                have hprev := hcell0 (j - 1) (by omega)
                obtain ⟨b, o, rfl, hB, hcell1, hcell2⟩ := hcell0 j hjl
                clear hcell0
                obtain ⟨b', o', e1, _, _, hprev⟩ := hprev
                simp only [Option.some.injEq, Addr.mk.injEq, and_true] at e1
                obtain ⟨rfl, rfl⟩ := e1
                have q0 := fun d os => cell_regrown hcb d os
                have q1 := fun d os => cell_regrown hcell1 d os
                have q2 := fun d os => cell_regrown hcell2 d os
                have q3 := fun d os => cell_regrown hprev d os
                have HH : Hid (badStill c.still j = (!(spanB (gi c.still (0, 0) j)) || (decide (0 < j) && decide ((gi c.still (0, 0) j).1 ≤ (gi c.still (0, 0) (j - 1)).2)))) := rfl
                cases hx : spanB (gi c.still (0, 0) j)
                · have H3 := Lib.hid (someFrom_yes (p := badStill c.still) hjl (by rw [HH.out, hx]; rfl))
                  go_wp2
                  refine region_q mixed (by kernel_rfl) ?_
                  repeat (go_big_quiet_step ((go_at_call 84; exact Calls.regrown_of (rspan_calls _ _))))
                  refine wpQuiet_nil ?_
                  intro wq hbq
                  clear q0 q1 q2 q3
                  go_wp2
                  go_ret
                  exact ⟨ret_int (by rw [hv.out, H1.out, hr.out, H3.out]; rfl), below_tail hbq hb0⟩
                · by_cases hj0 : 0 < j
                  · have hj1 : decide ((0 : Int) < (j : Int)) = true := by simpa using hj0
                    have hj2 : (1 : Int) ≤ (j : Int) := by omega
                    cases hy : decide ((gi c.still (0, 0) j).1 ≤ (gi c.still (0, 0) (j - 1)).2)
                    · have H3 := Lib.hid (someFrom_no (p := badStill c.still) hjl (by rw [HH.out, hx, hy]; simp))
                      go_wp2
                      refine region_q mixed (by kernel_rfl) ?_
                      repeat (go_big_quiet_step ((go_at_call 84; exact Calls.regrown_of (rspan_calls _ _))))
                      refine wpQuiet_nil ?_
                      intro wq hbq
                      clear q0 q1 q2 q3
                      go_wp2
                      go_roundw
                      case rel => exact ⟨j + 1, by omega, by go_num, by unfold Hid; rw [hr.out, H3.out], below_tail hbq hb⟩
                      case measure => simp [intOf]; omega
                    · have H3 := Lib.hid (someFrom_yes (p := badStill c.still) hjl (by rw [HH.out, hx, hy]; simp [hj0]))
                      go_wp2
                      refine region_q mixed (by kernel_rfl) ?_
                      repeat (go_big_quiet_step ((go_at_call 84; exact Calls.regrown_of (rspan_calls _ _))))
                      refine wpQuiet_nil ?_
                      intro wq hbq
                      clear q0 q1 q2 q3
                      go_wp2
                      go_ret
                      exact ⟨ret_int (by rw [hv.out, H1.out, hr.out, H3.out]; rfl), below_tail hbq hb0⟩
                  · have hj1 : decide ((0 : Int) < (j : Int)) = false := by simp; omega
                    have H3 := Lib.hid (someFrom_no (p := badStill c.still) hjl (by rw [HH.out, hx]; simp [hj0]))
                    go_wp2
                    refine region_q mixed (by kernel_rfl) ?_
                    repeat (go_big_quiet_step ((go_at_call 84; exact Calls.regrown_of (rspan_calls _ _))))
                    refine wpQuiet_nil ?_
                    intro wq hbq
                    clear q0 q1 q2 q3
                    go_wp2
                    go_roundw
                    case rel => exact ⟨j + 1, by omega, by go_num, by unfold Hid; rw [hr.out, H3.out], below_tail hbq hb⟩
                    case measure => simp [intOf]; omega
              · have H2 := Lib.hid (hr.out.trans (someFrom_end (p := badStill c.still) hjl))
                go_wp2
                go_ret
                exact ⟨ret_int (by rw [hv.out, H1.out, H2.out]; rfl), hb0⟩
end Go.Proofs.Ytnhohnnoffhkhaa
