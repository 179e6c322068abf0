/- What the small functions of the reference of package term give. Conditions: a calendar lies in memory as said. -/
import Derived.Test.YtnhohnnoffhkhaaTermValidR
import Derived.Test.YtnhohnnoffhkhaaTermDays
namespace Go.Proofs.Ytnhohnnoffhkhaa
open Go.RowKit

set_option maxHeartbeats 1000000 in
theorem rfree_calls (v : Value) (c : Cal) (d : Int) (w : World) (h : CalAt w v c) (h1 : 0 ≤ c.first) (h2 : c.first ≤ 6) (h3 : 0 ≤ d) (h4 : d ≤ 1000000) :
    Gives Try.prog 63 #[v, .int .i64 d] w (.bool (freeB c d)) := by
  obtain ⟨fa, fc, sa, sc, rfl, hf, hs, hfc, hsc, hfl, hsl⟩ := h.cells
  have HF := Lib.hid hf
  clear h hf hs
  unfold Gives
  have Hw : Hid ((c.first + d) % 7 = weekF c d) := rfl
  cases hx : (weekF c d == 6)
  · have hx2 : ((c.first + d) % 7 == 6) = false := hx
    go_enter Try.func63, Try.ntmps63
    go_wp2
    have HX := Lib.hid hx
    clear hx hx2
    go_loop [5] (fun i => ∃ k : Nat, k ≤ c.free.length ∧ i = .int .i64 k ∧ Hid (someFrom (fun i => d == gi c.free 0 i) c.free.length 0 = someFrom (fun i => d == gi c.free 0 i) c.free.length k)) (fun i => c.free.length - (intOf i).toNat)
    case atStart => exact ⟨0, Nat.zero_le _, rfl, rfl⟩
    case round =>
      obtain ⟨k, hk, rfl, hr⟩ := hrel
      have hres : Hid (freeB c d = someFrom (fun i => d == gi c.free 0 i) c.free.length k) := by
        unfold Hid freeB; rw [HX.out, Bool.false_or, ← hr.out, someFrom_any c.free 0 (fun y => d == y)]
        unfold hasB; rw [List.contains_eq_any_beq]
      by_cases hlt : k < c.free.length
      · obtain ⟨fa', fc', e1, _, _, hcell0⟩ := HF.out
        simp only [Value.slice.injEq] at e1
        obtain ⟨rfl, _, rfl⟩ := e1
        obtain ⟨b, o, rfl, hB, hcell⟩ := hcell0 k hlt
        clear hcell0
        have hb1 : b < w.heap.size + 1 := by omega
        cases hy : (gi c.free 0 k == d)
        · have H1 := Lib.hid (someFrom_no (p := fun i => d == gi c.free 0 i) hlt (by rw [Bool.beq_comm]; exact hy))
          go_wp2
          go_round
          case rel => exact ⟨k + 1, by omega, by go_num, by unfold Hid; rw [hr.out, H1.out]⟩
          case measure => simp [intOf]; omega
        · have H1 := Lib.hid (someFrom_yes (p := fun i => d == gi c.free 0 i) hlt (by rw [Bool.beq_comm]; exact hy))
          go_wp2
          go_ret
          exact ⟨ret_bool (by rw [hres.out, H1.out]), by (repeat' (first | exact Below.refl _ _ | assumption | refine below_new ?_ _ | refine below_draw ?_ | refine below_tail (by assumption) ?_ | refine below_set ?_ (by first | omega | (simp <;> omega)) _))⟩
      · have H1 := Lib.hid (someFrom_end (p := fun i => d == gi c.free 0 i) hlt)
        go_wp2
        go_ret
        exact ⟨ret_bool (by rw [hres.out, H1.out]), by (repeat' (first | exact Below.refl _ _ | assumption | refine below_new ?_ _ | refine below_draw ?_ | refine below_tail (by assumption) ?_ | refine below_set ?_ (by first | omega | (simp <;> omega)) _))⟩
  · have hx2 : ((c.first + d) % 7 == 6) = true := hx
    go_enter Try.func63, Try.ntmps63
    go_wp2
    go_ret
    exact ⟨ret_bool (by unfold freeB; rw [hx]; rfl), by (repeat' (first | exact Below.refl _ _ | assumption | refine below_new ?_ _ | refine below_draw ?_ | refine below_tail (by assumption) ?_ | refine below_set ?_ (by first | omega | (simp <;> omega)) _))⟩

set_option maxHeartbeats 1000000 in
theorem rstill_calls (v : Value) (c : Cal) (d : Int) (w : World) (h : CalAt w v c) :
    Gives Try.prog 64 #[v, .int .i64 d] w (.bool (stillB c d)) := by
  obtain ⟨fa, fc, sa, sc, rfl, hf, hs, hfc, hsc, hfl, hsl⟩ := h.cells
  have HS := Lib.hid hs
  clear h hf hs
  unfold Gives
  go_enter Try.func64, Try.ntmps64
  go_wp2
  obtain ⟨W0, hW0, HW0⟩ : ∃ W0, Below w.heap.size w W0 ∧ Hid (W0.cell? ⟨w.heap.size, 2, none⟩ = some (.slice sa c.still.length sc) ∧ w.heap.size < W0.heap.size ∧
      W0 = w.alloc (.cells #[.int .i64 c.first, .slice fa c.free.length fc, .slice sa c.still.length sc] 25)) :=
    ⟨_, below_new (Below.refl _ w) _, by unfold Hid; exact ⟨by simp, by simp, rfl⟩⟩
  obtain ⟨hk1, hk3, hk4⟩ := HW0.out
  clear HW0
  rw [← hk4]
  clear hk4
  go_loopw [5] (fun i wr => ∃ k : Nat, k ≤ c.still.length ∧ i = .int .i64 k ∧ Hid (stillB c d = someFrom (fun i => withinB d (gi c.still (0, 0) i).1 (gi c.still (0, 0) i).2) c.still.length k) ∧ Below W0.heap.size W0 wr) (fun i _ => c.still.length - (intOf i).toNat)
  case atStart => exact ⟨0, Nat.zero_le _, rfl, (someFrom_any c.still (0, 0) (fun s => withinB d s.1 s.2)).symm, Below.refl _ _⟩
  case round =>
    obtain ⟨k, hk, rfl, hr, hb⟩ := hrel
    have hb0 : Below w.heap.size w wr := below_tail hb hW0
    have hcb : wr.cell? ⟨w.heap.size, 2, none⟩ = some (.slice sa c.still.length sc) := (hb.cell (p := ⟨w.heap.size, 2, none⟩) hk3).trans hk1
    by_cases hlt : k < c.still.length
    · obtain ⟨sa', sc', e1, _, _, hcell0⟩ := HS.out.below hb0
      simp only [Value.slice.injEq] at e1
      obtain ⟨rfl, _, rfl⟩ := e1
      obtain ⟨b, o, rfl, hB, hcell1, hcell2⟩ := hcell0 k hlt
      clear hcell0
      have q0 := fun d os => cell_regrown hcb d os
      have q1 := fun d os => cell_regrown hcell1 d os
      have q2 := fun d os => cell_regrown hcell2 d os
      cases hx : withinB d (gi c.still (0, 0) k).1 (gi c.still (0, 0) k).2
      · have HR : Hid (∀ W, Gives Try.prog 83 #[.int .i64 d, .int .i64 (gi c.still (0, 0) k).1, .int .i64 (gi c.still (0, 0) k).2] W (.bool false)) := fun W => by rw [← hx]; exact Gives.of_same (rwithin_calls _ _ _ _)
        have H1 := Lib.hid (someFrom_no (p := fun i => withinB d (gi c.still (0, 0) i).1 (gi c.still (0, 0) i).2) hlt hx)
        go_wp2
        refine region_q mixed (by kernel_rfl) ?_
        repeat (go_big_quiet_step ((go_at_call 83; exact Calls.regrown_of (HR.out _))))
        refine wpQuiet_nil ?_
        intro wq hbq
        clear q0 q1 q2
        go_wp2
        go_roundw
        case rel => exact ⟨k + 1, by omega, by go_num, by unfold Hid; rw [hr.out, H1.out], below_tail hbq hb⟩
        case measure => simp [intOf]; omega
      · have HR : Hid (∀ W, Gives Try.prog 83 #[.int .i64 d, .int .i64 (gi c.still (0, 0) k).1, .int .i64 (gi c.still (0, 0) k).2] W (.bool true)) := fun W => by rw [← hx]; exact Gives.of_same (rwithin_calls _ _ _ _)
        have H1 := Lib.hid (someFrom_yes (p := fun i => withinB d (gi c.still (0, 0) i).1 (gi c.still (0, 0) i).2) hlt hx)
        go_wp2
        refine region_q mixed (by kernel_rfl) ?_
        repeat (go_big_quiet_step ((go_at_call 83; exact Calls.regrown_of (HR.out _))))
        refine wpQuiet_nil ?_
        intro wq hbq
        clear q0 q1 q2
        go_wp2
        go_ret
        exact ⟨ret_bool (by rw [hr.out, H1.out]), below_tail hbq hb0⟩
    · have H1 := Lib.hid (someFrom_end (p := fun i => withinB d (gi c.still (0, 0) i).1 (gi c.still (0, 0) i).2) hlt)
      go_wp2
      go_ret
      exact ⟨ret_bool (by rw [hr.out, H1.out]), hb0⟩
end Go.Proofs.Ytnhohnnoffhkhaa
