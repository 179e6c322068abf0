/- What before, first, reversed and normal of the document give. Conditions: the lists lie in memory as said. -/
import Derived.Test.YthiemglckmociaaPtNormal
namespace Go.Proofs.Ythiemglckmociaa
open Go.RowKit

def lexB (a b : Int × Int) : Bool := decide (a.1 < b.1) || (decide (a.1 = b.1) && decide (a.2 < b.2))
theorem lexB_iff {a b : Int × Int} : lexB a b = decide (ordF a b < 0) := by
  rw [Bool.eq_iff_iff, decide_eq_true_eq, ordF_neg]
  unfold lexB lexLt; simp
set_option maxHeartbeats 1000000 in
theorem before_calls (a b : Int × Int) (w : World) : Gives Try.prog 117 #[.agg #[.int .i64 a.1, .int .i64 a.2], .agg #[.int .i64 b.1, .int .i64 b.2]] w (.bool (lexB a b)) := by
  have H : Hid (lexB a b = (decide (a.1 < b.1) || (decide (a.1 = b.1) && decide (a.2 < b.2)))) := rfl
  unfold Gives
  rcases Int.lt_trichotomy a.1 b.1 with c | c | c
  · have d1 : decide (a.1 < b.1) = true := decide_eq_true c
    go_enter Try.func117, Try.ntmps117
    go_wp2
    go_ret
    exact ⟨ret_bool (by rw [H.out, d1]; rfl), by (repeat' (first | exact Below.refl _ _ | assumption | refine below_new ?_ _ | refine below_draw ?_ | refine below_tail (by assumption) ?_ | refine below_set ?_ (by first | omega | (simp <;> omega)) _))⟩
  · have d1 : decide (a.1 < b.1) = false := decide_eq_false (by omega)
    have d2 : (a.1 == b.1) = true := by simpa using c
    have HC := Lib.hid c
    clear c
    cases d3 : decide (a.2 < b.2)
    all_goals
      go_enter Try.func117, Try.ntmps117
      go_wp2
      go_ret
      exact ⟨ret_bool (by rw [H.out, d1, d3, HC.out]; simp), by (repeat' (first | exact Below.refl _ _ | assumption | refine below_new ?_ _ | refine below_draw ?_ | refine below_tail (by assumption) ?_ | refine below_set ?_ (by first | omega | (simp <;> omega)) _))⟩
  · have d1 : decide (a.1 < b.1) = false := decide_eq_false (by omega)
    have d2 : (a.1 == b.1) = false := by simp; omega
    have d4 : decide (a.1 = b.1) = false := decide_eq_false (by omega)
    have HD := Lib.hid d4
    clear d4
    go_enter Try.func117, Try.ntmps117
    go_wp2
    go_ret
    exact ⟨ret_bool (by rw [H.out, d1, HD.out]; rfl), by (repeat' (first | exact Below.refl _ _ | assumption | refine below_new ?_ _ | refine below_draw ?_ | refine below_tail (by assumption) ?_ | refine below_set ?_ (by first | omega | (simp <;> omega)) _))⟩
theorem before_is {a b : Int × Int} {t : Bool} (w : World) (h : lexB a b = t) : Gives Try.prog 117 #[.agg #[.int .i64 a.1, .int .i64 a.2], .agg #[.int .i64 b.1, .int .i64 b.2]] w (.bool t) := h ▸ before_calls a b w
set_option maxHeartbeats 2000000 in
theorem first_calls (v : Value) (l : List (Int × Int)) (w : World) (h : PairsAt w v l) (h0 : 0 < l.length) (hl : l.length ≤ 1000) :
    Gives Try.prog 101 #[v] w (.int .i64 (fstK l (l.length - 1))) := by
  have HP := Lib.hid h
  obtain ⟨sa, cap, rfl, hlc, hcm, _⟩ := h
  unfold Gives
  go_enter Try.func101, Try.ntmps101
  go_wp2_with fail
  go_loopw [3, 4] (fun kk i wr => ∃ k : Nat, k + 1 ≤ l.length ∧ i = .int .i64 ((k : Int) + 1) ∧ kk = .int .i64 (fstK l k) ∧ Below w.heap.size w wr) (fun _ i _ => l.length - (intOf i).toNat)
  case atStart => exact ⟨0, by omega, rfl, rfl, by (repeat' (first | exact Below.refl _ _ | assumption | refine below_new ?_ _ | refine below_draw ?_ | refine below_tail (by assumption) ?_ | refine below_set ?_ (by first | omega | (simp <;> omega)) _))⟩
  case round =>
    obtain ⟨k, hk, rfl, rfl, hbw⟩ := hrel
    by_cases hlt : k + 1 < l.length
    · have hg : decide ((k : Int) + 1 < (l.length : Int)) = true := decide_eq_true (by omega)
      have hfk := fstK_le l k
      obtain ⟨b, o, rfl, hB, g0, g1⟩ := HP.out.cellB hbw hlt
      obtain ⟨b', o', he, _, c0, c1⟩ := HP.out.cellB hbw (m := fstK l k) (by omega)
      cases he
      have q0 := fun d os => cell_regrown g0 d os
      have q1 := fun d os => cell_regrown g1 d os
      have q2 := fun d os => cell_regrown c0 d os
      have q3 := fun d os => cell_regrown c1 d os
      obtain ⟨f, hf⟩ : ∃ f, fstK l k = f := ⟨_, rfl⟩
      have HF0 := Lib.hid hf
      rw [hf] at hfk q2 q3 ⊢
      have hfl : (f : Int) < (l.length : Int) := by omega
      clear c0 c1 hf g0 g1
      cases hd : lexB (gi l (0, 0) (k + 1)) (gi l (0, 0) f)
      · have HD := Lib.hid hd
        have HF : Hid (fstK l (k + 1) = f) := by unfold Hid; rw [← HF0.out]; exact fstK_no (by rw [HF0.out, ← lexB_iff]; exact hd)
        clear hd
        go_wp2_with fail
        refine region_q mixed (by kernel_rfl) ?_
        repeat (go_big_quiet_step ((go_at_call 117; exact Calls.regrown_of (before_is _ HD.out))))
        refine wpQuiet_nil ?_
        intro wq hbq
        clear q0 q1 q2 q3
        go_wp2_with fail
        go_roundw
        case rel => exact ⟨k + 1, by omega, by go_num, by rw [HF.out], by (repeat' (first | exact Below.refl _ _ | assumption | refine below_new ?_ _ | refine below_draw ?_ | refine below_tail (by assumption) ?_ | refine below_set ?_ (by first | omega | (simp <;> omega)) _))⟩
        case measure => simp [intOf]; omega
      · have HD := Lib.hid hd
        have HF : Hid (fstK l (k + 1) = k + 1) := by unfold Hid; exact fstK_yes (by rw [HF0.out, ← lexB_iff]; exact hd)
        clear hd
        go_wp2_with fail
        refine region_q mixed (by kernel_rfl) ?_
        repeat (go_big_quiet_step ((go_at_call 117; exact Calls.regrown_of (before_is _ HD.out))))
        refine wpQuiet_nil ?_
        intro wq hbq
        clear q0 q1 q2 q3
        go_wp2_with fail
        go_roundw
        case rel => exact ⟨k + 1, by omega, by go_num, by rw [HF.out]; go_num, by (repeat' (first | exact Below.refl _ _ | assumption | refine below_new ?_ _ | refine below_draw ?_ | refine below_tail (by assumption) ?_ | refine below_set ?_ (by first | omega | (simp <;> omega)) _))⟩
        case measure => simp [intOf]; omega
    · have hg : decide ((k : Int) + 1 < (l.length : Int)) = false := decide_eq_false (by omega)
      obtain rfl : k = l.length - 1 := by omega
      go_wp2_with fail
      go_ret
      exact ⟨rfl, hbw⟩
end Go.Proofs.Ythiemglckmociaa
