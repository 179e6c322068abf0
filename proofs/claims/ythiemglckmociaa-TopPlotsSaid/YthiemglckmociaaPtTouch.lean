/- What touch of package plot, and the small functions of its reference, give. Conditions: coordinates are small. -/
import Derived.Test.YthiemglckmociaaPtSides
namespace Go.Proofs.Ythiemglckmociaa
open Go.RowKit

theorem turn_bd {a b c : Int × Int} (ha : bdP a) (hb : bdP b) (hc : bdP c) : -32000000 ≤ turn a b c ∧ turn a b c ≤ 32000000 := by
  obtain ⟨⟨a1, a2⟩, a3, a4⟩ := id ha
  obtain ⟨⟨b1, b2⟩, b3, b4⟩ := id hb
  obtain ⟨⟨c1, c2⟩, c3, c4⟩ := id hc
  obtain ⟨p1, p2⟩ := prod_bd (u := b.1 - a.1) (v := c.2 - a.2) (by omega) (by omega)
  obtain ⟨q1, q2⟩ := prod_bd (u := b.2 - a.2) (v := c.1 - a.1) (by omega) (by omega)
  unfold turn; omega
theorem mul_bd {u v : Int} (hu : -32000000 ≤ u ∧ u ≤ 32000000) (hv : -32000000 ≤ v ∧ v ≤ 32000000) : -1024000000000000 ≤ u * v ∧ u * v ≤ 1024000000000000 := by
  have h1 := Int.mul_le_mul_of_nonneg_left (show v ≤ 32000000 by omega) (show 0 ≤ u + 32000000 by omega)
  have h2 := Int.mul_le_mul_of_nonneg_left (show -32000000 ≤ v by omega) (show 0 ≤ u + 32000000 by omega)
  have h3 := Int.mul_le_mul_of_nonneg_left (show v ≤ 32000000 by omega) (show 0 ≤ 32000000 - u by omega)
  have h4 := Int.mul_le_mul_of_nonneg_left (show -32000000 ≤ v by omega) (show 0 ≤ 32000000 - u by omega)
  rw [Int.add_mul] at h1 h2
  rw [Int.sub_mul] at h3 h4
  rw [Int.add_mul] at h1 h2
  rw [Int.sub_mul] at h3 h4
  omega

theorem turn_is {a b c : Int × Int} {t : Int} (w : World) (ha : bdP a) (hb : bdP b) (hc : bdP c) (h : turn a b c = t) :
    Gives Try.prog 66 #[.agg #[.int .i64 a.1, .int .i64 a.2], .agg #[.int .i64 b.1, .int .i64 b.2], .agg #[.int .i64 c.1, .int .i64 c.2]] w (.int .i64 t) := h ▸ turn_calls a b c w ha hb hc
theorem on_is {a b x : Int × Int} {t : Bool} (w : World) (ha : bdP a) (hb : bdP b) (hx : bdP x) (h : onB a b x = t) :
    Gives Try.prog 104 #[.agg #[.int .i64 a.1, .int .i64 a.2, .int .i64 b.1, .int .i64 b.2], .agg #[.int .i64 x.1, .int .i64 x.2]] w (.bool t) := h ▸ on_calls a b x w ha hb hx

/-- Have two sides a point in common? -/
def touchB (a b c d : Int × Int) : Bool := onB a b c || onB a b d || onB c d a || onB c d b || (decide (turn a b c * turn a b d < 0) && decide (turn c d a * turn c d b < 0))

set_option maxHeartbeats 1000000 in
theorem touch_calls (a b c d : Int × Int) (w : World) (ha : bdP a) (hb : bdP b) (hc : bdP c) (hd : bdP d) :
    Gives Try.prog 68 #[.agg #[.int .i64 a.1, .int .i64 a.2, .int .i64 b.1, .int .i64 b.2], .agg #[.int .i64 c.1, .int .i64 c.2, .int .i64 d.1, .int .i64 d.2]] w (.bool (touchB a b c d)) := by
  have H : Hid (touchB a b c d = (onB a b c || onB a b d || onB c d a || onB c d b || (decide (turn a b c * turn a b d < 0) && decide (turn c d a * turn c d b < 0)))) := rfl
  unfold Gives

  cases h0 : onB a b c
  case true =>
    have H0 := Lib.hid h0
    clear h0
    go_enter Try.func68, Try.ntmps68
    go_wp2_with (first | (go_at_call 104; (with_reducible refine (on_is _ ha hb hc H0.out).use ?_); intro w1 hb1 hz1 hc1 hf1; (try simp at hz1); have hy1 : w.heap.size + 1 < w1.heap.size := (by omega); have hx10 := fun o => hc1 (w.heap.size) o (by first | omega | (simp <;> omega)); have hx11 := fun o => hc1 (w.heap.size + 1) o (by first | omega | (simp <;> omega)); clear hc1 hf1))
    go_ret
    exact ⟨ret_bool (by rw [H.out, H0.out]; rfl), by (repeat' (first | exact Below.refl _ _ | assumption | refine below_new ?_ _ | refine below_draw ?_ | refine below_tail (by assumption) ?_ | refine below_set ?_ (by first | omega | (simp <;> omega)) _))⟩
  case false =>
    have H0 := Lib.hid h0
    clear h0
    cases h1 : onB a b d
    case true =>
      have H1 := Lib.hid h1
      clear h1
      go_enter Try.func68, Try.ntmps68
      go_wp2_with (first | (go_at_call 104; (with_reducible refine (on_is _ ha hb hc H0.out).use ?_); intro w1 hb1 hz1 hc1 hf1; (try simp at hz1); have hy1 : w.heap.size + 1 < w1.heap.size := (by omega); have hx10 := fun o => hc1 (w.heap.size) o (by first | omega | (simp <;> omega)); have hx11 := fun o => hc1 (w.heap.size + 1) o (by first | omega | (simp <;> omega)); clear hc1 hf1) | (go_at_call 104; (with_reducible refine (on_is _ ha hb hd H1.out).use ?_); intro w2 hb2 hz2 hc2 hf2; (try simp at hz2); have hy2 : w.heap.size + 1 < w2.heap.size := (by omega); have hx20 := fun o => hc2 (w.heap.size) o (by first | omega | (simp <;> omega)); have hx21 := fun o => hc2 (w.heap.size + 1) o (by first | omega | (simp <;> omega)); clear hc2 hf2))
      go_ret
      exact ⟨ret_bool (by rw [H.out, H0.out, H1.out]; rfl), by (repeat' (first | exact Below.refl _ _ | assumption | refine below_new ?_ _ | refine below_draw ?_ | refine below_tail (by assumption) ?_ | refine below_set ?_ (by first | omega | (simp <;> omega)) _))⟩
    case false =>
      have H1 := Lib.hid h1
      clear h1
      cases h2 : onB c d a
      case true =>
        have H2 := Lib.hid h2
        clear h2
        go_enter Try.func68, Try.ntmps68
        go_wp2_with (first | (go_at_call 104; (with_reducible refine (on_is _ ha hb hc H0.out).use ?_); intro w1 hb1 hz1 hc1 hf1; (try simp at hz1); have hy1 : w.heap.size + 1 < w1.heap.size := (by omega); have hx10 := fun o => hc1 (w.heap.size) o (by first | omega | (simp <;> omega)); have hx11 := fun o => hc1 (w.heap.size + 1) o (by first | omega | (simp <;> omega)); clear hc1 hf1) | (go_at_call 104; (with_reducible refine (on_is _ ha hb hd H1.out).use ?_); intro w2 hb2 hz2 hc2 hf2; (try simp at hz2); have hy2 : w.heap.size + 1 < w2.heap.size := (by omega); have hx20 := fun o => hc2 (w.heap.size) o (by first | omega | (simp <;> omega)); have hx21 := fun o => hc2 (w.heap.size + 1) o (by first | omega | (simp <;> omega)); clear hc2 hf2) | (go_at_call 104; (with_reducible refine (on_is _ hc hd ha H2.out).use ?_); intro w3 hb3 hz3 hc3 hf3; (try simp at hz3); have hy3 : w.heap.size + 1 < w3.heap.size := (by omega); have hx30 := fun o => hc3 (w.heap.size) o (by first | omega | (simp <;> omega)); have hx31 := fun o => hc3 (w.heap.size + 1) o (by first | omega | (simp <;> omega)); clear hc3 hf3))
        go_ret
        exact ⟨ret_bool (by rw [H.out, H0.out, H1.out, H2.out]; rfl), by (repeat' (first | exact Below.refl _ _ | assumption | refine below_new ?_ _ | refine below_draw ?_ | refine below_tail (by assumption) ?_ | refine below_set ?_ (by first | omega | (simp <;> omega)) _))⟩
      case false =>
        have H2 := Lib.hid h2
        clear h2
        cases h3 : onB c d b
        case true =>
          have H3 := Lib.hid h3
          clear h3
          go_enter Try.func68, Try.ntmps68
          go_wp2_with (first | (go_at_call 104; (with_reducible refine (on_is _ ha hb hc H0.out).use ?_); intro w1 hb1 hz1 hc1 hf1; (try simp at hz1); have hy1 : w.heap.size + 1 < w1.heap.size := (by omega); have hx10 := fun o => hc1 (w.heap.size) o (by first | omega | (simp <;> omega)); have hx11 := fun o => hc1 (w.heap.size + 1) o (by first | omega | (simp <;> omega)); clear hc1 hf1) | (go_at_call 104; (with_reducible refine (on_is _ ha hb hd H1.out).use ?_); intro w2 hb2 hz2 hc2 hf2; (try simp at hz2); have hy2 : w.heap.size + 1 < w2.heap.size := (by omega); have hx20 := fun o => hc2 (w.heap.size) o (by first | omega | (simp <;> omega)); have hx21 := fun o => hc2 (w.heap.size + 1) o (by first | omega | (simp <;> omega)); clear hc2 hf2) | (go_at_call 104; (with_reducible refine (on_is _ hc hd ha H2.out).use ?_); intro w3 hb3 hz3 hc3 hf3; (try simp at hz3); have hy3 : w.heap.size + 1 < w3.heap.size := (by omega); have hx30 := fun o => hc3 (w.heap.size) o (by first | omega | (simp <;> omega)); have hx31 := fun o => hc3 (w.heap.size + 1) o (by first | omega | (simp <;> omega)); clear hc3 hf3) | (go_at_call 104; (with_reducible refine (on_is _ hc hd hb H3.out).use ?_); intro w4 hb4 hz4 hc4 hf4; (try simp at hz4); have hy4 : w.heap.size + 1 < w4.heap.size := (by omega); have hx40 := fun o => hc4 (w.heap.size) o (by first | omega | (simp <;> omega)); have hx41 := fun o => hc4 (w.heap.size + 1) o (by first | omega | (simp <;> omega)); clear hc4 hf4))
          go_ret
          exact ⟨ret_bool (by rw [H.out, H0.out, H1.out, H2.out, H3.out]; rfl), by (repeat' (first | exact Below.refl _ _ | assumption | refine below_new ?_ _ | refine below_draw ?_ | refine below_tail (by assumption) ?_ | refine below_set ?_ (by first | omega | (simp <;> omega)) _))⟩
        case false =>
          have H3 := Lib.hid h3
          clear h3
          obtain ⟨t0, ht0⟩ : ∃ t, turn a b c = t := ⟨_, rfl⟩
          have bd0 := turn_bd ha hb hc
          rw [ht0] at bd0
          obtain ⟨t1, ht1⟩ : ∃ t, turn a b d = t := ⟨_, rfl⟩
          have bd1 := turn_bd ha hb hd
          rw [ht1] at bd1
          obtain ⟨t2, ht2⟩ : ∃ t, turn c d a = t := ⟨_, rfl⟩
          have bd2 := turn_bd hc hd ha
          rw [ht2] at bd2
          obtain ⟨t3, ht3⟩ : ∃ t, turn c d b = t := ⟨_, rfl⟩
          have bd3 := turn_bd hc hd hb
          rw [ht3] at bd3
          have m1 := mul_bd bd0 bd1
          have m2 := mul_bd bd2 bd3
          have HT0 := Lib.hid ht0
          clear ht0 bd0
          have HT1 := Lib.hid ht1
          clear ht1 bd1
          have HT2 := Lib.hid ht2
          clear ht2 bd2
          have HT3 := Lib.hid ht3
          clear ht3 bd3
          have W1 : IntKind.i64.wrap (t0 * t1) = t0 * t1 := IntWalk.i64_in _ (by omega)
          have W2 : IntKind.i64.wrap (t2 * t3) = t2 * t3 := IntWalk.i64_in _ (by omega)
          have HM1 := Lib.hid m1
          have HM2 := Lib.hid m2
          clear m1 m2
          cases hs : decide (t0 * t1 < 0)
          all_goals
            have HS := Lib.hid hs
            go_enter Try.func68, Try.ntmps68
            go_wp2_with (first | (go_at_call 104; (with_reducible refine (on_is _ ha hb hc H0.out).use ?_); intro w1 hb1 hz1 hc1 hf1; (try simp at hz1); have hy1 : w.heap.size + 1 < w1.heap.size := (by omega); have hx10 := fun o => hc1 (w.heap.size) o (by first | omega | (simp <;> omega)); have hx11 := fun o => hc1 (w.heap.size + 1) o (by first | omega | (simp <;> omega)); clear hc1 hf1) | (go_at_call 104; (with_reducible refine (on_is _ ha hb hd H1.out).use ?_); intro w2 hb2 hz2 hc2 hf2; (try simp at hz2); have hy2 : w.heap.size + 1 < w2.heap.size := (by omega); have hx20 := fun o => hc2 (w.heap.size) o (by first | omega | (simp <;> omega)); have hx21 := fun o => hc2 (w.heap.size + 1) o (by first | omega | (simp <;> omega)); clear hc2 hf2) | (go_at_call 104; (with_reducible refine (on_is _ hc hd ha H2.out).use ?_); intro w3 hb3 hz3 hc3 hf3; (try simp at hz3); have hy3 : w.heap.size + 1 < w3.heap.size := (by omega); have hx30 := fun o => hc3 (w.heap.size) o (by first | omega | (simp <;> omega)); have hx31 := fun o => hc3 (w.heap.size + 1) o (by first | omega | (simp <;> omega)); clear hc3 hf3) | (go_at_call 104; (with_reducible refine (on_is _ hc hd hb H3.out).use ?_); intro w4 hb4 hz4 hc4 hf4; (try simp at hz4); have hy4 : w.heap.size + 1 < w4.heap.size := (by omega); have hx40 := fun o => hc4 (w.heap.size) o (by first | omega | (simp <;> omega)); have hx41 := fun o => hc4 (w.heap.size + 1) o (by first | omega | (simp <;> omega)); clear hc4 hf4))
            have q00 := fun dr os => cell_regrown (show w4.cell? { block := w.heap.size, off := 0 } = some (.int .i64 a.1) by simp [hx40, hx30, hx20, hx10]) dr os
            have q01 := fun dr os => cell_regrown (show w4.cell? { block := w.heap.size, off := 1 } = some (.int .i64 a.2) by simp [hx40, hx30, hx20, hx10]) dr os
            have q02 := fun dr os => cell_regrown (show w4.cell? { block := w.heap.size, off := 2 } = some (.int .i64 b.1) by simp [hx40, hx30, hx20, hx10]) dr os
            have q03 := fun dr os => cell_regrown (show w4.cell? { block := w.heap.size, off := 3 } = some (.int .i64 b.2) by simp [hx40, hx30, hx20, hx10]) dr os
            have q10 := fun dr os => cell_regrown (show w4.cell? { block := w.heap.size + 1, off := 0 } = some (.int .i64 c.1) by simp [hx41, hx31, hx21, hx11]) dr os
            have q11 := fun dr os => cell_regrown (show w4.cell? { block := w.heap.size + 1, off := 1 } = some (.int .i64 c.2) by simp [hx41, hx31, hx21, hx11]) dr os
            have q12 := fun dr os => cell_regrown (show w4.cell? { block := w.heap.size + 1, off := 2 } = some (.int .i64 d.1) by simp [hx41, hx31, hx21, hx11]) dr os
            have q13 := fun dr os => cell_regrown (show w4.cell? { block := w.heap.size + 1, off := 3 } = some (.int .i64 d.2) by simp [hx41, hx31, hx21, hx11]) dr os
            clear hx10 hx11 hx20 hx21 hx30 hx31 hx40 hx41
            refine region_q mixed (by kernel_rfl) ?_
            repeat (go_big_quiet_step (first | (go_at_call 66; exact Calls.regrown_of (turn_is _ ha hb hc HT0.out)) | (go_at_call 66; exact Calls.regrown_of (turn_is _ ha hb hd HT1.out)) | (go_at_call 66; exact Calls.regrown_of (turn_is _ hc hd ha HT2.out)) | (go_at_call 66; exact Calls.regrown_of (turn_is _ hc hd hb HT3.out))))
            refine wpQuiet_nil ?_
            intro wq hbq
            go_wp2
            go_ret
            exact ⟨ret_bool (by rw [H.out, H0.out, H1.out, H2.out, H3.out, HT0.out, HT1.out, HT2.out, HT3.out, HS.out]; rfl), by (repeat' (first | exact Below.refl _ _ | assumption | refine below_new ?_ _ | refine below_draw ?_ | refine below_tail (by assumption) ?_ | refine below_set ?_ (by first | omega | (simp <;> omega)) _))⟩

end Go.Proofs.Ythiemglckmociaa
