/- The law TermGrows: its walk. Conditions: a calendar lies in memory as said. -/
import Derived.Test.YtnhohnnoffhkhaaTermKnown
namespace Go.Proofs.Ytnhohnnoffhkhaa
open Go.RowKit

/-- A term never ends earlier from a later day, or with more days. -/
theorem ends_mono {c : Cal} (h : validF c = 0) {xa xb ya yb : Int} (h1 : 0 ≤ xa) (h2 : xa ≤ ya) (h3 : 0 ≤ xb) (h4 : xb ≤ yb) (h5 : yb ≤ 4000) : endsF c xa xb ≤ endsF c ya yb := by
  have hx := endsF_first h (day := xa) (days := xb) h1 h3 (by omega)
  have hy := endsF_first h (day := ya) (days := yb) (by omega) (by omega) h5
  obtain ⟨y1, y2, _⟩ := hy
  rcases Int.lt_or_le (endsF c ya yb) (endsF c xa xb) with hl | hl
  · have hno := hx.2.2 _ (by omega) hl
    exfalso
    unfold endB at hno y2
    rw [Bool.and_eq_true] at y2
    obtain ⟨y3, y4⟩ := y2
    have y5 := of_decide_eq_true y3
    rw [y4, Bool.and_true] at hno
    have hno := of_decide_eq_false hno
    apply hno
    have e1 : (endsF c ya yb - xa).toNat = (ya - xa).toNat + (endsF c ya yb - ya).toNat := by omega
    have e2 : xa + 1 + ((ya - xa).toNat : Int) = ya + 1 := by omega
    rw [e1, cnt_add, e2]
    have := cnt_nonneg (fun y => !(stillB c y)) (xa + 1) (ya - xa).toNat
    omega
  · exact hl

set_option maxHeartbeats 2000000 in
set_option maxRecDepth 100000 in
theorem termGrows_calls (v : Value) (c : Cal) (xa xb ya yb : Int) (w : World) (h : CalAt w v c) :
    Gives Try.prog 3 #[v, .agg #[.int .i64 xa, .int .i64 xb], .agg #[.int .i64 ya, .int .i64 yb]] w (.bool true) := by
  obtain ⟨fa, fc, sa, sc, rfl, hf, hs, hfc, hsc, hfl, hsl⟩ := h.cells
  have HCal := Lib.hid h
  clear h hf hs
  unfold Gives
  cases hL : (decide (100 < c.free.length) || decide (100 < c.still.length))
  · by_cases hzx : askedF c [xa] [xb] = 0
    · have a1 : (askedF c [xa] [xb] == 0) = true := by simpa using hzx
      have a2 : (askedF c [xa] [xb] != 0) = false := by simpa using hzx
      by_cases hzy : askedF c [ya] [yb] = 0
      · have a3 : (askedF c [ya] [yb] == 0) = true := by simpa using hzy
        have a4 : (askedF c [ya] [yb] != 0) = false := by simpa using hzy
        have hm1 : Hid (ya < xa ∨ yb < xb ∨ endsR c xa xb ≤ endsR c ya yb) := by
          rcases Int.lt_or_le ya xa with u1 | u1
          · exact .inl u1
          rcases Int.lt_or_le yb xb with u2 | u2
          · exact .inr (.inl u2)
          refine .inr (.inr ?_)
          obtain ⟨hv, g1, g2, g3, g4⟩ := asked_term hzx
          obtain ⟨_, g5, g6, g7, g8⟩ := asked_term hzy
          unfold endsR; rw [if_pos hzx, if_pos hzy]
          exact ends_mono hv g1 u1 g3 u2 (by omega)
        have hm2 : Hid (xa < ya ∨ xb < yb ∨ endsR c ya yb ≤ endsR c xa xb) := by
          rcases Int.lt_or_le xa ya with u1 | u1
          · exact .inl u1
          rcases Int.lt_or_le xb yb with u2 | u2
          · exact .inr (.inl u2)
          refine .inr (.inr ?_)
          obtain ⟨hv, g1, g2, g3, g4⟩ := asked_term hzx
          obtain ⟨_, g5, g6, g7, g8⟩ := asked_term hzy
          unfold endsR; rw [if_pos hzx, if_pos hzy]
          exact ends_mono hv g5 u1 g7 u2 (by omega)
        clear hzx hzy
        go_enter Try.func3, Try.ntmps3
        go_wp2_with (first | (go_at_call 17; (with_reducible refine (long_calls _ c _ (HCal.out.below (by (repeat' (first | exact Below.refl _ _ | assumption | refine below_new ?_ _ | refine below_draw ?_ | refine below_tail (by assumption) ?_ | refine below_set ?_ (by first | omega | (simp <;> omega)) _))))).use ?_); intro w1 hb1 hz1 hc1 hf1; (try simp at hz1); have hy1 : w.heap.size + 2 < w1.heap.size := (by omega); have hx10 := fun o => hc1 (w.heap.size) o (by first | omega | (simp <;> omega)); have hx11 := fun o => hc1 (w.heap.size + 1) o (by first | omega | (simp <;> omega)); have hx12 := fun o => hc1 (w.heap.size + 2) o (by first | omega | (simp <;> omega)); clear hc1 hf1; rw [hL]) | (go_at_call 19; (with_reducible refine (Ends_calls _ c xa xb _ (HCal.out.below (by (repeat' (first | exact Below.refl _ _ | assumption | refine below_new ?_ _ | refine below_draw ?_ | refine below_tail (by assumption) ?_ | refine below_set ?_ (by first | omega | (simp <;> omega)) _))))).use ?_); intro w2 hb2 hz2 hc2 hf2; (try simp at hz2); have hy2 : w.heap.size + 2 < w2.heap.size := (by omega); have hx20 := fun o => hc2 (w.heap.size) o (by first | omega | (simp <;> omega)); have hx21 := fun o => hc2 (w.heap.size + 1) o (by first | omega | (simp <;> omega)); have hx22 := fun o => hc2 (w.heap.size + 2) o (by first | omega | (simp <;> omega)); clear hc2 hf2) | (go_at_call 19; (with_reducible refine (Ends_calls _ c ya yb _ (HCal.out.below (by (repeat' (first | exact Below.refl _ _ | assumption | refine below_new ?_ _ | refine below_draw ?_ | refine below_tail (by assumption) ?_ | refine below_set ?_ (by first | omega | (simp <;> omega)) _))))).use ?_); intro w3 hb3 hz3 hc3 hf3; (try simp at hz3); have hy3 : w.heap.size + 2 < w3.heap.size := (by omega); have hx30 := fun o => hc3 (w.heap.size) o (by first | omega | (simp <;> omega)); have hx31 := fun o => hc3 (w.heap.size + 1) o (by first | omega | (simp <;> omega)); have hx32 := fun o => hc3 (w.heap.size + 2) o (by first | omega | (simp <;> omega)); clear hc3 hf3) | (go_at_call 18; (with_reducible refine (known_calls _).use ?_); intro w4 hb4 hz4 hc4 hf4; (try simp at hz4); have hy4 : w.heap.size + 2 < w4.heap.size := (by omega); have hx40 := fun o => hc4 (w.heap.size) o (by first | omega | (simp <;> omega)); have hx41 := fun o => hc4 (w.heap.size + 1) o (by first | omega | (simp <;> omega)); have hx42 := fun o => hc4 (w.heap.size + 2) o (by first | omega | (simp <;> omega)); clear hc4 hf4))
        all_goals
          go_ret
          refine ⟨?_, by (repeat' (first | exact Below.refl _ _ | assumption | refine below_new ?_ _ | refine below_draw ?_ | refine below_tail (by assumption) ?_ | refine below_set ?_ (by first | omega | (simp <;> omega)) _))⟩
          first | rfl | (exfalso; have u1 := hm1.out; have u2 := hm2.out; omega)
      · have a3 : (askedF c [ya] [yb] == 0) = false := by simpa using hzy
        have a4 : (askedF c [ya] [yb] != 0) = true := by simpa using hzy
        clear hzx hzy
        go_enter Try.func3, Try.ntmps3
        go_wp2_with (first | (go_at_call 17; (with_reducible refine (long_calls _ c _ (HCal.out.below (by (repeat' (first | exact Below.refl _ _ | assumption | refine below_new ?_ _ | refine below_draw ?_ | refine below_tail (by assumption) ?_ | refine below_set ?_ (by first | omega | (simp <;> omega)) _))))).use ?_); intro w1 hb1 hz1 hc1 hf1; (try simp at hz1); have hy1 : w.heap.size + 2 < w1.heap.size := (by omega); have hx10 := fun o => hc1 (w.heap.size) o (by first | omega | (simp <;> omega)); have hx11 := fun o => hc1 (w.heap.size + 1) o (by first | omega | (simp <;> omega)); have hx12 := fun o => hc1 (w.heap.size + 2) o (by first | omega | (simp <;> omega)); clear hc1 hf1; rw [hL]) | (go_at_call 19; (with_reducible refine (Ends_calls _ c xa xb _ (HCal.out.below (by (repeat' (first | exact Below.refl _ _ | assumption | refine below_new ?_ _ | refine below_draw ?_ | refine below_tail (by assumption) ?_ | refine below_set ?_ (by first | omega | (simp <;> omega)) _))))).use ?_); intro w2 hb2 hz2 hc2 hf2; (try simp at hz2); have hy2 : w.heap.size + 2 < w2.heap.size := (by omega); have hx20 := fun o => hc2 (w.heap.size) o (by first | omega | (simp <;> omega)); have hx21 := fun o => hc2 (w.heap.size + 1) o (by first | omega | (simp <;> omega)); have hx22 := fun o => hc2 (w.heap.size + 2) o (by first | omega | (simp <;> omega)); clear hc2 hf2) | (go_at_call 19; (with_reducible refine (Ends_calls _ c ya yb _ (HCal.out.below (by (repeat' (first | exact Below.refl _ _ | assumption | refine below_new ?_ _ | refine below_draw ?_ | refine below_tail (by assumption) ?_ | refine below_set ?_ (by first | omega | (simp <;> omega)) _))))).use ?_); intro w3 hb3 hz3 hc3 hf3; (try simp at hz3); have hy3 : w.heap.size + 2 < w3.heap.size := (by omega); have hx30 := fun o => hc3 (w.heap.size) o (by first | omega | (simp <;> omega)); have hx31 := fun o => hc3 (w.heap.size + 1) o (by first | omega | (simp <;> omega)); have hx32 := fun o => hc3 (w.heap.size + 2) o (by first | omega | (simp <;> omega)); clear hc3 hf3) | (go_at_call 18; (with_reducible refine (known_calls _).use ?_); intro w4 hb4 hz4 hc4 hf4; (try simp at hz4); have hy4 : w.heap.size + 2 < w4.heap.size := (by omega); have hx40 := fun o => hc4 (w.heap.size) o (by first | omega | (simp <;> omega)); have hx41 := fun o => hc4 (w.heap.size + 1) o (by first | omega | (simp <;> omega)); have hx42 := fun o => hc4 (w.heap.size + 2) o (by first | omega | (simp <;> omega)); clear hc4 hf4))
        go_ret
        exact ⟨rfl, by (repeat' (first | exact Below.refl _ _ | assumption | refine below_new ?_ _ | refine below_draw ?_ | refine below_tail (by assumption) ?_ | refine below_set ?_ (by first | omega | (simp <;> omega)) _))⟩
    · have a1 : (askedF c [xa] [xb] == 0) = false := by simpa using hzx
      have a2 : (askedF c [xa] [xb] != 0) = true := by simpa using hzx
      clear hzx
      go_enter Try.func3, Try.ntmps3
      go_wp2_with (first | (go_at_call 17; (with_reducible refine (long_calls _ c _ (HCal.out.below (by (repeat' (first | exact Below.refl _ _ | assumption | refine below_new ?_ _ | refine below_draw ?_ | refine below_tail (by assumption) ?_ | refine below_set ?_ (by first | omega | (simp <;> omega)) _))))).use ?_); intro w1 hb1 hz1 hc1 hf1; (try simp at hz1); have hy1 : w.heap.size + 2 < w1.heap.size := (by omega); have hx10 := fun o => hc1 (w.heap.size) o (by first | omega | (simp <;> omega)); have hx11 := fun o => hc1 (w.heap.size + 1) o (by first | omega | (simp <;> omega)); have hx12 := fun o => hc1 (w.heap.size + 2) o (by first | omega | (simp <;> omega)); clear hc1 hf1; rw [hL]) | (go_at_call 19; (with_reducible refine (Ends_calls _ c xa xb _ (HCal.out.below (by (repeat' (first | exact Below.refl _ _ | assumption | refine below_new ?_ _ | refine below_draw ?_ | refine below_tail (by assumption) ?_ | refine below_set ?_ (by first | omega | (simp <;> omega)) _))))).use ?_); intro w2 hb2 hz2 hc2 hf2; (try simp at hz2); have hy2 : w.heap.size + 2 < w2.heap.size := (by omega); have hx20 := fun o => hc2 (w.heap.size) o (by first | omega | (simp <;> omega)); have hx21 := fun o => hc2 (w.heap.size + 1) o (by first | omega | (simp <;> omega)); have hx22 := fun o => hc2 (w.heap.size + 2) o (by first | omega | (simp <;> omega)); clear hc2 hf2) | (go_at_call 19; (with_reducible refine (Ends_calls _ c ya yb _ (HCal.out.below (by (repeat' (first | exact Below.refl _ _ | assumption | refine below_new ?_ _ | refine below_draw ?_ | refine below_tail (by assumption) ?_ | refine below_set ?_ (by first | omega | (simp <;> omega)) _))))).use ?_); intro w3 hb3 hz3 hc3 hf3; (try simp at hz3); have hy3 : w.heap.size + 2 < w3.heap.size := (by omega); have hx30 := fun o => hc3 (w.heap.size) o (by first | omega | (simp <;> omega)); have hx31 := fun o => hc3 (w.heap.size + 1) o (by first | omega | (simp <;> omega)); have hx32 := fun o => hc3 (w.heap.size + 2) o (by first | omega | (simp <;> omega)); clear hc3 hf3) | (go_at_call 18; (with_reducible refine (known_calls _).use ?_); intro w4 hb4 hz4 hc4 hf4; (try simp at hz4); have hy4 : w.heap.size + 2 < w4.heap.size := (by omega); have hx40 := fun o => hc4 (w.heap.size) o (by first | omega | (simp <;> omega)); have hx41 := fun o => hc4 (w.heap.size + 1) o (by first | omega | (simp <;> omega)); have hx42 := fun o => hc4 (w.heap.size + 2) o (by first | omega | (simp <;> omega)); clear hc4 hf4))
      go_ret
      exact ⟨rfl, by (repeat' (first | exact Below.refl _ _ | assumption | refine below_new ?_ _ | refine below_draw ?_ | refine below_tail (by assumption) ?_ | refine below_set ?_ (by first | omega | (simp <;> omega)) _))⟩
  · go_enter Try.func3, Try.ntmps3
    go_wp2_with (first
      | (go_at_call 17; refine (long_calls _ c _ (HCal.out.below (by (repeat' (first | exact Below.refl _ _ | assumption | refine below_new ?_ _ | refine below_draw ?_ | refine below_tail (by assumption) ?_ | refine below_set ?_ (by first | omega | (simp <;> omega)) _))))).use ?_; intro w1 hb1 hz1 hc1 hf1)
      | (go_at_call 18; refine (known_calls _).use ?_; intro w2 hb2 hz2 hc2 hf2))
    go_ret
    exact ⟨rfl, by (repeat' (first | exact Below.refl _ _ | assumption | refine below_new ?_ _ | refine below_draw ?_ | refine below_tail (by assumption) ?_ | refine below_set ?_ (by first | omega | (simp <;> omega)) _))⟩
end Go.Proofs.Ytnhohnnoffhkhaa
