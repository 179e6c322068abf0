/- The law TermAdds: its walk. Conditions: a calendar lies in memory as said. -/
import Derived.Test.YtnhohnnoffhkhaaTermKnown
import Derived.Test.YtnhohnnoffhkhaaTermEx4
namespace Go.Proofs.Ytnhohnnoffhkhaa
open Go.RowKit

theorem wf_i64 {x : Int} (h : (Lit.int .i64 x).wf = true) : -9223372036854775808 ≤ x ∧ x ≤ 9223372036854775807 := by
  have : IntKind.i64.min = -9223372036854775808 := by decide
  simpa [Lit.wf, this] using h
theorem ordered_of {c : Cal} {a b : Int} (h1 : validF c = 0) (h2 : 0 ≤ a) (h3 : a ≤ b) (h4 : b ≤ 10000) : orderedF c a b = 0 := by
  unfold orderedF
  rw [if_pos (asked_of h1 (by intro d hd; simp at hd; omega) (by simp)), if_neg (by omega)]
theorem adds_facts {c : Cal} {a m b : Int} (hz : orderedF c a b = 0) (h1 : a ≤ m) (h2 : m < b) :
    orderedF c a m = 0 ∧ orderedF c (m + 1) b = 0 ∧ (0 ≤ countR c a m ∧ countR c a m ≤ 10001) ∧ (0 ≤ countR c (m + 1) b ∧ countR c (m + 1) b ≤ 10001) ∧ countR c a m + countR c (m + 1) b = countR c a b := by
  obtain ⟨hzz, hab⟩ := ordered_ok hz
  obtain ⟨hv, g1, g2, g3, g4⟩ := asked_days hzz
  have o1 : orderedF c a m = 0 := ordered_of hv g1 h1 (by omega)
  have o2 : orderedF c (m + 1) b = 0 := ordered_of hv (by omega) (by omega) g4
  have k1 := cnt_nonneg (fun x => !(stillB c x)) a (m - a + 1).toNat
  have k2 := cnt_nonneg (fun x => !(stillB c x)) (m + 1) (b - (m + 1) + 1).toNat
  have k3 := cnt_le (fun x => !(stillB c x)) a (m - a + 1).toNat
  have k4 := cnt_le (fun x => !(stillB c x)) (m + 1) (b - (m + 1) + 1).toNat
  refine ⟨o1, o2, ?_, ?_, ?_⟩
  · unfold countR countF; rw [if_pos o1]; omega
  · unfold countR countF; rw [if_pos o2]; omega
  · unfold countR countF
    rw [if_pos o1, if_pos o2, if_pos hz]
    rw [show (b - a + 1).toNat = (m - a + 1).toNat + (b - (m + 1) + 1).toNat by omega, cnt_add, show a + ((m - a + 1).toNat : Int) = m + 1 by omega]

set_option maxHeartbeats 4000000 in
set_option maxRecDepth 100000 in
theorem termAdds_calls (v : Value) (c : Cal) (xa xb m : Int) (w : World) (h : CalAt w v c) (hx : (Lit.int .i64 xb).wf = true) (hm : (Lit.int .i64 m).wf = true) :
    Gives Try.prog 11 #[v, .agg #[.int .i64 xa, .int .i64 xb], .int .i64 m] w (.bool true) := by
  obtain ⟨fa, fc, sa, sc, rfl, hf, hs, hfc, hsc, hfl, hsl⟩ := h.cells
  have HCal := Lib.hid h
  clear h hf hs
  unfold Gives
  cases hL : (decide (100 < c.free.length) || decide (100 < c.still.length))
  · by_cases hb1 : m < xa
    · have b1 : decide (m < xa) = true := by simpa using hb1
      go_enter Try.func11, Try.ntmps11
      go_wp2_with (first | (go_at_call 17; (with_reducible refine (long_calls _ c _ (HCal.out.below (by (repeat' (first | exact Below.refl _ _ | assumption | refine below_new ?_ _ | refine below_draw ?_ | refine below_tail (by assumption) ?_ | refine below_set ?_ (by first | omega | (simp <;> omega)) _))))).use ?_); intro w1 hb1 hz1 hc1 hf1; (try simp at hz1); have hy1 : w.heap.size + 1 < w1.heap.size := (by omega); have hx10 := fun o => hc1 (w.heap.size) o (by first | omega | (simp <;> omega)); have hx11 := fun o => hc1 (w.heap.size + 1) o (by first | omega | (simp <;> omega)); clear hc1 hf1; rw [hL]) | (go_at_call 18; (with_reducible refine (known_calls _).use ?_); intro w20 hb20 hz20 hc20 hf20; (try simp at hz20); have hy20 : w.heap.size + 1 < w20.heap.size := (by omega); have hx200 := fun o => hc20 (w.heap.size) o (by first | omega | (simp <;> omega)); have hx201 := fun o => hc20 (w.heap.size + 1) o (by first | omega | (simp <;> omega)); clear hc20 hf20))
      go_ret
      exact ⟨rfl, by (repeat' (first | exact Below.refl _ _ | assumption | refine below_new ?_ _ | refine below_draw ?_ | refine below_tail (by assumption) ?_ | refine below_set ?_ (by first | omega | (simp <;> omega)) _))⟩
    · by_cases hb2 : xb ≤ m
      · have b1 : decide (m < xa) = false := by simpa using hb1
        have b2 : decide (xb ≤ m) = true := by simpa using hb2
        go_enter Try.func11, Try.ntmps11
        go_wp2_with (first | (go_at_call 17; (with_reducible refine (long_calls _ c _ (HCal.out.below (by (repeat' (first | exact Below.refl _ _ | assumption | refine below_new ?_ _ | refine below_draw ?_ | refine below_tail (by assumption) ?_ | refine below_set ?_ (by first | omega | (simp <;> omega)) _))))).use ?_); intro w1 hb1 hz1 hc1 hf1; (try simp at hz1); have hy1 : w.heap.size + 1 < w1.heap.size := (by omega); have hx10 := fun o => hc1 (w.heap.size) o (by first | omega | (simp <;> omega)); have hx11 := fun o => hc1 (w.heap.size + 1) o (by first | omega | (simp <;> omega)); clear hc1 hf1; rw [hL]) | (go_at_call 18; (with_reducible refine (known_calls _).use ?_); intro w20 hb20 hz20 hc20 hf20; (try simp at hz20); have hy20 : w.heap.size + 1 < w20.heap.size := (by omega); have hx200 := fun o => hc20 (w.heap.size) o (by first | omega | (simp <;> omega)); have hx201 := fun o => hc20 (w.heap.size + 1) o (by first | omega | (simp <;> omega)); clear hc20 hf20))
        go_ret
        exact ⟨rfl, by (repeat' (first | exact Below.refl _ _ | assumption | refine below_new ?_ _ | refine below_draw ?_ | refine below_tail (by assumption) ?_ | refine below_set ?_ (by first | omega | (simp <;> omega)) _))⟩
      · have b1 : decide (m < xa) = false := by simpa using hb1
        have b2 : decide (xb ≤ m) = false := by simpa using hb2
        have hr1 : -9223372036854775808 ≤ m := by have := wf_i64 hm; omega
        have hr2 : m + 1 ≤ 9223372036854775807 := by have := wf_i64 hx; omega
        by_cases hz : orderedF c xa xb = 0
        · have a0 : (orderedF c xa xb == 0) = true := by simpa using hz
          have a1 : (orderedF c xa xb != 0) = false := by simpa using hz
          obtain ⟨f1, f2, f3, f4, f5⟩ := adds_facts (m := m) hz (by omega) (by omega)
          have f6 : (orderedF c xa m == 0) = true := by simpa using f1
          have f7 : (orderedF c (m + 1) xb == 0) = true := by simpa using f2
          have f8 : decide (0 ≤ countR c xa m) = true := by simpa using f3.1
          have f9 : decide (0 ≤ countR c (m + 1) xb) = true := by simpa using f4.1
          have f10 : (countR c xa m + countR c (m + 1) xb == countR c xa xb) = true := by simpa using f5
          have f11 := f3.1
          have f12 := f3.2
          have f13 := f4.1
          have f14 := f4.2
          clear hz f1 f2 f3 f4
          go_enter Try.func11, Try.ntmps11
          go_wp2_with (first | (go_at_call 17; (with_reducible refine (long_calls _ c _ (HCal.out.below (by (repeat' (first | exact Below.refl _ _ | assumption | refine below_new ?_ _ | refine below_draw ?_ | refine below_tail (by assumption) ?_ | refine below_set ?_ (by first | omega | (simp <;> omega)) _))))).use ?_); intro w1 hb1 hz1 hc1 hf1; (try simp at hz1); have hy1 : w.heap.size + 1 < w1.heap.size := (by omega); have hx10 := fun o => hc1 (w.heap.size) o (by first | omega | (simp <;> omega)); have hx11 := fun o => hc1 (w.heap.size + 1) o (by first | omega | (simp <;> omega)); clear hc1 hf1; rw [hL]) | (go_at_call 33; (with_reducible refine (Counting_calls _ c xa m _ (HCal.out.below (by (repeat' (first | exact Below.refl _ _ | assumption | refine below_new ?_ _ | refine below_draw ?_ | refine below_tail (by assumption) ?_ | refine below_set ?_ (by first | omega | (simp <;> omega)) _))))).use ?_); intro w2 hb2 hz2 hc2 hf2; (try simp at hz2); have hy2 : w.heap.size + 1 < w2.heap.size := (by omega); have hx20 := fun o => hc2 (w.heap.size) o (by first | omega | (simp <;> omega)); have hx21 := fun o => hc2 (w.heap.size + 1) o (by first | omega | (simp <;> omega)); clear hc2 hf2) | (go_at_call 33; (with_reducible refine (Counting_calls _ c (m + 1) xb _ (HCal.out.below (by (repeat' (first | exact Below.refl _ _ | assumption | refine below_new ?_ _ | refine below_draw ?_ | refine below_tail (by assumption) ?_ | refine below_set ?_ (by first | omega | (simp <;> omega)) _))))).use ?_); intro w3 hb3 hz3 hc3 hf3; (try simp at hz3); have hy3 : w.heap.size + 1 < w3.heap.size := (by omega); have hx30 := fun o => hc3 (w.heap.size) o (by first | omega | (simp <;> omega)); have hx31 := fun o => hc3 (w.heap.size + 1) o (by first | omega | (simp <;> omega)); clear hc3 hf3) | (go_at_call 33; (with_reducible refine (Counting_calls _ c xa xb _ (HCal.out.below (by (repeat' (first | exact Below.refl _ _ | assumption | refine below_new ?_ _ | refine below_draw ?_ | refine below_tail (by assumption) ?_ | refine below_set ?_ (by first | omega | (simp <;> omega)) _))))).use ?_); intro w4 hb4 hz4 hc4 hf4; (try simp at hz4); have hy4 : w.heap.size + 1 < w4.heap.size := (by omega); have hx40 := fun o => hc4 (w.heap.size) o (by first | omega | (simp <;> omega)); have hx41 := fun o => hc4 (w.heap.size + 1) o (by first | omega | (simp <;> omega)); clear hc4 hf4) | (go_at_call 18; (with_reducible refine (known_calls _).use ?_); intro w20 hb20 hz20 hc20 hf20; (try simp at hz20); have hy20 : w.heap.size + 1 < w20.heap.size := (by omega); have hx200 := fun o => hc20 (w.heap.size) o (by first | omega | (simp <;> omega)); have hx201 := fun o => hc20 (w.heap.size + 1) o (by first | omega | (simp <;> omega)); clear hc20 hf20))
          go_ret
          exact ⟨rfl, by (repeat' (first | exact Below.refl _ _ | assumption | refine below_new ?_ _ | refine below_draw ?_ | refine below_tail (by assumption) ?_ | refine below_set ?_ (by first | omega | (simp <;> omega)) _))⟩
        · have a0 : (orderedF c xa xb == 0) = false := by simpa using hz
          have a1 : (orderedF c xa xb != 0) = true := by simpa using hz
          clear hz
          go_enter Try.func11, Try.ntmps11
          go_wp2_with (first | (go_at_call 17; (with_reducible refine (long_calls _ c _ (HCal.out.below (by (repeat' (first | exact Below.refl _ _ | assumption | refine below_new ?_ _ | refine below_draw ?_ | refine below_tail (by assumption) ?_ | refine below_set ?_ (by first | omega | (simp <;> omega)) _))))).use ?_); intro w1 hb1 hz1 hc1 hf1; (try simp at hz1); have hy1 : w.heap.size + 1 < w1.heap.size := (by omega); have hx10 := fun o => hc1 (w.heap.size) o (by first | omega | (simp <;> omega)); have hx11 := fun o => hc1 (w.heap.size + 1) o (by first | omega | (simp <;> omega)); clear hc1 hf1; rw [hL]) | (go_at_call 33; (with_reducible refine (Counting_calls _ c xa m _ (HCal.out.below (by (repeat' (first | exact Below.refl _ _ | assumption | refine below_new ?_ _ | refine below_draw ?_ | refine below_tail (by assumption) ?_ | refine below_set ?_ (by first | omega | (simp <;> omega)) _))))).use ?_); intro w2 hb2 hz2 hc2 hf2; (try simp at hz2); have hy2 : w.heap.size + 1 < w2.heap.size := (by omega); have hx20 := fun o => hc2 (w.heap.size) o (by first | omega | (simp <;> omega)); have hx21 := fun o => hc2 (w.heap.size + 1) o (by first | omega | (simp <;> omega)); clear hc2 hf2) | (go_at_call 33; (with_reducible refine (Counting_calls _ c (m + 1) xb _ (HCal.out.below (by (repeat' (first | exact Below.refl _ _ | assumption | refine below_new ?_ _ | refine below_draw ?_ | refine below_tail (by assumption) ?_ | refine below_set ?_ (by first | omega | (simp <;> omega)) _))))).use ?_); intro w3 hb3 hz3 hc3 hf3; (try simp at hz3); have hy3 : w.heap.size + 1 < w3.heap.size := (by omega); have hx30 := fun o => hc3 (w.heap.size) o (by first | omega | (simp <;> omega)); have hx31 := fun o => hc3 (w.heap.size + 1) o (by first | omega | (simp <;> omega)); clear hc3 hf3) | (go_at_call 33; (with_reducible refine (Counting_calls _ c xa xb _ (HCal.out.below (by (repeat' (first | exact Below.refl _ _ | assumption | refine below_new ?_ _ | refine below_draw ?_ | refine below_tail (by assumption) ?_ | refine below_set ?_ (by first | omega | (simp <;> omega)) _))))).use ?_); intro w4 hb4 hz4 hc4 hf4; (try simp at hz4); have hy4 : w.heap.size + 1 < w4.heap.size := (by omega); have hx40 := fun o => hc4 (w.heap.size) o (by first | omega | (simp <;> omega)); have hx41 := fun o => hc4 (w.heap.size + 1) o (by first | omega | (simp <;> omega)); clear hc4 hf4) | (go_at_call 18; (with_reducible refine (known_calls _).use ?_); intro w20 hb20 hz20 hc20 hf20; (try simp at hz20); have hy20 : w.heap.size + 1 < w20.heap.size := (by omega); have hx200 := fun o => hc20 (w.heap.size) o (by first | omega | (simp <;> omega)); have hx201 := fun o => hc20 (w.heap.size + 1) o (by first | omega | (simp <;> omega)); clear hc20 hf20))
          go_ret
          exact ⟨rfl, by (repeat' (first | exact Below.refl _ _ | assumption | refine below_new ?_ _ | refine below_draw ?_ | refine below_tail (by assumption) ?_ | refine below_set ?_ (by first | omega | (simp <;> omega)) _))⟩
  · go_enter Try.func11, Try.ntmps11
    go_wp2_with (first | (go_at_call 17; (with_reducible refine (long_calls _ c _ (HCal.out.below (by (repeat' (first | exact Below.refl _ _ | assumption | refine below_new ?_ _ | refine below_draw ?_ | refine below_tail (by assumption) ?_ | refine below_set ?_ (by first | omega | (simp <;> omega)) _))))).use ?_); intro w1 hb1 hz1 hc1 hf1; (try simp at hz1); have hy1 : w.heap.size + 1 < w1.heap.size := (by omega); have hx10 := fun o => hc1 (w.heap.size) o (by first | omega | (simp <;> omega)); have hx11 := fun o => hc1 (w.heap.size + 1) o (by first | omega | (simp <;> omega)); clear hc1 hf1; rw [hL]) | (go_at_call 18; (with_reducible refine (known_calls _).use ?_); intro w20 hb20 hz20 hc20 hf20; (try simp at hz20); have hy20 : w.heap.size + 1 < w20.heap.size := (by omega); have hx200 := fun o => hc20 (w.heap.size) o (by first | omega | (simp <;> omega)); have hx201 := fun o => hc20 (w.heap.size + 1) o (by first | omega | (simp <;> omega)); clear hc20 hf20))
    go_ret
    exact ⟨rfl, by (repeat' (first | exact Below.refl _ _ | assumption | refine below_new ?_ _ | refine below_draw ?_ | refine below_tail (by assumption) ?_ | refine below_set ?_ (by first | omega | (simp <;> omega)) _))⟩
end Go.Proofs.Ytnhohnnoffhkhaa
