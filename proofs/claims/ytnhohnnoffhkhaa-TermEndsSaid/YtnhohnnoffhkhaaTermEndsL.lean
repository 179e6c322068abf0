/- The law TermEnds: its walk. Conditions: a calendar lies in memory as said. -/
import Derived.Test.YtnhohnnoffhkhaaTermKnown
import Derived.Test.YtnhohnnoffhkhaaTermEx4
namespace Go.Proofs.Ytnhohnnoffhkhaa
open Go.RowKit

theorem orderedE_of {c : Cal} {a b : Int} (h1 : validF c = 0) (h2 : 0 ≤ a) (h3 : a ≤ b) (h4 : b ≤ 10000) : orderedF c a b = 0 := by
  unfold orderedF
  rw [if_pos (asked_of h1 (by intro d hd; simp at hd; omega) (by simp)), if_neg (by omega)]
theorem ends_facts {c : Cal} {d n : Int} (hz : askedF c [d] [n] = 0) (hb : endsR c d n ≤ 10000) :
    askedF c [endsR c d n] [] = 0 ∧ freeR c (endsR c d n) = false ∧ d ≤ endsR c d n ∧ orderedF c d (endsR c d n) = 0 ∧ n ≤ countR c d (endsR c d n) := by
  obtain ⟨hv, g1, g2, g3, g4⟩ := asked_term hz
  have e1 : endsR c d n = endsF c d n := by unfold endsR; rw [if_pos hz]
  obtain ⟨h1, h2, _⟩ := endsF_first hv (day := d) (days := n) g1 g3 (by omega)
  rw [e1] at hb ⊢
  unfold endB at h2
  rw [Bool.and_eq_true] at h2
  obtain ⟨h2, h3⟩ := h2
  have h2 := of_decide_eq_true h2
  have o1 : askedF c [endsF c d n] [] = 0 := asked_of hv (by intro x hx; simp at hx; omega) (by simp)
  have o2 : orderedF c d (endsF c d n) = 0 := orderedE_of hv g1 h1 hb
  refine ⟨o1, ?_, h1, o2, ?_⟩
  · unfold freeR; rw [if_pos o1]; simpa using h3
  · unfold countR countF; rw [if_pos o2, show (endsF c d n - d + 1).toNat = 1 + (endsF c d n - d).toNat by omega, cnt_add]
    have := cnt_nonneg (fun x => !(stillB c x)) d 1
    have e3 : d + ((1 : Nat) : Int) = d + 1 := by omega
    rw [e3]; omega

set_option maxHeartbeats 4000000 in
set_option maxRecDepth 100000 in
theorem termEnds_calls (v : Value) (c : Cal) (d n : Int) (w : World) (h : CalAt w v c) :
    Gives Try.prog 13 #[v, .int .i64 d, .int .i64 n] w (.bool true) := by
  obtain ⟨fa, fc, sa, sc, rfl, hf, hs, hfc, hsc, hfl, hsl⟩ := h.cells
  have HCal := Lib.hid h
  clear h hf hs
  unfold Gives
  cases hL : (decide (100 < c.free.length) || decide (100 < c.still.length))
  · have s0 : (endsR c d n == endsR c d n) = true := by simp
    have s1 : (endsR c d n != endsR c d n) = false := by simp
    have s2 : (askedF c [d] [n] == askedF c [d] [n]) = true := by simp
    have s3 : (askedF c [d] [n] != askedF c [d] [n]) = false := by simp
    by_cases hz : askedF c [d] [n] = 0
    · have a0 : (askedF c [d] [n] == 0) = true := by simpa using hz
      have a1 : (askedF c [d] [n] != 0) = false := by simpa using hz
      by_cases hb2 : 10000 < endsR c d n
      · have b2 : decide (10000 < endsR c d n) = true := by simpa using hb2
        clear hz
        go_enter Try.func13, Try.ntmps13
        go_wp2_with (first | (go_at_call 17; (with_reducible refine (long_calls _ c _ (HCal.out.below (by (repeat' (first | exact Below.refl _ _ | assumption | refine below_new ?_ _ | refine below_draw ?_ | refine below_tail (by assumption) ?_ | refine below_set ?_ (by first | omega | (simp <;> omega)) _))))).use ?_); intro w1 hb1 hz1 hc1 hf1; (try simp at hz1); have hy1 : w.heap.size < w1.heap.size := (by omega); have hx10 := fun o => hc1 (w.heap.size) o (by first | omega | (simp <;> omega)); clear hc1 hf1; rw [hL]) | (go_at_call 19; (with_reducible refine (Ends_calls _ c d n _ (HCal.out.below (by (repeat' (first | exact Below.refl _ _ | assumption | refine below_new ?_ _ | refine below_draw ?_ | refine below_tail (by assumption) ?_ | refine below_set ?_ (by first | omega | (simp <;> omega)) _))))).use ?_); intro w2 hb2 hz2 hc2 hf2; (try simp at hz2); have hy2 : w.heap.size < w2.heap.size := (by omega); have hx20 := fun o => hc2 (w.heap.size) o (by first | omega | (simp <;> omega)); clear hc2 hf2) | (go_at_call 48; (with_reducible refine (rEnds_calls _ c d n _ (HCal.out.below (by (repeat' (first | exact Below.refl _ _ | assumption | refine below_new ?_ _ | refine below_draw ?_ | refine below_tail (by assumption) ?_ | refine below_set ?_ (by first | omega | (simp <;> omega)) _))))).use ?_); intro w3 hb3 hz3 hc3 hf3; (try simp at hz3); have hy3 : w.heap.size < w3.heap.size := (by omega); have hx30 := fun o => hc3 (w.heap.size) o (by first | omega | (simp <;> omega)); clear hc3 hf3) | (go_at_call 36; (with_reducible refine (IsFree_calls _ c (endsR c d n) _ (HCal.out.below (by (repeat' (first | exact Below.refl _ _ | assumption | refine below_new ?_ _ | refine below_draw ?_ | refine below_tail (by assumption) ?_ | refine below_set ?_ (by first | omega | (simp <;> omega)) _))))).use ?_); intro w4 hb4 hz4 hc4 hf4; (try simp at hz4); have hy4 : w.heap.size < w4.heap.size := (by omega); have hx40 := fun o => hc4 (w.heap.size) o (by first | omega | (simp <;> omega)); clear hc4 hf4) | (go_at_call 33; (with_reducible refine (Counting_calls _ c d (endsR c d n) _ (HCal.out.below (by (repeat' (first | exact Below.refl _ _ | assumption | refine below_new ?_ _ | refine below_draw ?_ | refine below_tail (by assumption) ?_ | refine below_set ?_ (by first | omega | (simp <;> omega)) _))))).use ?_); intro w5 hb5 hz5 hc5 hf5; (try simp at hz5); have hy5 : w.heap.size < w5.heap.size := (by omega); have hx50 := fun o => hc5 (w.heap.size) o (by first | omega | (simp <;> omega)); clear hc5 hf5) | (go_at_call 18; (with_reducible refine (known_calls _).use ?_); intro w20 hb20 hz20 hc20 hf20; (try simp at hz20); have hy20 : w.heap.size < w20.heap.size := (by omega); have hx200 := fun o => hc20 (w.heap.size) o (by first | omega | (simp <;> omega)); clear hc20 hf20))
        go_ret
        exact ⟨rfl, by (repeat' (first | exact Below.refl _ _ | assumption | refine below_new ?_ _ | refine below_draw ?_ | refine below_tail (by assumption) ?_ | refine below_set ?_ (by first | omega | (simp <;> omega)) _))⟩
      · have b2 : decide (10000 < endsR c d n) = false := by simpa using hb2
        obtain ⟨f1, f2, f3, f4, f5⟩ := ends_facts hz (by omega)
        have f6 : (askedF c [endsR c d n] [] == 0) = true := by simpa using f1
        have f6b : (askedF c [endsR c d n] [] != 0) = false := by simpa using f1
        have f7 : decide (endsR c d n < d) = false := by simp; omega
        have f8 : (orderedF c d (endsR c d n) == 0) = true := by simpa using f4
        have f9 : decide (n ≤ countR c d (endsR c d n)) = true := by simpa using f5
        clear hz f1 f4 f5
        go_enter Try.func13, Try.ntmps13
        go_wp2_with (first | (go_at_call 17; (with_reducible refine (long_calls _ c _ (HCal.out.below (by (repeat' (first | exact Below.refl _ _ | assumption | refine below_new ?_ _ | refine below_draw ?_ | refine below_tail (by assumption) ?_ | refine below_set ?_ (by first | omega | (simp <;> omega)) _))))).use ?_); intro w1 hb1 hz1 hc1 hf1; (try simp at hz1); have hy1 : w.heap.size < w1.heap.size := (by omega); have hx10 := fun o => hc1 (w.heap.size) o (by first | omega | (simp <;> omega)); clear hc1 hf1; rw [hL]) | (go_at_call 19; (with_reducible refine (Ends_calls _ c d n _ (HCal.out.below (by (repeat' (first | exact Below.refl _ _ | assumption | refine below_new ?_ _ | refine below_draw ?_ | refine below_tail (by assumption) ?_ | refine below_set ?_ (by first | omega | (simp <;> omega)) _))))).use ?_); intro w2 hb2 hz2 hc2 hf2; (try simp at hz2); have hy2 : w.heap.size < w2.heap.size := (by omega); have hx20 := fun o => hc2 (w.heap.size) o (by first | omega | (simp <;> omega)); clear hc2 hf2) | (go_at_call 48; (with_reducible refine (rEnds_calls _ c d n _ (HCal.out.below (by (repeat' (first | exact Below.refl _ _ | assumption | refine below_new ?_ _ | refine below_draw ?_ | refine below_tail (by assumption) ?_ | refine below_set ?_ (by first | omega | (simp <;> omega)) _))))).use ?_); intro w3 hb3 hz3 hc3 hf3; (try simp at hz3); have hy3 : w.heap.size < w3.heap.size := (by omega); have hx30 := fun o => hc3 (w.heap.size) o (by first | omega | (simp <;> omega)); clear hc3 hf3) | (go_at_call 36; (with_reducible refine (IsFree_calls _ c (endsR c d n) _ (HCal.out.below (by (repeat' (first | exact Below.refl _ _ | assumption | refine below_new ?_ _ | refine below_draw ?_ | refine below_tail (by assumption) ?_ | refine below_set ?_ (by first | omega | (simp <;> omega)) _))))).use ?_); intro w4 hb4 hz4 hc4 hf4; (try simp at hz4); have hy4 : w.heap.size < w4.heap.size := (by omega); have hx40 := fun o => hc4 (w.heap.size) o (by first | omega | (simp <;> omega)); clear hc4 hf4) | (go_at_call 33; (with_reducible refine (Counting_calls _ c d (endsR c d n) _ (HCal.out.below (by (repeat' (first | exact Below.refl _ _ | assumption | refine below_new ?_ _ | refine below_draw ?_ | refine below_tail (by assumption) ?_ | refine below_set ?_ (by first | omega | (simp <;> omega)) _))))).use ?_); intro w5 hb5 hz5 hc5 hf5; (try simp at hz5); have hy5 : w.heap.size < w5.heap.size := (by omega); have hx50 := fun o => hc5 (w.heap.size) o (by first | omega | (simp <;> omega)); clear hc5 hf5) | (go_at_call 18; (with_reducible refine (known_calls _).use ?_); intro w20 hb20 hz20 hc20 hf20; (try simp at hz20); have hy20 : w.heap.size < w20.heap.size := (by omega); have hx200 := fun o => hc20 (w.heap.size) o (by first | omega | (simp <;> omega)); clear hc20 hf20))
        go_ret
        exact ⟨rfl, by (repeat' (first | exact Below.refl _ _ | assumption | refine below_new ?_ _ | refine below_draw ?_ | refine below_tail (by assumption) ?_ | refine below_set ?_ (by first | omega | (simp <;> omega)) _))⟩
    · have a0 : (askedF c [d] [n] == 0) = false := by simpa using hz
      have a1 : (askedF c [d] [n] != 0) = true := by simpa using hz
      clear hz
      go_enter Try.func13, Try.ntmps13
      go_wp2_with (first | (go_at_call 17; (with_reducible refine (long_calls _ c _ (HCal.out.below (by (repeat' (first | exact Below.refl _ _ | assumption | refine below_new ?_ _ | refine below_draw ?_ | refine below_tail (by assumption) ?_ | refine below_set ?_ (by first | omega | (simp <;> omega)) _))))).use ?_); intro w1 hb1 hz1 hc1 hf1; (try simp at hz1); have hy1 : w.heap.size < w1.heap.size := (by omega); have hx10 := fun o => hc1 (w.heap.size) o (by first | omega | (simp <;> omega)); clear hc1 hf1; rw [hL]) | (go_at_call 19; (with_reducible refine (Ends_calls _ c d n _ (HCal.out.below (by (repeat' (first | exact Below.refl _ _ | assumption | refine below_new ?_ _ | refine below_draw ?_ | refine below_tail (by assumption) ?_ | refine below_set ?_ (by first | omega | (simp <;> omega)) _))))).use ?_); intro w2 hb2 hz2 hc2 hf2; (try simp at hz2); have hy2 : w.heap.size < w2.heap.size := (by omega); have hx20 := fun o => hc2 (w.heap.size) o (by first | omega | (simp <;> omega)); clear hc2 hf2) | (go_at_call 48; (with_reducible refine (rEnds_calls _ c d n _ (HCal.out.below (by (repeat' (first | exact Below.refl _ _ | assumption | refine below_new ?_ _ | refine below_draw ?_ | refine below_tail (by assumption) ?_ | refine below_set ?_ (by first | omega | (simp <;> omega)) _))))).use ?_); intro w3 hb3 hz3 hc3 hf3; (try simp at hz3); have hy3 : w.heap.size < w3.heap.size := (by omega); have hx30 := fun o => hc3 (w.heap.size) o (by first | omega | (simp <;> omega)); clear hc3 hf3) | (go_at_call 36; (with_reducible refine (IsFree_calls _ c (endsR c d n) _ (HCal.out.below (by (repeat' (first | exact Below.refl _ _ | assumption | refine below_new ?_ _ | refine below_draw ?_ | refine below_tail (by assumption) ?_ | refine below_set ?_ (by first | omega | (simp <;> omega)) _))))).use ?_); intro w4 hb4 hz4 hc4 hf4; (try simp at hz4); have hy4 : w.heap.size < w4.heap.size := (by omega); have hx40 := fun o => hc4 (w.heap.size) o (by first | omega | (simp <;> omega)); clear hc4 hf4) | (go_at_call 33; (with_reducible refine (Counting_calls _ c d (endsR c d n) _ (HCal.out.below (by (repeat' (first | exact Below.refl _ _ | assumption | refine below_new ?_ _ | refine below_draw ?_ | refine below_tail (by assumption) ?_ | refine below_set ?_ (by first | omega | (simp <;> omega)) _))))).use ?_); intro w5 hb5 hz5 hc5 hf5; (try simp at hz5); have hy5 : w.heap.size < w5.heap.size := (by omega); have hx50 := fun o => hc5 (w.heap.size) o (by first | omega | (simp <;> omega)); clear hc5 hf5) | (go_at_call 18; (with_reducible refine (known_calls _).use ?_); intro w20 hb20 hz20 hc20 hf20; (try simp at hz20); have hy20 : w.heap.size < w20.heap.size := (by omega); have hx200 := fun o => hc20 (w.heap.size) o (by first | omega | (simp <;> omega)); clear hc20 hf20))
      go_ret
      exact ⟨rfl, by (repeat' (first | exact Below.refl _ _ | assumption | refine below_new ?_ _ | refine below_draw ?_ | refine below_tail (by assumption) ?_ | refine below_set ?_ (by first | omega | (simp <;> omega)) _))⟩
  · go_enter Try.func13, Try.ntmps13
    go_wp2_with (first | (go_at_call 17; (with_reducible refine (long_calls _ c _ (HCal.out.below (by (repeat' (first | exact Below.refl _ _ | assumption | refine below_new ?_ _ | refine below_draw ?_ | refine below_tail (by assumption) ?_ | refine below_set ?_ (by first | omega | (simp <;> omega)) _))))).use ?_); intro w1 hb1 hz1 hc1 hf1; (try simp at hz1); have hy1 : w.heap.size < w1.heap.size := (by omega); have hx10 := fun o => hc1 (w.heap.size) o (by first | omega | (simp <;> omega)); clear hc1 hf1; rw [hL]) | (go_at_call 18; (with_reducible refine (known_calls _).use ?_); intro w20 hb20 hz20 hc20 hf20; (try simp at hz20); have hy20 : w.heap.size < w20.heap.size := (by omega); have hx200 := fun o => hc20 (w.heap.size) o (by first | omega | (simp <;> omega)); clear hc20 hf20))
    go_ret
    exact ⟨rfl, by (repeat' (first | exact Below.refl _ _ | assumption | refine below_new ?_ _ | refine below_draw ?_ | refine below_tail (by assumption) ?_ | refine below_set ?_ (by first | omega | (simp <;> omega)) _))⟩
end Go.Proofs.Ytnhohnnoffhkhaa
