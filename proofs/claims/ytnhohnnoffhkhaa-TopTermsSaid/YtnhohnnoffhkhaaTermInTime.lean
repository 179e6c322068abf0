/- What InTime gives, in package term and in its reference. Conditions: a calendar lies in memory as said. -/
import Derived.Test.YtnhohnnoffhkhaaTermEx4
namespace Go.Proofs.Ytnhohnnoffhkhaa
open Go.RowKit

def inF (c : Cal) (h n x : Int) : Bool := withinB x h (endsF c h n)
def inR (c : Cal) (h n x : Int) : Bool := if askedF c [h, x] [n] = 0 then inF c h n x else false
theorem asked_in {c : Cal} {h x n : Int} (hz : askedF c [h, x] [n] = 0) : validF c = 0 ∧ 0 ≤ h ∧ h ≤ 10000 ∧ 0 ≤ x ∧ x ≤ 10000 ∧ 0 ≤ n ∧ n ≤ 400 := by
  obtain ⟨h1, h2, h3⟩ := asked_all hz
  have ha := daysF_all h2 h (by simp)
  have hb := daysF_all h2 x (by simp)
  have hc := termsF_all h3 n (by simp)
  exact ⟨h1, ha.1, ha.2, hb.1, hb.2, hc.1, hc.2⟩
theorem askedF_or3 (c : Cal) (ds ts : List Int) : orFrom [validF c, daysF ds, termsF ts] 0 = askedF c ds ts := by
  rw [orFrom_3]; rfl

set_option maxHeartbeats 1000000 in
theorem inTime_calls (v : Value) (c : Cal) (h n x : Int) (w : World) (hc : CalAt w v c) (hv : validF c = 0) (h1 : 0 ≤ h) (h2 : h ≤ 100000) (h3 : 0 ≤ n) (h4 : n ≤ 4000) :
    Gives Try.prog 75 #[v, .int .i64 h, .int .i64 n, .int .i64 x] w (.bool (inF c h n x)) := by
  obtain ⟨fa, fc, sa, sc, rfl, hf, hs, hfc, hsc, hfl, hsl⟩ := hc.cells
  have HCal := Lib.hid hc
  obtain ⟨hv1, hv2⟩ := valid_first hv
  have HV := Lib.hid hv
  clear hc hf hs hv
  unfold Gives
  go_enter Try.func75, Try.ntmps75
  go_wp2_with (first
    | (go_at_call 56; (with_reducible refine (ends_calls _ c h n _ (HCal.out.below (by (repeat' (first | exact Below.refl _ _ | assumption | refine below_new ?_ _ | refine below_draw ?_ | refine below_tail (by assumption) ?_ | refine below_set ?_ (by first | omega | (simp <;> omega)) _)))) HV.out hv1 hv2 h1 h2 h3 h4).use ?_); intro w1 hb1 hz1 hc1 hf1)
    | (go_at_call 82; refine (within_calls _ _ _ _).mono ?_; rintro e w' ⟨rfl, rfl⟩))
  go_ret
  exact ⟨rfl, by (repeat' (first | exact Below.refl _ _ | assumption | refine below_new ?_ _ | refine below_draw ?_ | refine below_tail (by assumption) ?_ | refine below_set ?_ (by first | omega | (simp <;> omega)) _))⟩

set_option maxHeartbeats 2000000 in
set_option maxRecDepth 100000 in
theorem InTime_calls (v : Value) (c : Cal) (h n x : Int) (w : World) (hcal : CalAt w v c) :
    Gives Try.prog 31 #[v, .int .i64 h, .int .i64 n, .int .i64 x] w (.tuple #[.bool (inR c h n x), .int .i64 (askedF c [h, x] [n])]) := by
  obtain ⟨fa, fc, sa, sc, rfl, hf, hs, hfc, hsc, hfl, hsl⟩ := hcal.cells
  have HCal := Lib.hid hcal
  clear hcal hf hs
  unfold Gives
  have HR0 : Hid (inR c h n x = if askedF c [h, x] [n] = 0 then inF c h n x else false) := rfl
  by_cases hz : askedF c [h, x] [n] = 0
  · have Hz := Lib.hid hz
    have hz1 : (askedF c [h, x] [n] == 0) = true := by simpa using hz
    have hz2 : (askedF c [h, x] [n] != 0) = false := by simpa using hz
    obtain ⟨hv, hd1, hd2, hx1, hx2, hn1, hn2⟩ := asked_in hz
    obtain ⟨hv1, hv2⟩ := valid_first hv
    have HV := Lib.hid hv
    clear hv hz
    go_enter Try.func31, Try.ntmps31
    go_wp2_with (first | (go_at_call 40; (with_reducible refine (validate_calls _ c _ (HCal.out.below (by (repeat' (first | exact Below.refl _ _ | assumption | refine below_new ?_ _ | refine below_draw ?_ | refine below_tail (by assumption) ?_ | refine below_set ?_ (by first | omega | (simp <;> omega)) _))))).use ?_); intro w1 hb1 hz1 hc1 hf1; (try simp at hz1); have hy1 : w.heap.size < w1.heap.size := (by omega); have hx10 := fun o => hc1 (w.heap.size) o (by first | omega | (simp <;> omega)); clear hc1 hf1) | (go_at_call 73; (with_reducible refine (areDays_calls _ [h, x] _ (ints2 (by simp))).use ?_); intro w2 hb2 hz2 hc2 hf2; (try simp at hz2); have hy2 : w.heap.size < w2.heap.size := (by omega); have hx20 := fun o => hc2 (w.heap.size) o (by first | omega | (simp <;> omega)); clear hc2 hf2) | (go_at_call 74; (with_reducible refine (areTerms_calls _ [n] _ (ints1 (by simp))).use ?_); intro w3 hb3 hz3 hc3 hf3; (try simp at hz3); have hy3 : w.heap.size < w3.heap.size := (by omega); have hx30 := fun o => hc3 (w.heap.size) o (by first | omega | (simp <;> omega)); clear hc3 hf3) | (go_at_call 72; refine (or_is _ [validF c, daysF [h, x], termsF [n]] (askedF c [h, x] [n]) _ (ints3 (by simp)) (askedF_or3 _ _ _)).mono ?_; rintro e w' ⟨rfl, rfl⟩) | (go_at_call 75; (with_reducible refine (inTime_calls _ c h n x _ (HCal.out.below (by (repeat' (first | exact Below.refl _ _ | assumption | refine below_new ?_ _ | refine below_draw ?_ | refine below_tail (by assumption) ?_ | refine below_set ?_ (by first | omega | (simp <;> omega)) _)))) HV.out hd1 (by omega) hn1 (by omega)).use ?_); intro w4 hb4 hz4 hc4 hf4))
    go_ret2
    exact ⟨by rw [HR0.out, if_pos Hz.out, Hz.out]; rfl, by (repeat' (first | exact Below.refl _ _ | assumption | refine below_new ?_ _ | refine below_draw ?_ | refine below_tail (by assumption) ?_ | refine below_set ?_ (by first | omega | (simp <;> omega)) _))⟩
  · have Hz := Lib.hid hz
    have hz1 : (askedF c [h, x] [n] == 0) = false := by simpa using hz
    have hz2 : (askedF c [h, x] [n] != 0) = true := by simpa using hz
    clear hz
    go_enter Try.func31, Try.ntmps31
    go_wp2_with (first | (go_at_call 40; (with_reducible refine (validate_calls _ c _ (HCal.out.below (by (repeat' (first | exact Below.refl _ _ | assumption | refine below_new ?_ _ | refine below_draw ?_ | refine below_tail (by assumption) ?_ | refine below_set ?_ (by first | omega | (simp <;> omega)) _))))).use ?_); intro w1 hb1 hz1 hc1 hf1; (try simp at hz1); have hy1 : w.heap.size < w1.heap.size := (by omega); have hx10 := fun o => hc1 (w.heap.size) o (by first | omega | (simp <;> omega)); clear hc1 hf1) | (go_at_call 73; (with_reducible refine (areDays_calls _ [h, x] _ (ints2 (by simp))).use ?_); intro w2 hb2 hz2 hc2 hf2; (try simp at hz2); have hy2 : w.heap.size < w2.heap.size := (by omega); have hx20 := fun o => hc2 (w.heap.size) o (by first | omega | (simp <;> omega)); clear hc2 hf2) | (go_at_call 74; (with_reducible refine (areTerms_calls _ [n] _ (ints1 (by simp))).use ?_); intro w3 hb3 hz3 hc3 hf3; (try simp at hz3); have hy3 : w.heap.size < w3.heap.size := (by omega); have hx30 := fun o => hc3 (w.heap.size) o (by first | omega | (simp <;> omega)); clear hc3 hf3) | (go_at_call 72; refine (or_is _ [validF c, daysF [h, x], termsF [n]] (askedF c [h, x] [n]) _ (ints3 (by simp)) (askedF_or3 _ _ _)).mono ?_; rintro e w' ⟨rfl, rfl⟩))
    go_ret2
    exact ⟨by rw [HR0.out, if_neg Hz.out]; rfl, by (repeat' (first | exact Below.refl _ _ | assumption | refine below_new ?_ _ | refine below_draw ?_ | refine below_tail (by assumption) ?_ | refine below_set ?_ (by first | omega | (simp <;> omega)) _))⟩

set_option maxHeartbeats 2000000 in
set_option maxRecDepth 100000 in
theorem rInTime_calls (v : Value) (c : Cal) (h n x : Int) (w : World) (hcal : CalAt w v c) :
    Gives Try.prog 52 #[v, .int .i64 h, .int .i64 n, .int .i64 x] w (.tuple #[.bool (inR c h n x), .int .i64 (askedF c [h, x] [n])]) := by
  obtain ⟨fa, fc, sa, sc, rfl, hf, hs, hfc, hsc, hfl, hsl⟩ := hcal.cells
  have HCal := Lib.hid hcal
  clear hcal hf hs
  unfold Gives
  have HR0 : Hid (inR c h n x = if askedF c [h, x] [n] = 0 then inF c h n x else false) := rfl
  by_cases hz : askedF c [h, x] [n] = 0
  · have Hz := Lib.hid hz
    have hz1 : (askedF c [h, x] [n] == 0) = true := by simpa using hz
    have hz2 : (askedF c [h, x] [n] != 0) = false := by simpa using hz
    obtain ⟨hv, hd1, hd2, hx1, hx2, hn1, hn2⟩ := asked_in hz
    obtain ⟨hv1, hv2⟩ := valid_first hv
    have HV := Lib.hid hv
    clear hv hz
    go_enter Try.func52, Try.ntmps52
    go_wp2_with (first | (go_at_call 62; (with_reducible refine (asked_calls _ _ _ c [h, x] [n] _ (HCal.out.below (by (repeat' (first | exact Below.refl _ _ | assumption | refine below_new ?_ _ | refine below_draw ?_ | refine below_tail (by assumption) ?_ | refine below_set ?_ (by first | omega | (simp <;> omega)) _)))) (ints2b (by simp)) (ints1 (by simp))).use ?_); intro w1 hb1 hz1 hc1 hf1; (try simp at hz1); have hy1 : w.heap.size < w1.heap.size := (by omega); have hx10 := fun o => hc1 (w.heap.size) o (by first | omega | (simp <;> omega)); clear hc1 hf1) | (go_at_call 65; (with_reducible refine (rends_calls _ c h n _ (HCal.out.below (by (repeat' (first | exact Below.refl _ _ | assumption | refine below_new ?_ _ | refine below_draw ?_ | refine below_tail (by assumption) ?_ | refine below_set ?_ (by first | omega | (simp <;> omega)) _)))) HV.out hv1 hv2 hd1 (by omega) hn1 (by omega)).use ?_); intro w4 hb4 hz4 hc4 hf4) | (go_at_call 83; refine (rwithin_calls _ _ _ _).mono ?_; rintro e w' ⟨rfl, rfl⟩))
    go_ret2
    exact ⟨by rw [HR0.out, if_pos Hz.out, Hz.out]; rfl, by (repeat' (first | exact Below.refl _ _ | assumption | refine below_new ?_ _ | refine below_draw ?_ | refine below_tail (by assumption) ?_ | refine below_set ?_ (by first | omega | (simp <;> omega)) _))⟩
  · have Hz := Lib.hid hz
    have hz1 : (askedF c [h, x] [n] == 0) = false := by simpa using hz
    have hz2 : (askedF c [h, x] [n] != 0) = true := by simpa using hz
    clear hz
    go_enter Try.func52, Try.ntmps52
    go_wp2_with (first | (go_at_call 62; (with_reducible refine (asked_calls _ _ _ c [h, x] [n] _ (HCal.out.below (by (repeat' (first | exact Below.refl _ _ | assumption | refine below_new ?_ _ | refine below_draw ?_ | refine below_tail (by assumption) ?_ | refine below_set ?_ (by first | omega | (simp <;> omega)) _)))) (ints2b (by simp)) (ints1 (by simp))).use ?_); intro w1 hb1 hz1 hc1 hf1; (try simp at hz1); have hy1 : w.heap.size < w1.heap.size := (by omega); have hx10 := fun o => hc1 (w.heap.size) o (by first | omega | (simp <;> omega)); clear hc1 hf1))
    go_ret2
    exact ⟨by rw [HR0.out, if_neg Hz.out]; rfl, by (repeat' (first | exact Below.refl _ _ | assumption | refine below_new ?_ _ | refine below_draw ?_ | refine below_tail (by assumption) ?_ | refine below_set ?_ (by first | omega | (simp <;> omega)) _))⟩

end Go.Proofs.Ytnhohnnoffhkhaa
