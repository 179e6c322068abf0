/- What the small functions of the reference of package plot give. Conditions: coordinates are small. -/
import Derived.Test.YthiemglckmociaaPtTouch
namespace Go.Proofs.Ythiemglckmociaa
open Go.RowKit

def betw (lo x hi : Int) : Bool := decide (lo ≤ x) && decide (x ≤ hi)
set_option maxHeartbeats 400000 in
theorem rWithin_calls (n lo hi : Int) (w : World) : Gives Try.prog 69 #[.int .i64 n, .int .i64 lo, .int .i64 hi] w (.bool (betw lo n hi)) := by
  have H : Hid (betw lo n hi = (decide (lo ≤ n) && decide (n ≤ hi))) := rfl
  unfold Gives
  by_cases h : lo ≤ n
  · have h3 : decide (lo ≤ n) = true := by simpa using h
    have H3 := Lib.hid h3
    go_enter Try.func69, Try.ntmps69
    go_wp2
    go_ret
    exact ⟨ret_bool (by rw [H.out, H3.out]; rfl), by (repeat' (first | exact Below.refl _ _ | assumption | refine below_new ?_ _ | refine below_draw ?_ | refine below_tail (by assumption) ?_ | refine below_set ?_ (by first | omega | (simp <;> omega)) _))⟩
  · have h3 : decide (lo ≤ n) = false := by simpa using h
    have H3 := Lib.hid h3
    have h4 : decide (n ≥ lo) = false := h3
    go_enter Try.func69, Try.ntmps69
    go_wp2
    go_ret
    exact ⟨ret_bool (by rw [H.out, H3.out]; rfl), by (repeat' (first | exact Below.refl _ _ | assumption | refine below_new ?_ _ | refine below_draw ?_ | refine below_tail (by assumption) ?_ | refine below_set ?_ (by first | omega | (simp <;> omega)) _))⟩
theorem rWithin_is {n lo hi : Int} {t : Bool} (w : World) (h : betw lo n hi = t) : Gives Try.prog 69 #[.int .i64 n, .int .i64 lo, .int .i64 hi] w (.bool t) := h ▸ rWithin_calls n lo hi w

def sg (n : Int) : Int := if n < 0 then -1 else if 0 < n then 1 else 0
theorem sg_bd (n : Int) : -1 ≤ sg n ∧ sg n ≤ 1 := by unfold sg; split <;> (try split) <;> omega
theorem sg_mul_neg (a b : Int) : (sg a * sg b < 0) ↔ a * b < 0 := by
  unfold sg
  rcases Int.lt_trichotomy a 0 with ha | ha | ha
  · rw [if_pos ha]
    rcases Int.lt_trichotomy b 0 with hb | hb | hb
    · rw [if_pos hb]; have := mnn ha hb; omega
    · rw [hb]; simp
    · rw [if_neg (by omega), if_pos hb]; have := mnp ha hb; omega
  · subst ha; simp
  · rw [if_neg (by omega), if_pos ha]
    rcases Int.lt_trichotomy b 0 with hb | hb | hb
    · rw [if_pos hb]; have := mpn ha hb; omega
    · rw [hb]; simp
    · rw [if_neg (by omega), if_pos hb]; have := mpp ha hb; omega
set_option maxHeartbeats 400000 in
theorem rsign_calls (n : Int) (w : World) : Gives Try.prog 100 #[.int .i64 n] w (.int .i64 (sg n)) := by
  have H : Hid (sg n = if n < 0 then -1 else if 0 < n then 1 else 0) := rfl
  unfold Gives
  by_cases h1 : n < 0
  · go_enter Try.func100, Try.ntmps100
    go_wp2
    go_ret
    exact ⟨ret_int (by rw [H.out, if_pos h1]), by (repeat' (first | exact Below.refl _ _ | assumption | refine below_new ?_ _ | refine below_draw ?_ | refine below_tail (by assumption) ?_ | refine below_set ?_ (by first | omega | (simp <;> omega)) _))⟩
  · by_cases h2 : 0 < n
    · go_enter Try.func100, Try.ntmps100
      go_wp2
      go_ret
      exact ⟨ret_int (by rw [H.out, if_neg (by omega), if_pos h2]), by (repeat' (first | exact Below.refl _ _ | assumption | refine below_new ?_ _ | refine below_draw ?_ | refine below_tail (by assumption) ?_ | refine below_set ?_ (by first | omega | (simp <;> omega)) _))⟩
    · go_enter Try.func100, Try.ntmps100
      go_wp2
      go_ret
      exact ⟨ret_int (by rw [H.out, if_neg (by omega), if_neg (by omega)]), by (repeat' (first | exact Below.refl _ _ | assumption | refine below_new ?_ _ | refine below_draw ?_ | refine below_tail (by assumption) ?_ | refine below_set ?_ (by first | omega | (simp <;> omega)) _))⟩
theorem rsign_is {n t : Int} (w : World) (h : sg n = t) : Gives Try.prog 100 #[.int .i64 n] w (.int .i64 t) := h ▸ rsign_calls n w
theorem sgm_bd {u v : Int} (hu : -1 ≤ u ∧ u ≤ 1) (hv : -1 ≤ v ∧ v ≤ 1) : -1 ≤ u * v ∧ u * v ≤ 1 := by
  rcases (show u = -1 ∨ u = 0 ∨ u = 1 by omega) with rfl | rfl | rfl <;> omega
/-- On a side: by the box. -/
theorem onB_box (a b x : Int × Int) : onB a b x = (turn a b x == 0 && betw (min a.1 b.1) x.1 (max a.1 b.1) && betw (min a.2 b.2) x.2 (max a.2 b.2)) := by
  by_cases h : turn a b x = 0
  · have h1 : (turn a b x == 0) = true := by simpa using h
    unfold onB betw
    rw [h1, Bool.true_and, Bool.true_and, Bool.eq_iff_iff]
    have := on_iff h
    simp only [Bool.and_eq_true, decide_eq_true_eq]
    exact this
  · have h1 : (turn a b x == 0) = false := by simpa using h
    unfold onB
    rw [h1]; rfl

set_option maxHeartbeats 1000000 in
theorem ron_calls (x a b : Int × Int) (w : World) (hx : bdP x) (ha : bdP a) (hb : bdP b) :
    Gives Try.prog 102 #[.agg #[.int .i64 x.1, .int .i64 x.2], .agg #[.int .i64 a.1, .int .i64 a.2], .agg #[.int .i64 b.1, .int .i64 b.2]] w (.bool (onB a b x)) := by
  have h0 := onB_box a b x
  unfold Gives
  obtain ⟨t, ht⟩ : ∃ t, turn a b x = t := ⟨_, rfl⟩
  have HT := Lib.hid ht
  clear ht
  rcases Int.lt_trichotomy a.1 b.1 with k1 | k1 | k1 <;> rcases Int.lt_trichotomy a.2 b.2 with k2 | k2 | k2
  all_goals
    first | rw [Int.min_eq_left (Int.le_of_lt k1), Int.max_eq_right (Int.le_of_lt k1)] at h0 | rw [Int.min_eq_right (Int.le_of_lt k1), Int.max_eq_left (Int.le_of_lt k1)] at h0 | rw [Int.min_eq_left (Int.le_of_eq k1), Int.max_eq_left (Int.le_of_eq k1.symm)] at h0
    first | rw [Int.min_eq_left (Int.le_of_lt k2), Int.max_eq_right (Int.le_of_lt k2)] at h0 | rw [Int.min_eq_right (Int.le_of_lt k2), Int.max_eq_left (Int.le_of_lt k2)] at h0 | rw [Int.min_eq_left (Int.le_of_eq k2), Int.max_eq_left (Int.le_of_eq k2.symm)] at h0
    have H := Lib.hid h0
    clear h0
    have k1a : a.1 ≤ b.1 ∨ b.1 ≤ a.1 := by omega
    have k3 : a.1 < b.1 ∨ (a.1 ≤ b.1 ∧ b.1 ≤ a.1) ∨ b.1 < a.1 := by omega
    have k4 : a.2 < b.2 ∨ (a.2 ≤ b.2 ∧ b.2 ≤ a.2) ∨ b.2 < a.2 := by omega
    clear k1a
    (try (replace k1 := And.intro (Int.le_of_eq k1) (Int.le_of_eq k1.symm); obtain ⟨k5, k6⟩ := k1))
    (try (replace k2 := And.intro (Int.le_of_eq k2) (Int.le_of_eq k2.symm); obtain ⟨k7, k8⟩ := k2))
    clear k3 k4
    cases h1 : (t == 0)
    case false =>
      have H1 := Lib.hid h1
      go_enter Try.func102, Try.ntmps102
      go_wp2_with (first | (go_at_call 89; (with_reducible refine (rturn_is _ ha hb hx HT.out).use ?_); intro w1 hb1 hz1 hc1 hf1; (try simp at hz1); have hy1 : w.heap.size + 2 < w1.heap.size := (by omega); have hx10 := fun o => hc1 (w.heap.size) o (by first | omega | (simp <;> omega)); have hx11 := fun o => hc1 (w.heap.size + 1) o (by first | omega | (simp <;> omega)); have hx12 := fun o => hc1 (w.heap.size + 2) o (by first | omega | (simp <;> omega)); clear hc1 hf1))
      go_ret
      exact ⟨ret_bool (by rw [H.out, HT.out, H1.out]; rfl), by (repeat' (first | exact Below.refl _ _ | assumption | refine below_new ?_ _ | refine below_draw ?_ | refine below_tail (by assumption) ?_ | refine below_set ?_ (by first | omega | (simp <;> omega)) _))⟩
    case true =>
      have H1 := Lib.hid h1
      clear h1
      have h3 := H.out
      rw [HT.out, H1.out, Bool.true_and] at h3
      clear H
      generalize hb1 : betw _ x.1 _ = b1 at h3
      have HB1 := Lib.hid hb1
      clear hb1
      generalize hb2 : betw _ x.2 _ = b2 at h3
      have HB2 := Lib.hid hb2
      have H3 := Lib.hid h3
      have h1 : (t == 0) = true := H1.out
      clear hb2 h3
      cases b1
      case false =>
        go_enter Try.func102, Try.ntmps102
        go_wp2_with (first | (go_at_call 89; (with_reducible refine (rturn_is _ ha hb hx HT.out).use ?_); intro w1 hb1 hz1 hc1 hf1; (try simp at hz1); have hy1 : w.heap.size + 2 < w1.heap.size := (by omega); have hx10 := fun o => hc1 (w.heap.size) o (by first | omega | (simp <;> omega)); have hx11 := fun o => hc1 (w.heap.size + 1) o (by first | omega | (simp <;> omega)); have hx12 := fun o => hc1 (w.heap.size + 2) o (by first | omega | (simp <;> omega)); clear hc1 hf1) | (go_at_call 69; (with_reducible refine (rWithin_is _ HB1.out).use ?_); intro w2 hb2 hz2 hc2 hf2; (try simp at hz2); have hy2 : w.heap.size + 2 < w2.heap.size := (by omega); have hx20 := fun o => hc2 (w.heap.size) o (by first | omega | (simp <;> omega)); have hx21 := fun o => hc2 (w.heap.size + 1) o (by first | omega | (simp <;> omega)); have hx22 := fun o => hc2 (w.heap.size + 2) o (by first | omega | (simp <;> omega)); clear hc2 hf2))
        go_ret
        exact ⟨ret_bool (by rw [H3.out]; rfl), by (repeat' (first | exact Below.refl _ _ | assumption | refine below_new ?_ _ | refine below_draw ?_ | refine below_tail (by assumption) ?_ | refine below_set ?_ (by first | omega | (simp <;> omega)) _))⟩
      case true =>
        go_enter Try.func102, Try.ntmps102
        go_wp2_with (first | (go_at_call 89; (with_reducible refine (rturn_is _ ha hb hx HT.out).use ?_); intro w1 hb1 hz1 hc1 hf1; (try simp at hz1); have hy1 : w.heap.size + 2 < w1.heap.size := (by omega); have hx10 := fun o => hc1 (w.heap.size) o (by first | omega | (simp <;> omega)); have hx11 := fun o => hc1 (w.heap.size + 1) o (by first | omega | (simp <;> omega)); have hx12 := fun o => hc1 (w.heap.size + 2) o (by first | omega | (simp <;> omega)); clear hc1 hf1) | (go_at_call 69; (with_reducible refine (rWithin_is _ HB1.out).use ?_); intro w2 hb2 hz2 hc2 hf2; (try simp at hz2); have hy2 : w.heap.size + 2 < w2.heap.size := (by omega); have hx20 := fun o => hc2 (w.heap.size) o (by first | omega | (simp <;> omega)); have hx21 := fun o => hc2 (w.heap.size + 1) o (by first | omega | (simp <;> omega)); have hx22 := fun o => hc2 (w.heap.size + 2) o (by first | omega | (simp <;> omega)); clear hc2 hf2) | (go_at_call 69; (with_reducible refine (rWithin_is _ HB2.out).use ?_); intro w3 hb3 hz3 hc3 hf3; (try simp at hz3); have hy3 : w.heap.size + 2 < w3.heap.size := (by omega); have hx30 := fun o => hc3 (w.heap.size) o (by first | omega | (simp <;> omega)); have hx31 := fun o => hc3 (w.heap.size + 1) o (by first | omega | (simp <;> omega)); have hx32 := fun o => hc3 (w.heap.size + 2) o (by first | omega | (simp <;> omega)); clear hc3 hf3))
        go_ret
        exact ⟨ret_bool (by rw [H3.out]; rfl), by (repeat' (first | exact Below.refl _ _ | assumption | refine below_new ?_ _ | refine below_draw ?_ | refine below_tail (by assumption) ?_ | refine below_set ?_ (by first | omega | (simp <;> omega)) _))⟩

theorem ron_is {x a b : Int × Int} {t : Bool} (w : World) (hx : bdP x) (ha : bdP a) (hb : bdP b) (h : onB a b x = t) :
    Gives Try.prog 102 #[.agg #[.int .i64 x.1, .int .i64 x.2], .agg #[.int .i64 a.1, .int .i64 a.2], .agg #[.int .i64 b.1, .int .i64 b.2]] w (.bool t) := h ▸ ron_calls x a b w hx ha hb

/-- Do the ways from a to b and from a to c go in the same direction? -/
def backB (a b c : Int × Int) : Bool := turn a b c == 0 && decide (0 < dot a b c)
set_option maxHeartbeats 1000000 in
theorem rback_calls (a b c : Int × Int) (w : World) (ha : bdP a) (hb : bdP b) (hc : bdP c) :
    Gives Try.prog 71 #[.agg #[.int .i64 a.1, .int .i64 a.2], .agg #[.int .i64 b.1, .int .i64 b.2], .agg #[.int .i64 c.1, .int .i64 c.2]] w (.bool (backB a b c)) := by
  have H : Hid (backB a b c = (turn a b c == 0 && decide (0 < (b.1 - a.1) * (c.1 - a.1) + (b.2 - a.2) * (c.2 - a.2)))) := rfl
  unfold Gives
  obtain ⟨⟨a1, a2⟩, a3, a4⟩ := id ha
  obtain ⟨⟨b1, b2⟩, b3, b4⟩ := id hb
  obtain ⟨⟨c1, c2⟩, c3, c4⟩ := id hc
  obtain ⟨p1, p2⟩ := prod_bd (u := b.1 - a.1) (v := c.1 - a.1) (by omega) (by omega)
  obtain ⟨q1, q2⟩ := prod_bd (u := b.2 - a.2) (v := c.2 - a.2) (by omega) (by omega)
  obtain ⟨t, ht⟩ : ∃ t, turn a b c = t := ⟨_, rfl⟩
  have HT := Lib.hid ht
  clear ht
  cases h1 : (t == 0)
  case false =>
    have H1 := Lib.hid h1
    go_enter Try.func71, Try.ntmps71
    go_wp2_with (first | (go_at_call 89; (with_reducible refine (rturn_is _ ha hb hc HT.out).use ?_); intro w1 hb1 hz1 hc1 hf1; (try simp at hz1); have hy1 : w.heap.size + 2 < w1.heap.size := (by omega); have hx10 := fun o => hc1 (w.heap.size) o (by first | omega | (simp <;> omega)); have hx11 := fun o => hc1 (w.heap.size + 1) o (by first | omega | (simp <;> omega)); have hx12 := fun o => hc1 (w.heap.size + 2) o (by first | omega | (simp <;> omega)); clear hc1 hf1))
    go_ret
    exact ⟨ret_bool (by rw [H.out, HT.out, H1.out]; rfl), by (repeat' (first | exact Below.refl _ _ | assumption | refine below_new ?_ _ | refine below_draw ?_ | refine below_tail (by assumption) ?_ | refine below_set ?_ (by first | omega | (simp <;> omega)) _))⟩
  case true =>
    have H1 := Lib.hid h1
    go_enter Try.func71, Try.ntmps71
    go_wp2_with (first | (go_at_call 89; (with_reducible refine (rturn_is _ ha hb hc HT.out).use ?_); intro w1 hb1 hz1 hc1 hf1; (try simp at hz1); have hy1 : w.heap.size + 2 < w1.heap.size := (by omega); have hx10 := fun o => hc1 (w.heap.size) o (by first | omega | (simp <;> omega)); have hx11 := fun o => hc1 (w.heap.size + 1) o (by first | omega | (simp <;> omega)); have hx12 := fun o => hc1 (w.heap.size + 2) o (by first | omega | (simp <;> omega)); clear hc1 hf1))
    go_ret
    exact ⟨ret_bool (by rw [H.out, HT.out, H1.out]; rfl), by (repeat' (first | exact Below.refl _ _ | assumption | refine below_new ?_ _ | refine below_draw ?_ | refine below_tail (by assumption) ?_ | refine below_set ?_ (by first | omega | (simp <;> omega)) _))⟩

theorem rback_is {a b c : Int × Int} {t : Bool} (w : World) (ha : bdP a) (hb : bdP b) (hc : bdP c) (h : backB a b c = t) :
    Gives Try.prog 71 #[.agg #[.int .i64 a.1, .int .i64 a.2], .agg #[.int .i64 b.1, .int .i64 b.2], .agg #[.int .i64 c.1, .int .i64 c.2]] w (.bool t) := h ▸ rback_calls a b c w ha hb hc
theorem touch_is {a b c d : Int × Int} {t : Bool} (w : World) (ha : bdP a) (hb : bdP b) (hc : bdP c) (hd : bdP d) (h : touchB a b c d = t) :
    Gives Try.prog 68 #[.agg #[.int .i64 a.1, .int .i64 a.2, .int .i64 b.1, .int .i64 b.2], .agg #[.int .i64 c.1, .int .i64 c.2, .int .i64 d.1, .int .i64 d.2]] w (.bool t) := h ▸ touch_calls a b c d w ha hb hc hd
theorem ahead_is {a b c : Int × Int} {t : Int} (w : World) (ha : bdP a) (hb : bdP b) (hc : bdP c) (h : dot a b c = t) :
    Gives Try.prog 67 #[.agg #[.int .i64 a.1, .int .i64 a.2], .agg #[.int .i64 b.1, .int .i64 b.2], .agg #[.int .i64 c.1, .int .i64 c.2]] w (.int .i64 t) := h ▸ ahead_calls a b c w ha hb hc

set_option maxHeartbeats 1000000 in
theorem rmeet_calls (a b c d : Int × Int) (w : World) (ha : bdP a) (hb : bdP b) (hc : bdP c) (hd : bdP d) :
    Gives Try.prog 72 #[.agg #[.int .i64 a.1, .int .i64 a.2], .agg #[.int .i64 b.1, .int .i64 b.2], .agg #[.int .i64 c.1, .int .i64 c.2], .agg #[.int .i64 d.1, .int .i64 d.2]] w (.bool (touchB a b c d)) := by
  have H : Hid (touchB a b c d = (onB c d a || onB c d b || onB a b c || onB a b d || (decide (sg (turn a b c) * sg (turn a b d) < 0) && decide (sg (turn c d a) * sg (turn c d b) < 0)))) := by
    unfold Hid touchB
    simp only [sg_mul_neg]
    cases onB a b c <;> cases onB a b d <;> cases onB c d a <;> cases onB c d b <;> rfl
  unfold Gives

  cases h0 : onB c d a
  case true =>
    have H0 := Lib.hid h0
    clear h0
    go_enter Try.func72, Try.ntmps72
    go_wp2_with (first | (go_at_call 102; (with_reducible refine (ron_is _ ha hc hd H0.out).use ?_); intro w1 hb1 hz1 hc1 hf1; (try simp at hz1); have hy1 : w.heap.size + 3 < w1.heap.size := (by omega); have hx10 := fun o => hc1 (w.heap.size) o (by first | omega | (simp <;> omega)); have hx11 := fun o => hc1 (w.heap.size + 1) o (by first | omega | (simp <;> omega)); have hx12 := fun o => hc1 (w.heap.size + 2) o (by first | omega | (simp <;> omega)); have hx13 := fun o => hc1 (w.heap.size + 3) o (by first | omega | (simp <;> omega)); clear hc1 hf1))
    go_ret
    exact ⟨ret_bool (by rw [H.out, H0.out]; rfl), by (repeat' (first | exact Below.refl _ _ | assumption | refine below_new ?_ _ | refine below_draw ?_ | refine below_tail (by assumption) ?_ | refine below_set ?_ (by first | omega | (simp <;> omega)) _))⟩
  case false =>
    have H0 := Lib.hid h0
    clear h0
    cases h1 : onB c d b
    case true =>
      have H1 := Lib.hid h1
      clear h1
      go_enter Try.func72, Try.ntmps72
      go_wp2_with (first | (go_at_call 102; (with_reducible refine (ron_is _ ha hc hd H0.out).use ?_); intro w1 hb1 hz1 hc1 hf1; (try simp at hz1); have hy1 : w.heap.size + 3 < w1.heap.size := (by omega); have hx10 := fun o => hc1 (w.heap.size) o (by first | omega | (simp <;> omega)); have hx11 := fun o => hc1 (w.heap.size + 1) o (by first | omega | (simp <;> omega)); have hx12 := fun o => hc1 (w.heap.size + 2) o (by first | omega | (simp <;> omega)); have hx13 := fun o => hc1 (w.heap.size + 3) o (by first | omega | (simp <;> omega)); clear hc1 hf1) | (go_at_call 102; (with_reducible refine (ron_is _ hb hc hd H1.out).use ?_); intro w2 hb2 hz2 hc2 hf2; (try simp at hz2); have hy2 : w.heap.size + 3 < w2.heap.size := (by omega); have hx20 := fun o => hc2 (w.heap.size) o (by first | omega | (simp <;> omega)); have hx21 := fun o => hc2 (w.heap.size + 1) o (by first | omega | (simp <;> omega)); have hx22 := fun o => hc2 (w.heap.size + 2) o (by first | omega | (simp <;> omega)); have hx23 := fun o => hc2 (w.heap.size + 3) o (by first | omega | (simp <;> omega)); clear hc2 hf2))
      go_ret
      exact ⟨ret_bool (by rw [H.out, H0.out, H1.out]; rfl), by (repeat' (first | exact Below.refl _ _ | assumption | refine below_new ?_ _ | refine below_draw ?_ | refine below_tail (by assumption) ?_ | refine below_set ?_ (by first | omega | (simp <;> omega)) _))⟩
    case false =>
      have H1 := Lib.hid h1
      clear h1
      cases h2 : onB a b c
      case true =>
        have H2 := Lib.hid h2
        clear h2
        go_enter Try.func72, Try.ntmps72
        go_wp2_with (first | (go_at_call 102; (with_reducible refine (ron_is _ ha hc hd H0.out).use ?_); intro w1 hb1 hz1 hc1 hf1; (try simp at hz1); have hy1 : w.heap.size + 3 < w1.heap.size := (by omega); have hx10 := fun o => hc1 (w.heap.size) o (by first | omega | (simp <;> omega)); have hx11 := fun o => hc1 (w.heap.size + 1) o (by first | omega | (simp <;> omega)); have hx12 := fun o => hc1 (w.heap.size + 2) o (by first | omega | (simp <;> omega)); have hx13 := fun o => hc1 (w.heap.size + 3) o (by first | omega | (simp <;> omega)); clear hc1 hf1) | (go_at_call 102; (with_reducible refine (ron_is _ hb hc hd H1.out).use ?_); intro w2 hb2 hz2 hc2 hf2; (try simp at hz2); have hy2 : w.heap.size + 3 < w2.heap.size := (by omega); have hx20 := fun o => hc2 (w.heap.size) o (by first | omega | (simp <;> omega)); have hx21 := fun o => hc2 (w.heap.size + 1) o (by first | omega | (simp <;> omega)); have hx22 := fun o => hc2 (w.heap.size + 2) o (by first | omega | (simp <;> omega)); have hx23 := fun o => hc2 (w.heap.size + 3) o (by first | omega | (simp <;> omega)); clear hc2 hf2) | (go_at_call 102; (with_reducible refine (ron_is _ hc ha hb H2.out).use ?_); intro w3 hb3 hz3 hc3 hf3; (try simp at hz3); have hy3 : w.heap.size + 3 < w3.heap.size := (by omega); have hx30 := fun o => hc3 (w.heap.size) o (by first | omega | (simp <;> omega)); have hx31 := fun o => hc3 (w.heap.size + 1) o (by first | omega | (simp <;> omega)); have hx32 := fun o => hc3 (w.heap.size + 2) o (by first | omega | (simp <;> omega)); have hx33 := fun o => hc3 (w.heap.size + 3) o (by first | omega | (simp <;> omega)); clear hc3 hf3))
        go_ret
        exact ⟨ret_bool (by rw [H.out, H0.out, H1.out, H2.out]; rfl), by (repeat' (first | exact Below.refl _ _ | assumption | refine below_new ?_ _ | refine below_draw ?_ | refine below_tail (by assumption) ?_ | refine below_set ?_ (by first | omega | (simp <;> omega)) _))⟩
      case false =>
        have H2 := Lib.hid h2
        clear h2
        cases h3 : onB a b d
        case true =>
          have H3 := Lib.hid h3
          clear h3
          go_enter Try.func72, Try.ntmps72
          go_wp2_with (first | (go_at_call 102; (with_reducible refine (ron_is _ ha hc hd H0.out).use ?_); intro w1 hb1 hz1 hc1 hf1; (try simp at hz1); have hy1 : w.heap.size + 3 < w1.heap.size := (by omega); have hx10 := fun o => hc1 (w.heap.size) o (by first | omega | (simp <;> omega)); have hx11 := fun o => hc1 (w.heap.size + 1) o (by first | omega | (simp <;> omega)); have hx12 := fun o => hc1 (w.heap.size + 2) o (by first | omega | (simp <;> omega)); have hx13 := fun o => hc1 (w.heap.size + 3) o (by first | omega | (simp <;> omega)); clear hc1 hf1) | (go_at_call 102; (with_reducible refine (ron_is _ hb hc hd H1.out).use ?_); intro w2 hb2 hz2 hc2 hf2; (try simp at hz2); have hy2 : w.heap.size + 3 < w2.heap.size := (by omega); have hx20 := fun o => hc2 (w.heap.size) o (by first | omega | (simp <;> omega)); have hx21 := fun o => hc2 (w.heap.size + 1) o (by first | omega | (simp <;> omega)); have hx22 := fun o => hc2 (w.heap.size + 2) o (by first | omega | (simp <;> omega)); have hx23 := fun o => hc2 (w.heap.size + 3) o (by first | omega | (simp <;> omega)); clear hc2 hf2) | (go_at_call 102; (with_reducible refine (ron_is _ hc ha hb H2.out).use ?_); intro w3 hb3 hz3 hc3 hf3; (try simp at hz3); have hy3 : w.heap.size + 3 < w3.heap.size := (by omega); have hx30 := fun o => hc3 (w.heap.size) o (by first | omega | (simp <;> omega)); have hx31 := fun o => hc3 (w.heap.size + 1) o (by first | omega | (simp <;> omega)); have hx32 := fun o => hc3 (w.heap.size + 2) o (by first | omega | (simp <;> omega)); have hx33 := fun o => hc3 (w.heap.size + 3) o (by first | omega | (simp <;> omega)); clear hc3 hf3) | (go_at_call 102; (with_reducible refine (ron_is _ hd ha hb H3.out).use ?_); intro w4 hb4 hz4 hc4 hf4; (try simp at hz4); have hy4 : w.heap.size + 3 < w4.heap.size := (by omega); have hx40 := fun o => hc4 (w.heap.size) o (by first | omega | (simp <;> omega)); have hx41 := fun o => hc4 (w.heap.size + 1) o (by first | omega | (simp <;> omega)); have hx42 := fun o => hc4 (w.heap.size + 2) o (by first | omega | (simp <;> omega)); have hx43 := fun o => hc4 (w.heap.size + 3) o (by first | omega | (simp <;> omega)); clear hc4 hf4))
          go_ret
          exact ⟨ret_bool (by rw [H.out, H0.out, H1.out, H2.out, H3.out]; rfl), by (repeat' (first | exact Below.refl _ _ | assumption | refine below_new ?_ _ | refine below_draw ?_ | refine below_tail (by assumption) ?_ | refine below_set ?_ (by first | omega | (simp <;> omega)) _))⟩
        case false =>
          have H3 := Lib.hid h3
          clear h3
          obtain ⟨t0, ht0⟩ : ∃ t, turn a b c = t := ⟨_, rfl⟩
          obtain ⟨s0, hs0⟩ : ∃ s, sg t0 = s := ⟨_, rfl⟩
          have bd0 := sg_bd t0
          rw [hs0] at bd0
          obtain ⟨t1, ht1⟩ : ∃ t, turn a b d = t := ⟨_, rfl⟩
          obtain ⟨s1, hs1⟩ : ∃ s, sg t1 = s := ⟨_, rfl⟩
          have bd1 := sg_bd t1
          rw [hs1] at bd1
          obtain ⟨t2, ht2⟩ : ∃ t, turn c d a = t := ⟨_, rfl⟩
          obtain ⟨s2, hs2⟩ : ∃ s, sg t2 = s := ⟨_, rfl⟩
          have bd2 := sg_bd t2
          rw [hs2] at bd2
          obtain ⟨t3, ht3⟩ : ∃ t, turn c d b = t := ⟨_, rfl⟩
          obtain ⟨s3, hs3⟩ : ∃ s, sg t3 = s := ⟨_, rfl⟩
          have bd3 := sg_bd t3
          rw [hs3] at bd3
          have m1 : -1 ≤ s0 * s1 ∧ s0 * s1 ≤ 1 := sgm_bd bd0 bd1
          have m2 : -1 ≤ s2 * s3 ∧ s2 * s3 ≤ 1 := sgm_bd bd2 bd3
          have HT0 := Lib.hid ht0
          have HS0 := Lib.hid hs0
          clear ht0 hs0 bd0
          have HT1 := Lib.hid ht1
          have HS1 := Lib.hid hs1
          clear ht1 hs1 bd1
          have HT2 := Lib.hid ht2
          have HS2 := Lib.hid hs2
          clear ht2 hs2 bd2
          have HT3 := Lib.hid ht3
          have HS3 := Lib.hid hs3
          clear ht3 hs3 bd3
          have W1 : IntKind.i64.wrap (s0 * s1) = s0 * s1 := IntWalk.i64_in _ (by omega)
          have W2 : IntKind.i64.wrap (s2 * s3) = s2 * s3 := IntWalk.i64_in _ (by omega)
          have HM1 := Lib.hid m1
          have HM2 := Lib.hid m2
          clear m1 m2
          cases hs : decide (s0 * s1 < 0)
          all_goals
            have HS := Lib.hid hs
            go_enter Try.func72, Try.ntmps72
            go_wp2_with (first | (go_at_call 102; (with_reducible refine (ron_is _ ha hc hd H0.out).use ?_); intro w1 hb1 hz1 hc1 hf1; (try simp at hz1); have hy1 : w.heap.size + 3 < w1.heap.size := (by omega); have hx10 := fun o => hc1 (w.heap.size) o (by first | omega | (simp <;> omega)); have hx11 := fun o => hc1 (w.heap.size + 1) o (by first | omega | (simp <;> omega)); have hx12 := fun o => hc1 (w.heap.size + 2) o (by first | omega | (simp <;> omega)); have hx13 := fun o => hc1 (w.heap.size + 3) o (by first | omega | (simp <;> omega)); clear hc1 hf1) | (go_at_call 102; (with_reducible refine (ron_is _ hb hc hd H1.out).use ?_); intro w2 hb2 hz2 hc2 hf2; (try simp at hz2); have hy2 : w.heap.size + 3 < w2.heap.size := (by omega); have hx20 := fun o => hc2 (w.heap.size) o (by first | omega | (simp <;> omega)); have hx21 := fun o => hc2 (w.heap.size + 1) o (by first | omega | (simp <;> omega)); have hx22 := fun o => hc2 (w.heap.size + 2) o (by first | omega | (simp <;> omega)); have hx23 := fun o => hc2 (w.heap.size + 3) o (by first | omega | (simp <;> omega)); clear hc2 hf2) | (go_at_call 102; (with_reducible refine (ron_is _ hc ha hb H2.out).use ?_); intro w3 hb3 hz3 hc3 hf3; (try simp at hz3); have hy3 : w.heap.size + 3 < w3.heap.size := (by omega); have hx30 := fun o => hc3 (w.heap.size) o (by first | omega | (simp <;> omega)); have hx31 := fun o => hc3 (w.heap.size + 1) o (by first | omega | (simp <;> omega)); have hx32 := fun o => hc3 (w.heap.size + 2) o (by first | omega | (simp <;> omega)); have hx33 := fun o => hc3 (w.heap.size + 3) o (by first | omega | (simp <;> omega)); clear hc3 hf3) | (go_at_call 102; (with_reducible refine (ron_is _ hd ha hb H3.out).use ?_); intro w4 hb4 hz4 hc4 hf4; (try simp at hz4); have hy4 : w.heap.size + 3 < w4.heap.size := (by omega); have hx40 := fun o => hc4 (w.heap.size) o (by first | omega | (simp <;> omega)); have hx41 := fun o => hc4 (w.heap.size + 1) o (by first | omega | (simp <;> omega)); have hx42 := fun o => hc4 (w.heap.size + 2) o (by first | omega | (simp <;> omega)); have hx43 := fun o => hc4 (w.heap.size + 3) o (by first | omega | (simp <;> omega)); clear hc4 hf4))
            have q01 := fun dr os => cell_regrown (show w4.cell? { block := w.heap.size, off := 0 } = some (.int .i64 a.1) by simp [go_sem, hx40, hx30, hx20, hx10]) dr os
            have q02 := fun dr os => cell_regrown (show w4.cell? { block := w.heap.size, off := 1 } = some (.int .i64 a.2) by simp [go_sem, hx40, hx30, hx20, hx10]) dr os
            have q11 := fun dr os => cell_regrown (show w4.cell? { block := w.heap.size + 1, off := 0 } = some (.int .i64 b.1) by simp [go_sem, hx41, hx31, hx21, hx11]) dr os
            have q12 := fun dr os => cell_regrown (show w4.cell? { block := w.heap.size + 1, off := 1 } = some (.int .i64 b.2) by simp [go_sem, hx41, hx31, hx21, hx11]) dr os
            have q21 := fun dr os => cell_regrown (show w4.cell? { block := w.heap.size + 2, off := 0 } = some (.int .i64 c.1) by simp [go_sem, hx42, hx32, hx22, hx12]) dr os
            have q22 := fun dr os => cell_regrown (show w4.cell? { block := w.heap.size + 2, off := 1 } = some (.int .i64 c.2) by simp [go_sem, hx42, hx32, hx22, hx12]) dr os
            have q31 := fun dr os => cell_regrown (show w4.cell? { block := w.heap.size + 3, off := 0 } = some (.int .i64 d.1) by simp [go_sem, hx43, hx33, hx23, hx13]) dr os
            have q32 := fun dr os => cell_regrown (show w4.cell? { block := w.heap.size + 3, off := 1 } = some (.int .i64 d.2) by simp [go_sem, hx43, hx33, hx23, hx13]) dr os
            clear hx10 hx11 hx12 hx13 hx20 hx21 hx22 hx23 hx30 hx31 hx32 hx33 hx40 hx41 hx42 hx43
            refine region_q mixed (by kernel_rfl) ?_
            repeat (go_big_quiet_step (first | (go_at_call 89; exact Calls.regrown_of (rturn_is _ ha hb hc HT0.out)) | (go_at_call 89; exact Calls.regrown_of (rturn_is _ ha hb hd HT1.out)) | (go_at_call 89; exact Calls.regrown_of (rturn_is _ hc hd ha HT2.out)) | (go_at_call 89; exact Calls.regrown_of (rturn_is _ hc hd hb HT3.out)) | (go_at_call 100; exact Calls.regrown_of (rsign_is _ HS0.out)) | (go_at_call 100; exact Calls.regrown_of (rsign_is _ HS1.out)) | (go_at_call 100; exact Calls.regrown_of (rsign_is _ HS2.out)) | (go_at_call 100; exact Calls.regrown_of (rsign_is _ HS3.out))))
            refine wpQuiet_nil ?_
            intro wq hbq
            go_wp2
            go_ret
            exact ⟨ret_bool (by rw [H.out, H0.out, H1.out, H2.out, H3.out, HT0.out, HT1.out, HT2.out, HT3.out, HS0.out, HS1.out, HS2.out, HS3.out, HS.out]; rfl), by (repeat' (first | exact Below.refl _ _ | assumption | refine below_new ?_ _ | refine below_draw ?_ | refine below_tail (by assumption) ?_ | refine below_set ?_ (by first | omega | (simp <;> omega)) _))⟩

theorem rmeet_is {a b c d : Int × Int} {t : Bool} (w : World) (ha : bdP a) (hb : bdP b) (hc : bdP c) (hd : bdP d) (h : touchB a b c d = t) :
    Gives Try.prog 72 #[.agg #[.int .i64 a.1, .int .i64 a.2], .agg #[.int .i64 b.1, .int .i64 b.2], .agg #[.int .i64 c.1, .int .i64 c.2], .agg #[.int .i64 d.1, .int .i64 d.2]] w (.bool t) := h ▸ rmeet_calls a b c d w ha hb hc hd

end Go.Proofs.Ythiemglckmociaa
