/- What the exported functions of package term, and of its reference, give: a value and an error. Conditions: a calendar lies in memory as said. -/
import Derived.Test.YtnhohnnoffhkhaaTermAsk
import Derived.Test.YtnhohnnoffhkhaaTermEnds
namespace Go.Proofs.Ytnhohnnoffhkhaa
open Go.RowKit

/-- What a valid question says of its numbers. -/
theorem valid_first {c : Cal} (h : validF c = 0) : 0 ≤ c.first ∧ c.first ≤ 6 := by
  unfold validF at h
  by_cases hw : withinB c.first 0 6 = true
  · exact withinB_iff.1 hw
  · simp [hw] at h
theorem daysF_all {l : List Int} (h : daysF l = 0) : ∀ d ∈ l, 0 ≤ d ∧ d ≤ 10000 := by
  intro d hd
  unfold daysF at h
  cases ha : l.any (fun d => !(dayB d))
  · rw [List.any_eq_false] at ha
    exact withinB_iff.1 (by simpa [dayB] using ha d hd)
  · rw [ha] at h; exact absurd h (by decide)
theorem termsF_all {l : List Int} (h : termsF l = 0) : ∀ d ∈ l, 0 ≤ d ∧ d ≤ 400 := by
  intro d hd
  unfold termsF at h
  cases ha : l.any (fun d => !(termB d))
  · rw [List.any_eq_false] at ha
    exact withinB_iff.1 (by simpa [termB] using ha d hd)
  · rw [ha] at h; exact absurd h (by decide)
theorem asked_all {c : Cal} {ds ts : List Int} (h : askedF c ds ts = 0) : validF c = 0 ∧ daysF ds = 0 ∧ termsF ts = 0 := by
  unfold askedF at h
  by_cases hv : validF c = 0
  · rw [if_pos hv] at h
    by_cases hd : daysF ds = 0
    · rw [if_pos hd] at h; exact ⟨hv, hd, h⟩
    · rw [if_neg hd] at h; exact absurd h hd
  · rw [if_neg hv] at h; exact absurd h hv
theorem asked_of {c : Cal} {ds ts : List Int} (h1 : validF c = 0) (h2 : ∀ d ∈ ds, 0 ≤ d ∧ d ≤ 10000) (h3 : ∀ d ∈ ts, 0 ≤ d ∧ d ≤ 400) : askedF c ds ts = 0 := by
  have hd : daysF ds = 0 := by
    unfold daysF
    rw [if_neg]
    rw [List.any_eq_true]
    rintro ⟨x, hx, hb⟩
    have := withinB_iff.2 (h2 x hx)
    simp [dayB, this] at hb
  have ht : termsF ts = 0 := by
    unfold termsF
    rw [if_neg]
    rw [List.any_eq_true]
    rintro ⟨x, hx, hb⟩
    have := withinB_iff.2 (h3 x hx)
    simp [termB, this] at hb
  unfold askedF
  rw [if_pos h1, if_pos hd, ht]
theorem asked_day {c : Cal} {d : Int} (h : askedF c [d] [] = 0) : validF c = 0 ∧ 0 ≤ d ∧ d ≤ 10000 := by
  obtain ⟨h1, h2, _⟩ := asked_all h
  exact ⟨h1, daysF_all h2 d (by simp)⟩
theorem asked_days {c : Cal} {a b : Int} (h : askedF c [a, b] [] = 0) : validF c = 0 ∧ 0 ≤ a ∧ a ≤ 10000 ∧ 0 ≤ b ∧ b ≤ 10000 := by
  obtain ⟨h1, h2, _⟩ := asked_all h
  have ha := daysF_all h2 a (by simp)
  have hb := daysF_all h2 b (by simp)
  exact ⟨h1, ha.1, ha.2, hb.1, hb.2⟩
theorem asked_term {c : Cal} {d n : Int} (h : askedF c [d] [n] = 0) : validF c = 0 ∧ 0 ≤ d ∧ d ≤ 10000 ∧ 0 ≤ n ∧ n ≤ 400 := by
  obtain ⟨h1, h2, h3⟩ := asked_all h
  have ha := daysF_all h2 d (by simp)
  have hb := termsF_all h3 n (by simp)
  exact ⟨h1, ha.1, ha.2, hb.1, hb.2⟩


set_option maxHeartbeats 1000000 in
theorem Week_calls (v : Value) (c : Cal) (d : Int) (w : World) (h : CalAt w v c) :
    Gives Try.prog 34 #[v, .int .i64 d] w (.tuple #[.int .i64 (weekR c d), .int .i64 (askedF c [d] [])]) := by
  obtain ⟨fa, fc, sa, sc, rfl, hf, hs, hfc, hsc, hfl, hsl⟩ := h.cells
  have HCal := Lib.hid h
  clear h hf hs
  unfold Gives
  have HR0 : Hid (weekR c d = if askedF c [d] [] = 0 then weekF c d else 0) := rfl
  by_cases hz : askedF c [d] [] = 0
  · have Hz := Lib.hid hz
    have hz1 : (askedF c [d] [] == 0) = true := by simpa using hz
    have hz2 : (askedF c [d] [] != 0) = false := by simpa using hz
    obtain ⟨hv, hd1, hd2⟩ := asked_day hz
    obtain ⟨hv1, hv2⟩ := valid_first hv
    have HV := Lib.hid hv
    clear hv
    clear hz
    go_enter Try.func34, Try.ntmps34
    go_wp2_with (first | (go_at_call 40; refine (validate_calls _ c _ (HCal.out.below (by (repeat' (first | exact Below.refl _ _ | assumption | refine below_new ?_ _ | refine below_draw ?_ | refine below_tail (by assumption) ?_ | refine below_set ?_ (by first | omega | (simp <;> omega)) _))))).use ?_; intro w1 hb1 hz1 hc1 hf1; (try simp at hz1); have hy1 : w.heap.size < w1.heap.size := (by omega); have hx1 := fun o => hc1 w.heap.size o (by first | omega | (simp <;> omega))) | (go_at_call 73; refine (areDays_calls _ [d] _ (ints1 (by simp))).use ?_; intro w2 hb2 hz2 hc2 hf2; (try simp at hz2); have hy2 : w.heap.size < w2.heap.size := (by omega); have hx2 := fun o => hc2 w.heap.size o (by first | omega | (simp <;> omega))) | (go_at_call 72; refine (or_is _ [validF c, daysF [d]] (askedF c [d] []) _ (ints2 (by simp)) (by rw [orFrom_2, askedF_days])).mono ?_; rintro e w' ⟨rfl, rfl⟩) | (go_at_call 81; refine (week_calls _ c d _ (HCal.out.below (by (repeat' (first | exact Below.refl _ _ | assumption | refine below_new ?_ _ | refine below_draw ?_ | refine below_tail (by assumption) ?_ | refine below_set ?_ (by first | omega | (simp <;> omega)) _)))) hv1 hv2 hd1 (by omega)).use ?_; intro w3 hb3 hz3 hc3 hf3))
    go_ret2
    exact ⟨by rw [HR0.out, if_pos Hz.out, Hz.out]; rfl, by (repeat' (first | exact Below.refl _ _ | assumption | refine below_new ?_ _ | refine below_draw ?_ | refine below_tail (by assumption) ?_ | refine below_set ?_ (by first | omega | (simp <;> omega)) _))⟩
  · have Hz := Lib.hid hz
    have hz1 : (askedF c [d] [] == 0) = false := by simpa using hz
    have hz2 : (askedF c [d] [] != 0) = true := by simpa using hz
    clear hz
    go_enter Try.func34, Try.ntmps34
    go_wp2_with (first | (go_at_call 40; refine (validate_calls _ c _ (HCal.out.below (by (repeat' (first | exact Below.refl _ _ | assumption | refine below_new ?_ _ | refine below_draw ?_ | refine below_tail (by assumption) ?_ | refine below_set ?_ (by first | omega | (simp <;> omega)) _))))).use ?_; intro w1 hb1 hz1 hc1 hf1; (try simp at hz1); have hy1 : w.heap.size < w1.heap.size := (by omega); have hx1 := fun o => hc1 w.heap.size o (by first | omega | (simp <;> omega))) | (go_at_call 73; refine (areDays_calls _ [d] _ (ints1 (by simp))).use ?_; intro w2 hb2 hz2 hc2 hf2; (try simp at hz2); have hy2 : w.heap.size < w2.heap.size := (by omega); have hx2 := fun o => hc2 w.heap.size o (by first | omega | (simp <;> omega))) | (go_at_call 72; refine (or_is _ [validF c, daysF [d]] (askedF c [d] []) _ (ints2 (by simp)) (by rw [orFrom_2, askedF_days])).mono ?_; rintro e w' ⟨rfl, rfl⟩))
    go_ret2
    exact ⟨by rw [HR0.out, if_neg Hz.out]; rfl, by (repeat' (first | exact Below.refl _ _ | assumption | refine below_new ?_ _ | refine below_draw ?_ | refine below_tail (by assumption) ?_ | refine below_set ?_ (by first | omega | (simp <;> omega)) _))⟩

set_option maxHeartbeats 1000000 in
theorem IsFree_calls (v : Value) (c : Cal) (d : Int) (w : World) (h : CalAt w v c) :
    Gives Try.prog 36 #[v, .int .i64 d] w (.tuple #[.bool (freeR c d), .int .i64 (askedF c [d] [])]) := by
  obtain ⟨fa, fc, sa, sc, rfl, hf, hs, hfc, hsc, hfl, hsl⟩ := h.cells
  have HCal := Lib.hid h
  clear h hf hs
  unfold Gives
  have HR0 : Hid (freeR c d = if askedF c [d] [] = 0 then freeB c d else false) := rfl
  by_cases hz : askedF c [d] [] = 0
  · have Hz := Lib.hid hz
    have hz1 : (askedF c [d] [] == 0) = true := by simpa using hz
    have hz2 : (askedF c [d] [] != 0) = false := by simpa using hz
    obtain ⟨hv, hd1, hd2⟩ := asked_day hz
    obtain ⟨hv1, hv2⟩ := valid_first hv
    have HV := Lib.hid hv
    clear hv
    clear hz
    go_enter Try.func36, Try.ntmps36
    go_wp2_with (first | (go_at_call 40; refine (validate_calls _ c _ (HCal.out.below (by (repeat' (first | exact Below.refl _ _ | assumption | refine below_new ?_ _ | refine below_draw ?_ | refine below_tail (by assumption) ?_ | refine below_set ?_ (by first | omega | (simp <;> omega)) _))))).use ?_; intro w1 hb1 hz1 hc1 hf1; (try simp at hz1); have hy1 : w.heap.size < w1.heap.size := (by omega); have hx1 := fun o => hc1 w.heap.size o (by first | omega | (simp <;> omega))) | (go_at_call 73; refine (areDays_calls _ [d] _ (ints1 (by simp))).use ?_; intro w2 hb2 hz2 hc2 hf2; (try simp at hz2); have hy2 : w.heap.size < w2.heap.size := (by omega); have hx2 := fun o => hc2 w.heap.size o (by first | omega | (simp <;> omega))) | (go_at_call 72; refine (or_is _ [validF c, daysF [d]] (askedF c [d] []) _ (ints2 (by simp)) (by rw [orFrom_2, askedF_days])).mono ?_; rintro e w' ⟨rfl, rfl⟩) | (go_at_call 76; refine (isFree_calls _ c d _ (HCal.out.below (by (repeat' (first | exact Below.refl _ _ | assumption | refine below_new ?_ _ | refine below_draw ?_ | refine below_tail (by assumption) ?_ | refine below_set ?_ (by first | omega | (simp <;> omega)) _)))) hv1 hv2 hd1 (by omega)).use ?_; intro w3 hb3 hz3 hc3 hf3))
    go_ret2
    exact ⟨by rw [HR0.out, if_pos Hz.out, Hz.out]; rfl, by (repeat' (first | exact Below.refl _ _ | assumption | refine below_new ?_ _ | refine below_draw ?_ | refine below_tail (by assumption) ?_ | refine below_set ?_ (by first | omega | (simp <;> omega)) _))⟩
  · have Hz := Lib.hid hz
    have hz1 : (askedF c [d] [] == 0) = false := by simpa using hz
    have hz2 : (askedF c [d] [] != 0) = true := by simpa using hz
    clear hz
    go_enter Try.func36, Try.ntmps36
    go_wp2_with (first | (go_at_call 40; refine (validate_calls _ c _ (HCal.out.below (by (repeat' (first | exact Below.refl _ _ | assumption | refine below_new ?_ _ | refine below_draw ?_ | refine below_tail (by assumption) ?_ | refine below_set ?_ (by first | omega | (simp <;> omega)) _))))).use ?_; intro w1 hb1 hz1 hc1 hf1; (try simp at hz1); have hy1 : w.heap.size < w1.heap.size := (by omega); have hx1 := fun o => hc1 w.heap.size o (by first | omega | (simp <;> omega))) | (go_at_call 73; refine (areDays_calls _ [d] _ (ints1 (by simp))).use ?_; intro w2 hb2 hz2 hc2 hf2; (try simp at hz2); have hy2 : w.heap.size < w2.heap.size := (by omega); have hx2 := fun o => hc2 w.heap.size o (by first | omega | (simp <;> omega))) | (go_at_call 72; refine (or_is _ [validF c, daysF [d]] (askedF c [d] []) _ (ints2 (by simp)) (by rw [orFrom_2, askedF_days])).mono ?_; rintro e w' ⟨rfl, rfl⟩))
    go_ret2
    exact ⟨by rw [HR0.out, if_neg Hz.out]; rfl, by (repeat' (first | exact Below.refl _ _ | assumption | refine below_new ?_ _ | refine below_draw ?_ | refine below_tail (by assumption) ?_ | refine below_set ?_ (by first | omega | (simp <;> omega)) _))⟩

set_option maxHeartbeats 1000000 in
theorem IsStill_calls (v : Value) (c : Cal) (d : Int) (w : World) (h : CalAt w v c) :
    Gives Try.prog 38 #[v, .int .i64 d] w (.tuple #[.bool (stillR c d), .int .i64 (askedF c [d] [])]) := by
  obtain ⟨fa, fc, sa, sc, rfl, hf, hs, hfc, hsc, hfl, hsl⟩ := h.cells
  have HCal := Lib.hid h
  clear h hf hs
  unfold Gives
  have HR0 : Hid (stillR c d = if askedF c [d] [] = 0 then stillB c d else false) := rfl
  by_cases hz : askedF c [d] [] = 0
  · have Hz := Lib.hid hz
    have hz1 : (askedF c [d] [] == 0) = true := by simpa using hz
    have hz2 : (askedF c [d] [] != 0) = false := by simpa using hz
    obtain ⟨hv, hd1, hd2⟩ := asked_day hz
    obtain ⟨hv1, hv2⟩ := valid_first hv
    have HV := Lib.hid hv
    clear hv
    clear hz
    go_enter Try.func38, Try.ntmps38
    go_wp2_with (first | (go_at_call 40; refine (validate_calls _ c _ (HCal.out.below (by (repeat' (first | exact Below.refl _ _ | assumption | refine below_new ?_ _ | refine below_draw ?_ | refine below_tail (by assumption) ?_ | refine below_set ?_ (by first | omega | (simp <;> omega)) _))))).use ?_; intro w1 hb1 hz1 hc1 hf1; (try simp at hz1); have hy1 : w.heap.size < w1.heap.size := (by omega); have hx1 := fun o => hc1 w.heap.size o (by first | omega | (simp <;> omega))) | (go_at_call 73; refine (areDays_calls _ [d] _ (ints1 (by simp))).use ?_; intro w2 hb2 hz2 hc2 hf2; (try simp at hz2); have hy2 : w.heap.size < w2.heap.size := (by omega); have hx2 := fun o => hc2 w.heap.size o (by first | omega | (simp <;> omega))) | (go_at_call 72; refine (or_is _ [validF c, daysF [d]] (askedF c [d] []) _ (ints2 (by simp)) (by rw [orFrom_2, askedF_days])).mono ?_; rintro e w' ⟨rfl, rfl⟩) | (go_at_call 80; refine (isStill_calls _ c d _ (HCal.out.below (by (repeat' (first | exact Below.refl _ _ | assumption | refine below_new ?_ _ | refine below_draw ?_ | refine below_tail (by assumption) ?_ | refine below_set ?_ (by first | omega | (simp <;> omega)) _))))).use ?_; intro w3 hb3 hz3 hc3 hf3))
    go_ret2
    exact ⟨by rw [HR0.out, if_pos Hz.out, Hz.out]; rfl, by (repeat' (first | exact Below.refl _ _ | assumption | refine below_new ?_ _ | refine below_draw ?_ | refine below_tail (by assumption) ?_ | refine below_set ?_ (by first | omega | (simp <;> omega)) _))⟩
  · have Hz := Lib.hid hz
    have hz1 : (askedF c [d] [] == 0) = false := by simpa using hz
    have hz2 : (askedF c [d] [] != 0) = true := by simpa using hz
    clear hz
    go_enter Try.func38, Try.ntmps38
    go_wp2_with (first | (go_at_call 40; refine (validate_calls _ c _ (HCal.out.below (by (repeat' (first | exact Below.refl _ _ | assumption | refine below_new ?_ _ | refine below_draw ?_ | refine below_tail (by assumption) ?_ | refine below_set ?_ (by first | omega | (simp <;> omega)) _))))).use ?_; intro w1 hb1 hz1 hc1 hf1; (try simp at hz1); have hy1 : w.heap.size < w1.heap.size := (by omega); have hx1 := fun o => hc1 w.heap.size o (by first | omega | (simp <;> omega))) | (go_at_call 73; refine (areDays_calls _ [d] _ (ints1 (by simp))).use ?_; intro w2 hb2 hz2 hc2 hf2; (try simp at hz2); have hy2 : w.heap.size < w2.heap.size := (by omega); have hx2 := fun o => hc2 w.heap.size o (by first | omega | (simp <;> omega))) | (go_at_call 72; refine (or_is _ [validF c, daysF [d]] (askedF c [d] []) _ (ints2 (by simp)) (by rw [orFrom_2, askedF_days])).mono ?_; rintro e w' ⟨rfl, rfl⟩))
    go_ret2
    exact ⟨by rw [HR0.out, if_neg Hz.out]; rfl, by (repeat' (first | exact Below.refl _ _ | assumption | refine below_new ?_ _ | refine below_draw ?_ | refine below_tail (by assumption) ?_ | refine below_set ?_ (by first | omega | (simp <;> omega)) _))⟩

set_option maxHeartbeats 1000000 in
theorem Next_calls (v : Value) (c : Cal) (d : Int) (w : World) (h : CalAt w v c) :
    Gives Try.prog 42 #[v, .int .i64 d] w (.tuple #[.int .i64 (nextR c d), .int .i64 (askedF c [d] [])]) := by
  obtain ⟨fa, fc, sa, sc, rfl, hf, hs, hfc, hsc, hfl, hsl⟩ := h.cells
  have HCal := Lib.hid h
  clear h hf hs
  unfold Gives
  have HR0 : Hid (nextR c d = if askedF c [d] [] = 0 then nextF c d else 0) := rfl
  by_cases hz : askedF c [d] [] = 0
  · have Hz := Lib.hid hz
    have hz1 : (askedF c [d] [] == 0) = true := by simpa using hz
    have hz2 : (askedF c [d] [] != 0) = false := by simpa using hz
    obtain ⟨hv, hd1, hd2⟩ := asked_day hz
    obtain ⟨hv1, hv2⟩ := valid_first hv
    have HV := Lib.hid hv
    clear hv
    clear hz
    go_enter Try.func42, Try.ntmps42
    go_wp2_with (first | (go_at_call 40; refine (validate_calls _ c _ (HCal.out.below (by (repeat' (first | exact Below.refl _ _ | assumption | refine below_new ?_ _ | refine below_draw ?_ | refine below_tail (by assumption) ?_ | refine below_set ?_ (by first | omega | (simp <;> omega)) _))))).use ?_; intro w1 hb1 hz1 hc1 hf1; (try simp at hz1); have hy1 : w.heap.size < w1.heap.size := (by omega); have hx1 := fun o => hc1 w.heap.size o (by first | omega | (simp <;> omega))) | (go_at_call 73; refine (areDays_calls _ [d] _ (ints1 (by simp))).use ?_; intro w2 hb2 hz2 hc2 hf2; (try simp at hz2); have hy2 : w.heap.size < w2.heap.size := (by omega); have hx2 := fun o => hc2 w.heap.size o (by first | omega | (simp <;> omega))) | (go_at_call 72; refine (or_is _ [validF c, daysF [d]] (askedF c [d] []) _ (ints2 (by simp)) (by rw [orFrom_2, askedF_days])).mono ?_; rintro e w' ⟨rfl, rfl⟩) | (go_at_call 66; refine (next_calls _ c d _ (HCal.out.below (by (repeat' (first | exact Below.refl _ _ | assumption | refine below_new ?_ _ | refine below_draw ?_ | refine below_tail (by assumption) ?_ | refine below_set ?_ (by first | omega | (simp <;> omega)) _)))) HV.out hv1 hv2 hd1 (by omega)).use ?_; intro w3 hb3 hz3 hc3 hf3))
    go_ret2
    exact ⟨by rw [HR0.out, if_pos Hz.out, Hz.out]; rfl, by (repeat' (first | exact Below.refl _ _ | assumption | refine below_new ?_ _ | refine below_draw ?_ | refine below_tail (by assumption) ?_ | refine below_set ?_ (by first | omega | (simp <;> omega)) _))⟩
  · have Hz := Lib.hid hz
    have hz1 : (askedF c [d] [] == 0) = false := by simpa using hz
    have hz2 : (askedF c [d] [] != 0) = true := by simpa using hz
    clear hz
    go_enter Try.func42, Try.ntmps42
    go_wp2_with (first | (go_at_call 40; refine (validate_calls _ c _ (HCal.out.below (by (repeat' (first | exact Below.refl _ _ | assumption | refine below_new ?_ _ | refine below_draw ?_ | refine below_tail (by assumption) ?_ | refine below_set ?_ (by first | omega | (simp <;> omega)) _))))).use ?_; intro w1 hb1 hz1 hc1 hf1; (try simp at hz1); have hy1 : w.heap.size < w1.heap.size := (by omega); have hx1 := fun o => hc1 w.heap.size o (by first | omega | (simp <;> omega))) | (go_at_call 73; refine (areDays_calls _ [d] _ (ints1 (by simp))).use ?_; intro w2 hb2 hz2 hc2 hf2; (try simp at hz2); have hy2 : w.heap.size < w2.heap.size := (by omega); have hx2 := fun o => hc2 w.heap.size o (by first | omega | (simp <;> omega))) | (go_at_call 72; refine (or_is _ [validF c, daysF [d]] (askedF c [d] []) _ (ints2 (by simp)) (by rw [orFrom_2, askedF_days])).mono ?_; rintro e w' ⟨rfl, rfl⟩))
    go_ret2
    exact ⟨by rw [HR0.out, if_neg Hz.out]; rfl, by (repeat' (first | exact Below.refl _ _ | assumption | refine below_new ?_ _ | refine below_draw ?_ | refine below_tail (by assumption) ?_ | refine below_set ?_ (by first | omega | (simp <;> omega)) _))⟩

set_option maxHeartbeats 1000000 in
theorem Ends_calls (v : Value) (c : Cal) (d n : Int) (w : World) (h : CalAt w v c) :
    Gives Try.prog 19 #[v, .int .i64 d, .int .i64 n] w (.tuple #[.int .i64 (endsR c d n), .int .i64 (askedF c [d] [n])]) := by
  obtain ⟨fa, fc, sa, sc, rfl, hf, hs, hfc, hsc, hfl, hsl⟩ := h.cells
  have HCal := Lib.hid h
  clear h hf hs
  unfold Gives
  have HR0 : Hid (endsR c d n = if askedF c [d] [n] = 0 then endsF c d n else 0) := rfl
  by_cases hz : askedF c [d] [n] = 0
  · have Hz := Lib.hid hz
    have hz1 : (askedF c [d] [n] == 0) = true := by simpa using hz
    have hz2 : (askedF c [d] [n] != 0) = false := by simpa using hz
    obtain ⟨hv, hd1, hd2, hn1, hn2⟩ := asked_term hz
    obtain ⟨hv1, hv2⟩ := valid_first hv
    have HV := Lib.hid hv
    clear hv
    clear hz
    go_enter Try.func19, Try.ntmps19
    go_wp2_with (first | (go_at_call 55; refine (termed_calls _ _ c d [n] _ (HCal.out.below (by (repeat' (first | exact Below.refl _ _ | assumption | refine below_new ?_ _ | refine below_draw ?_ | refine below_tail (by assumption) ?_ | refine below_set ?_ (by first | omega | (simp <;> omega)) _)))) (ints1 (by simp))).use ?_; intro w1 hb1 hz1 hc1 hf1; (try simp at hz1); have hy1 : w.heap.size < w1.heap.size := (by omega); have hx1 := fun o => hc1 w.heap.size o (by first | omega | (simp <;> omega))) | (go_at_call 56; refine (ends_calls _ c d n _ (HCal.out.below (by (repeat' (first | exact Below.refl _ _ | assumption | refine below_new ?_ _ | refine below_draw ?_ | refine below_tail (by assumption) ?_ | refine below_set ?_ (by first | omega | (simp <;> omega)) _)))) HV.out hv1 hv2 hd1 (by omega) hn1 (by omega)).use ?_; intro w3 hb3 hz3 hc3 hf3))
    go_ret2
    exact ⟨by rw [HR0.out, if_pos Hz.out, Hz.out]; rfl, by (repeat' (first | exact Below.refl _ _ | assumption | refine below_new ?_ _ | refine below_draw ?_ | refine below_tail (by assumption) ?_ | refine below_set ?_ (by first | omega | (simp <;> omega)) _))⟩
  · have Hz := Lib.hid hz
    have hz1 : (askedF c [d] [n] == 0) = false := by simpa using hz
    have hz2 : (askedF c [d] [n] != 0) = true := by simpa using hz
    clear hz
    go_enter Try.func19, Try.ntmps19
    go_wp2_with (first | (go_at_call 55; refine (termed_calls _ _ c d [n] _ (HCal.out.below (by (repeat' (first | exact Below.refl _ _ | assumption | refine below_new ?_ _ | refine below_draw ?_ | refine below_tail (by assumption) ?_ | refine below_set ?_ (by first | omega | (simp <;> omega)) _)))) (ints1 (by simp))).use ?_; intro w1 hb1 hz1 hc1 hf1; (try simp at hz1); have hy1 : w.heap.size < w1.heap.size := (by omega); have hx1 := fun o => hc1 w.heap.size o (by first | omega | (simp <;> omega))))
    go_ret2
    exact ⟨by rw [HR0.out, if_neg Hz.out]; rfl, by (repeat' (first | exact Below.refl _ _ | assumption | refine below_new ?_ _ | refine below_draw ?_ | refine below_tail (by assumption) ?_ | refine below_set ?_ (by first | omega | (simp <;> omega)) _))⟩

set_option maxHeartbeats 1000000 in
theorem rWeek_calls (v : Value) (c : Cal) (d : Int) (w : World) (h : CalAt w v c) :
    Gives Try.prog 35 #[v, .int .i64 d] w (.tuple #[.int .i64 (weekR c d), .int .i64 (askedF c [d] [])]) := by
  obtain ⟨fa, fc, sa, sc, rfl, hf, hs, hfc, hsc, hfl, hsl⟩ := h.cells
  have HCal := Lib.hid h
  clear h hf hs
  unfold Gives
  have HR0 : Hid (weekR c d = if askedF c [d] [] = 0 then weekF c d else 0) := rfl
  by_cases hz : askedF c [d] [] = 0
  · have Hz := Lib.hid hz
    have hz1 : (askedF c [d] [] == 0) = true := by simpa using hz
    have hz2 : (askedF c [d] [] != 0) = false := by simpa using hz
    obtain ⟨hv, hd1, hd2⟩ := asked_day hz
    obtain ⟨hv1, hv2⟩ := valid_first hv
    have HV := Lib.hid hv
    clear hv
    have hw : (c.first + d) % 7 = weekF c d := rfl
    clear hz
    go_enter Try.func35, Try.ntmps35
    go_wp2_with (first | (go_at_call 62; refine (asked_calls _ _ _ c [d] [] _ (HCal.out.below (by (repeat' (first | exact Below.refl _ _ | assumption | refine below_new ?_ _ | refine below_draw ?_ | refine below_tail (by assumption) ?_ | refine below_set ?_ (by first | omega | (simp <;> omega)) _)))) (ints1 (by simp)) (ints0 _ _ _ (by simp))).use ?_; intro w1 hb1 hz1 hc1 hf1; (try simp at hz1); have hy1 : w.heap.size < w1.heap.size := (by omega); have hx1 := fun o => hc1 w.heap.size o (by first | omega | (simp <;> omega))))
    go_ret2
    exact ⟨by rw [HR0.out, if_pos Hz.out, Hz.out]; rfl, by (repeat' (first | exact Below.refl _ _ | assumption | refine below_new ?_ _ | refine below_draw ?_ | refine below_tail (by assumption) ?_ | refine below_set ?_ (by first | omega | (simp <;> omega)) _))⟩
  · have Hz := Lib.hid hz
    have hz1 : (askedF c [d] [] == 0) = false := by simpa using hz
    have hz2 : (askedF c [d] [] != 0) = true := by simpa using hz
    clear hz
    go_enter Try.func35, Try.ntmps35
    go_wp2_with (first | (go_at_call 62; refine (asked_calls _ _ _ c [d] [] _ (HCal.out.below (by (repeat' (first | exact Below.refl _ _ | assumption | refine below_new ?_ _ | refine below_draw ?_ | refine below_tail (by assumption) ?_ | refine below_set ?_ (by first | omega | (simp <;> omega)) _)))) (ints1 (by simp)) (ints0 _ _ _ (by simp))).use ?_; intro w1 hb1 hz1 hc1 hf1; (try simp at hz1); have hy1 : w.heap.size < w1.heap.size := (by omega); have hx1 := fun o => hc1 w.heap.size o (by first | omega | (simp <;> omega))))
    go_ret2
    exact ⟨by rw [HR0.out, if_neg Hz.out]; rfl, by (repeat' (first | exact Below.refl _ _ | assumption | refine below_new ?_ _ | refine below_draw ?_ | refine below_tail (by assumption) ?_ | refine below_set ?_ (by first | omega | (simp <;> omega)) _))⟩

set_option maxHeartbeats 1000000 in
theorem rIsFree_calls (v : Value) (c : Cal) (d : Int) (w : World) (h : CalAt w v c) :
    Gives Try.prog 37 #[v, .int .i64 d] w (.tuple #[.bool (freeR c d), .int .i64 (askedF c [d] [])]) := by
  obtain ⟨fa, fc, sa, sc, rfl, hf, hs, hfc, hsc, hfl, hsl⟩ := h.cells
  have HCal := Lib.hid h
  clear h hf hs
  unfold Gives
  have HR0 : Hid (freeR c d = if askedF c [d] [] = 0 then freeB c d else false) := rfl
  by_cases hz : askedF c [d] [] = 0
  · have Hz := Lib.hid hz
    have hz1 : (askedF c [d] [] == 0) = true := by simpa using hz
    have hz2 : (askedF c [d] [] != 0) = false := by simpa using hz
    obtain ⟨hv, hd1, hd2⟩ := asked_day hz
    obtain ⟨hv1, hv2⟩ := valid_first hv
    have HV := Lib.hid hv
    clear hv
    clear hz
    go_enter Try.func37, Try.ntmps37
    go_wp2_with (first | (go_at_call 62; refine (asked_calls _ _ _ c [d] [] _ (HCal.out.below (by (repeat' (first | exact Below.refl _ _ | assumption | refine below_new ?_ _ | refine below_draw ?_ | refine below_tail (by assumption) ?_ | refine below_set ?_ (by first | omega | (simp <;> omega)) _)))) (ints1 (by simp)) (ints0 _ _ _ (by simp))).use ?_; intro w1 hb1 hz1 hc1 hf1; (try simp at hz1); have hy1 : w.heap.size < w1.heap.size := (by omega); have hx1 := fun o => hc1 w.heap.size o (by first | omega | (simp <;> omega))) | (go_at_call 63; refine (rfree_calls _ c d _ (HCal.out.below (by (repeat' (first | exact Below.refl _ _ | assumption | refine below_new ?_ _ | refine below_draw ?_ | refine below_tail (by assumption) ?_ | refine below_set ?_ (by first | omega | (simp <;> omega)) _)))) hv1 hv2 hd1 (by omega)).use ?_; intro w3 hb3 hz3 hc3 hf3))
    go_ret2
    exact ⟨by rw [HR0.out, if_pos Hz.out, Hz.out]; rfl, by (repeat' (first | exact Below.refl _ _ | assumption | refine below_new ?_ _ | refine below_draw ?_ | refine below_tail (by assumption) ?_ | refine below_set ?_ (by first | omega | (simp <;> omega)) _))⟩
  · have Hz := Lib.hid hz
    have hz1 : (askedF c [d] [] == 0) = false := by simpa using hz
    have hz2 : (askedF c [d] [] != 0) = true := by simpa using hz
    clear hz
    go_enter Try.func37, Try.ntmps37
    go_wp2_with (first | (go_at_call 62; refine (asked_calls _ _ _ c [d] [] _ (HCal.out.below (by (repeat' (first | exact Below.refl _ _ | assumption | refine below_new ?_ _ | refine below_draw ?_ | refine below_tail (by assumption) ?_ | refine below_set ?_ (by first | omega | (simp <;> omega)) _)))) (ints1 (by simp)) (ints0 _ _ _ (by simp))).use ?_; intro w1 hb1 hz1 hc1 hf1; (try simp at hz1); have hy1 : w.heap.size < w1.heap.size := (by omega); have hx1 := fun o => hc1 w.heap.size o (by first | omega | (simp <;> omega))))
    go_ret2
    exact ⟨by rw [HR0.out, if_neg Hz.out]; rfl, by (repeat' (first | exact Below.refl _ _ | assumption | refine below_new ?_ _ | refine below_draw ?_ | refine below_tail (by assumption) ?_ | refine below_set ?_ (by first | omega | (simp <;> omega)) _))⟩

set_option maxHeartbeats 1000000 in
theorem rIsStill_calls (v : Value) (c : Cal) (d : Int) (w : World) (h : CalAt w v c) :
    Gives Try.prog 39 #[v, .int .i64 d] w (.tuple #[.bool (stillR c d), .int .i64 (askedF c [d] [])]) := by
  obtain ⟨fa, fc, sa, sc, rfl, hf, hs, hfc, hsc, hfl, hsl⟩ := h.cells
  have HCal := Lib.hid h
  clear h hf hs
  unfold Gives
  have HR0 : Hid (stillR c d = if askedF c [d] [] = 0 then stillB c d else false) := rfl
  by_cases hz : askedF c [d] [] = 0
  · have Hz := Lib.hid hz
    have hz1 : (askedF c [d] [] == 0) = true := by simpa using hz
    have hz2 : (askedF c [d] [] != 0) = false := by simpa using hz
    obtain ⟨hv, hd1, hd2⟩ := asked_day hz
    obtain ⟨hv1, hv2⟩ := valid_first hv
    have HV := Lib.hid hv
    clear hv
    clear hz
    go_enter Try.func39, Try.ntmps39
    go_wp2_with (first | (go_at_call 62; refine (asked_calls _ _ _ c [d] [] _ (HCal.out.below (by (repeat' (first | exact Below.refl _ _ | assumption | refine below_new ?_ _ | refine below_draw ?_ | refine below_tail (by assumption) ?_ | refine below_set ?_ (by first | omega | (simp <;> omega)) _)))) (ints1 (by simp)) (ints0 _ _ _ (by simp))).use ?_; intro w1 hb1 hz1 hc1 hf1; (try simp at hz1); have hy1 : w.heap.size < w1.heap.size := (by omega); have hx1 := fun o => hc1 w.heap.size o (by first | omega | (simp <;> omega))) | (go_at_call 64; refine (rstill_calls _ c d _ (HCal.out.below (by (repeat' (first | exact Below.refl _ _ | assumption | refine below_new ?_ _ | refine below_draw ?_ | refine below_tail (by assumption) ?_ | refine below_set ?_ (by first | omega | (simp <;> omega)) _))))).use ?_; intro w3 hb3 hz3 hc3 hf3))
    go_ret2
    exact ⟨by rw [HR0.out, if_pos Hz.out, Hz.out]; rfl, by (repeat' (first | exact Below.refl _ _ | assumption | refine below_new ?_ _ | refine below_draw ?_ | refine below_tail (by assumption) ?_ | refine below_set ?_ (by first | omega | (simp <;> omega)) _))⟩
  · have Hz := Lib.hid hz
    have hz1 : (askedF c [d] [] == 0) = false := by simpa using hz
    have hz2 : (askedF c [d] [] != 0) = true := by simpa using hz
    clear hz
    go_enter Try.func39, Try.ntmps39
    go_wp2_with (first | (go_at_call 62; refine (asked_calls _ _ _ c [d] [] _ (HCal.out.below (by (repeat' (first | exact Below.refl _ _ | assumption | refine below_new ?_ _ | refine below_draw ?_ | refine below_tail (by assumption) ?_ | refine below_set ?_ (by first | omega | (simp <;> omega)) _)))) (ints1 (by simp)) (ints0 _ _ _ (by simp))).use ?_; intro w1 hb1 hz1 hc1 hf1; (try simp at hz1); have hy1 : w.heap.size < w1.heap.size := (by omega); have hx1 := fun o => hc1 w.heap.size o (by first | omega | (simp <;> omega))))
    go_ret2
    exact ⟨by rw [HR0.out, if_neg Hz.out]; rfl, by (repeat' (first | exact Below.refl _ _ | assumption | refine below_new ?_ _ | refine below_draw ?_ | refine below_tail (by assumption) ?_ | refine below_set ?_ (by first | omega | (simp <;> omega)) _))⟩

set_option maxHeartbeats 1000000 in
theorem rEnds_calls (v : Value) (c : Cal) (d n : Int) (w : World) (h : CalAt w v c) :
    Gives Try.prog 48 #[v, .int .i64 d, .int .i64 n] w (.tuple #[.int .i64 (endsR c d n), .int .i64 (askedF c [d] [n])]) := by
  obtain ⟨fa, fc, sa, sc, rfl, hf, hs, hfc, hsc, hfl, hsl⟩ := h.cells
  have HCal := Lib.hid h
  clear h hf hs
  unfold Gives
  have HR0 : Hid (endsR c d n = if askedF c [d] [n] = 0 then endsF c d n else 0) := rfl
  by_cases hz : askedF c [d] [n] = 0
  · have Hz := Lib.hid hz
    have hz1 : (askedF c [d] [n] == 0) = true := by simpa using hz
    have hz2 : (askedF c [d] [n] != 0) = false := by simpa using hz
    obtain ⟨hv, hd1, hd2, hn1, hn2⟩ := asked_term hz
    obtain ⟨hv1, hv2⟩ := valid_first hv
    have HV := Lib.hid hv
    clear hv
    clear hz
    go_enter Try.func48, Try.ntmps48
    go_wp2_with (first | (go_at_call 62; refine (asked_calls _ _ _ c [d] [n] _ (HCal.out.below (by (repeat' (first | exact Below.refl _ _ | assumption | refine below_new ?_ _ | refine below_draw ?_ | refine below_tail (by assumption) ?_ | refine below_set ?_ (by first | omega | (simp <;> omega)) _)))) (ints1b (by simp)) (ints1 (by simp))).use ?_; intro w1 hb1 hz1 hc1 hf1; (try simp at hz1); have hy1 : w.heap.size < w1.heap.size := (by omega); have hx1 := fun o => hc1 w.heap.size o (by first | omega | (simp <;> omega))) | (go_at_call 65; refine (rends_calls _ c d n _ (HCal.out.below (by (repeat' (first | exact Below.refl _ _ | assumption | refine below_new ?_ _ | refine below_draw ?_ | refine below_tail (by assumption) ?_ | refine below_set ?_ (by first | omega | (simp <;> omega)) _)))) HV.out hv1 hv2 hd1 (by omega) hn1 (by omega)).use ?_; intro w3 hb3 hz3 hc3 hf3))
    go_ret2
    exact ⟨by rw [HR0.out, if_pos Hz.out, Hz.out]; rfl, by (repeat' (first | exact Below.refl _ _ | assumption | refine below_new ?_ _ | refine below_draw ?_ | refine below_tail (by assumption) ?_ | refine below_set ?_ (by first | omega | (simp <;> omega)) _))⟩
  · have Hz := Lib.hid hz
    have hz1 : (askedF c [d] [n] == 0) = false := by simpa using hz
    have hz2 : (askedF c [d] [n] != 0) = true := by simpa using hz
    clear hz
    go_enter Try.func48, Try.ntmps48
    go_wp2_with (first | (go_at_call 62; refine (asked_calls _ _ _ c [d] [n] _ (HCal.out.below (by (repeat' (first | exact Below.refl _ _ | assumption | refine below_new ?_ _ | refine below_draw ?_ | refine below_tail (by assumption) ?_ | refine below_set ?_ (by first | omega | (simp <;> omega)) _)))) (ints1b (by simp)) (ints1 (by simp))).use ?_; intro w1 hb1 hz1 hc1 hf1; (try simp at hz1); have hy1 : w.heap.size < w1.heap.size := (by omega); have hx1 := fun o => hc1 w.heap.size o (by first | omega | (simp <;> omega))))
    go_ret2
    exact ⟨by rw [HR0.out, if_neg Hz.out]; rfl, by (repeat' (first | exact Below.refl _ _ | assumption | refine below_new ?_ _ | refine below_draw ?_ | refine below_tail (by assumption) ?_ | refine below_set ?_ (by first | omega | (simp <;> omega)) _))⟩

end Go.Proofs.Ytnhohnnoffhkhaa
