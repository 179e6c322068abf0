/- What the small functions of package term, and of its reference, give. Conditions: a calendar lies in memory as said. -/
import Derived.Test.YtnhohnnoffhkhaaSlices
import Derived.Test.YtnhohnnoffhkhaaTermSpec
import Derived.Deep.QuietTactic
namespace Go.Proofs.Ytnhohnnoffhkhaa
open Go.RowKit

set_option maxHeartbeats 400000 in
theorem within_calls (n lo hi : Int) (w : World) :
    Calls Try.prog 82 #[.int .i64 n, .int .i64 lo, .int .i64 hi] w fun e w' => e = .returned (.bool (withinB n lo hi)) ∧ w = w' := by
  by_cases h : lo ≤ n
  · go_enter Try.func82, Try.ntmps82
    go_wp2
    go_ret
    exact ⟨by simp [withinB, h], rfl⟩
  · go_enter Try.func82, Try.ntmps82
    go_wp2
    go_ret
    exact ⟨ret_bool (by have : decide (lo ≤ n) = false := by simpa using h
                        simp [withinB, this]), rfl⟩
set_option maxHeartbeats 400000 in
theorem rwithin_calls (n lo hi : Int) (w : World) :
    Calls Try.prog 83 #[.int .i64 n, .int .i64 lo, .int .i64 hi] w fun e w' => e = .returned (.bool (withinB n lo hi)) ∧ w = w' := by
  by_cases h : lo ≤ n
  · go_enter Try.func83, Try.ntmps83
    go_wp2
    go_ret
    exact ⟨by simp [withinB, h], rfl⟩
  · go_enter Try.func83, Try.ntmps83
    go_wp2
    go_ret
    exact ⟨ret_bool (by have : decide (lo ≤ n) = false := by simpa using h
                        simp [withinB, this]), rfl⟩

set_option maxHeartbeats 400000 in
theorem isSpan_calls (s : Int × Int) (w : World) :
    Gives Try.prog 67 #[.agg #[.int .i64 s.1, .int .i64 s.2]] w (.bool (spanB s)) := by
  obtain ⟨a, b⟩ := s
  unfold Gives
  have H : Hid (spanB (a, b) = (withinB a 0 b && decide (b ≤ 10000))) := by unfold Hid; simp [spanB, withinB, Bool.and_assoc]
  cases hw : withinB a 0 b
  · go_enter Try.func67, Try.ntmps67
    go_wp2_with (go_at_call 82; refine (within_calls _ _ _ _).mono ?_; rintro e w' ⟨rfl, rfl⟩)
    go_ret
    exact ⟨ret_bool (by rw [H.out, hw]; rfl), by (repeat' (first | exact Below.refl _ _ | assumption | refine below_new ?_ _ | refine below_draw ?_ | refine below_tail (by assumption) ?_ | refine below_set ?_ (by first | omega | (simp <;> omega)) _))⟩
  · go_enter Try.func67, Try.ntmps67
    go_wp2_with (go_at_call 82; refine (within_calls _ _ _ _).mono ?_; rintro e w' ⟨rfl, rfl⟩)
    go_ret
    exact ⟨ret_bool (by rw [H.out, hw]; rfl), by (repeat' (first | exact Below.refl _ _ | assumption | refine below_new ?_ _ | refine below_draw ?_ | refine below_tail (by assumption) ?_ | refine below_set ?_ (by first | omega | (simp <;> omega)) _))⟩

set_option maxHeartbeats 400000 in
theorem areDays1_calls (d : Int) (w : World) :
    Calls Try.prog 92 #[.int .i64 d] w fun e w' => e = .returned (.bool (!(dayB d))) ∧ w = w' := by
  go_enter Try.func92, Try.ntmps92
  go_wp2_with (go_at_call 82; refine (within_calls _ _ _ _).mono ?_; rintro e w' ⟨rfl, rfl⟩)
  go_ret
  exact ⟨rfl, rfl⟩
set_option maxHeartbeats 400000 in
theorem areTerms1_calls (d : Int) (w : World) :
    Calls Try.prog 93 #[.int .i64 d] w fun e w' => e = .returned (.bool (!(termB d))) ∧ w = w' := by
  go_enter Try.func93, Try.ntmps93
  go_wp2_with (go_at_call 82; refine (within_calls _ _ _ _).mono ?_; rintro e w' ⟨rfl, rfl⟩)
  go_ret
  exact ⟨rfl, rfl⟩
set_option maxHeartbeats 400000 in
theorem areDays_calls (v : Value) (l : List Int) (w : World) (h : IntsAt w v l) :
    Gives Try.prog 73 #[v] w (.int .i64 (daysF l)) := by
  have HD : Hid (daysF l = if l.any (fun d => !(dayB d)) then 1 else 0) := rfl
  have HC := Lib.hid (containsFunc_ints v l 92 #[] (fun d => !(dayB d)) w h (fun _ _ => by kernel_rfl) (fun x w' _ => Gives.of_same (areDays1_calls x w')))
  unfold Gives
  cases hx : l.any (fun d => !(dayB d))
  · go_enter Try.func73, Try.ntmps73
    go_wp2_with (refine HC.out.use ?_; intro w1 hb1 hz1 hc1 hf1)
    go_ret
    exact ⟨ret_int (by rw [HD.out, hx]; rfl), hb1⟩
  · go_enter Try.func73, Try.ntmps73
    go_wp2_with (refine HC.out.use ?_; intro w1 hb1 hz1 hc1 hf1)
    go_ret
    exact ⟨ret_int (by rw [HD.out, hx]; rfl), hb1⟩
set_option maxHeartbeats 400000 in
theorem areTerms_calls (v : Value) (l : List Int) (w : World) (h : IntsAt w v l) :
    Gives Try.prog 74 #[v] w (.int .i64 (termsF l)) := by
  have HD : Hid (termsF l = if l.any (fun d => !(termB d)) then 1 else 0) := rfl
  have HC := Lib.hid (containsFunc_ints v l 93 #[] (fun d => !(termB d)) w h (fun _ _ => by kernel_rfl) (fun x w' _ => Gives.of_same (areTerms1_calls x w')))
  unfold Gives
  cases hx : l.any (fun d => !(termB d))
  · go_enter Try.func74, Try.ntmps74
    go_wp2_with (refine HC.out.use ?_; intro w1 hb1 hz1 hc1 hf1)
    go_ret
    exact ⟨ret_int (by rw [HD.out, hx]; rfl), hb1⟩
  · go_enter Try.func74, Try.ntmps74
    go_wp2_with (refine HC.out.use ?_; intro w1 hb1 hz1 hc1 hf1)
    go_ret
    exact ⟨ret_int (by rw [HD.out, hx]; rfl), hb1⟩

set_option maxHeartbeats 400000 in
theorem week_calls (v : Value) (c : Cal) (d : Int) (w : World) (h : CalAt w v c) (h1 : 0 ≤ c.first) (h2 : c.first ≤ 6) (h3 : 0 ≤ d) (h4 : d ≤ 1000000) :
    Gives Try.prog 81 #[v, .int .i64 d] w (.int .i64 (weekF c d)) := by
  obtain ⟨fa, fc, sa, sc, rfl, _, _, _, _, _, _⟩ := h.cells
  clear h
  unfold Gives
  go_enter Try.func81, Try.ntmps81
  go_wp2
  go_ret
  exact ⟨rfl, by (repeat' (first | exact Below.refl _ _ | assumption | refine below_new ?_ _ | refine below_draw ?_ | refine below_tail (by assumption) ?_ | refine below_set ?_ (by first | omega | (simp <;> omega)) _))⟩

set_option maxHeartbeats 400000 in
theorem isFree_calls (v : Value) (c : Cal) (d : Int) (w : World) (h : CalAt w v c) (h1 : 0 ≤ c.first) (h2 : c.first ≤ 6) (h3 : 0 ≤ d) (h4 : d ≤ 1000000) :
    Gives Try.prog 76 #[v, .int .i64 d] w (.bool (freeB c d)) := by
  obtain ⟨fa, fc, sa, sc, rfl, hf, hs, hfc, hsc, hfl, hsl⟩ := h.cells
  have HCal := Lib.hid h
  have HF := Lib.hid hf
  clear h hf hs
  unfold Gives
  cases hx : (weekF c d == 6)
  · go_enter Try.func76, Try.ntmps76
    go_wp2_with (first
      | (go_at_call 81; refine (week_calls _ c d _ (HCal.out.below (by (repeat' (first | exact Below.refl _ _ | assumption | refine below_new ?_ _ | refine below_draw ?_ | refine below_tail (by assumption) ?_ | refine below_set ?_ (by first | omega | (simp <;> omega)) _)))) h1 h2 h3 h4).use ?_; intro w1 hb1 hz1 hc1 hf1)
      | (go_at_call 94; refine (contains_ints _ c.free d _ (HF.out.below (by (repeat' (first | exact Below.refl _ _ | assumption | refine below_new ?_ _ | refine below_draw ?_ | refine below_tail (by assumption) ?_ | refine below_set ?_ (by first | omega | (simp <;> omega)) _))))).mono ?_; rintro e w' ⟨rfl, rfl⟩))
    go_ret
    exact ⟨ret_bool (by unfold freeB; rw [hx]; rfl), by (repeat' (first | exact Below.refl _ _ | assumption | refine below_new ?_ _ | refine below_draw ?_ | refine below_tail (by assumption) ?_ | refine below_set ?_ (by first | omega | (simp <;> omega)) _))⟩
  · go_enter Try.func76, Try.ntmps76
    go_wp2_with (first
      | (go_at_call 81; refine (week_calls _ c d _ (HCal.out.below (by (repeat' (first | exact Below.refl _ _ | assumption | refine below_new ?_ _ | refine below_draw ?_ | refine below_tail (by assumption) ?_ | refine below_set ?_ (by first | omega | (simp <;> omega)) _)))) h1 h2 h3 h4).use ?_; intro w1 hb1 hz1 hc1 hf1))
    go_ret
    exact ⟨ret_bool (by unfold freeB; rw [hx]; rfl), by (repeat' (first | exact Below.refl _ _ | assumption | refine below_new ?_ _ | refine below_draw ?_ | refine below_tail (by assumption) ?_ | refine below_set ?_ (by first | omega | (simp <;> omega)) _))⟩

set_option maxHeartbeats 400000 in
theorem isStill1_calls (s : Int × Int) (d : Int) (b : Nat) (w : World) (hc : w.cell? ⟨b, 0, none⟩ = some (.int .i64 d)) (hb : b < w.heap.size) :
    Gives Try.prog 96 #[.agg #[.int .i64 s.1, .int .i64 s.2], .pointer (some ⟨b, 0, none⟩)] w (.bool (withinB d s.1 s.2)) := by
  obtain ⟨s1, s2⟩ := s
  unfold Gives
  go_enter Try.func96, Try.ntmps96
  go_wp2_with (go_at_call 82; refine (within_calls _ _ _ _).mono ?_; rintro e w' ⟨rfl, rfl⟩)
  go_ret
  exact ⟨rfl, by (repeat' (first | exact Below.refl _ _ | assumption | refine below_new ?_ _ | refine below_draw ?_ | refine below_tail (by assumption) ?_ | refine below_set ?_ (by first | omega | (simp <;> omega)) _))⟩

set_option maxHeartbeats 400000 in
theorem isStill_calls (v : Value) (c : Cal) (d : Int) (w : World) (h : CalAt w v c) :
    Gives Try.prog 80 #[v, .int .i64 d] w (.bool (stillB c d)) := by
  obtain ⟨fa, fc, sa, sc, rfl, hf, hs, hfc, hsc, hfl, hsl⟩ := h.cells
  have HS := Lib.hid hs
  have HC : Hid (∀ W, Below w.heap.size w W → W.cell? ⟨w.heap.size + 1, 0, none⟩ = some (.int .i64 d) → w.heap.size + 1 < W.heap.size →
      Gives Try.prog 95 #[.slice sa c.still.length sc, .func (.func 96) #[] #[.pointer (some ⟨w.heap.size + 1, 0, none⟩)]] W (.bool (stillB c d))) := fun W hb hc hlt =>
    containsFunc_spans _ c.still 96 _ (fun s => withinB d s.1 s.2) W (hs.below hb) (fun _ _ => by kernel_rfl)
      (fun x w' hb' => isStill1_calls x d _ w' ((hb'.cell (p := ⟨w.heap.size + 1, 0, none⟩) hlt).trans hc) (Nat.lt_of_lt_of_le hlt hb'.size))
  clear h hf hs
  unfold Gives
  go_enter Try.func80, Try.ntmps80
  go_wp2_with (go_at_call 95; refine (HC.out _ (by (repeat' (first | exact Below.refl _ _ | assumption | refine below_new ?_ _ | refine below_draw ?_ | refine below_tail (by assumption) ?_ | refine below_set ?_ (by first | omega | (simp <;> omega)) _))) (by simp) (by simp)).use ?_; intro w1 hb1 hz1 hc1 hf1)
  go_ret
  exact ⟨rfl, by (repeat' (first | exact Below.refl _ _ | assumption | refine below_new ?_ _ | refine below_draw ?_ | refine below_tail (by assumption) ?_ | refine below_set ?_ (by first | omega | (simp <;> omega)) _))⟩
end Go.Proofs.Ytnhohnnoffhkhaa
