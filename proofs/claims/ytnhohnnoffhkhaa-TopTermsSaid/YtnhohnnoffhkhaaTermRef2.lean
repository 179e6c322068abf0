/- What the reference's questions and ends of terms give. Conditions: a calendar lies in memory as said. -/
import Derived.Test.YtnhohnnoffhkhaaTermRef
namespace Go.Proofs.Ytnhohnnoffhkhaa
open Go.RowKit

theorem rendB_at (c : Cal) (day days : Int) (k : Nat) : endB c day days (day + k) = (decide (days ≤ cnt (fun y => !(stillB c y)) (day + 1) k) && !(freeB c (day + k))) := by
  unfold endB
  rw [show (day + (k : Int) - day).toNat = k by omega]

set_option maxHeartbeats 1000000 in
set_option maxRecDepth 100000 in
theorem rends_calls (v : Value) (c : Cal) (day days : Int) (w : World) (h : CalAt w v c) (hv : validF c = 0) (hv1 : 0 ≤ c.first) (hv2 : c.first ≤ 6) (h3 : 0 ≤ day) (h4 : day ≤ 100000) (h5 : 0 ≤ days) (h6 : days ≤ 4000) :
    Gives Try.prog 65 #[v, .int .i64 day, .int .i64 days] w (.int .i64 (endsF c day days)) := by
  obtain ⟨fa, fc, sa, sc, rfl, hf, hs, hfc, hsc, hfl, hsl⟩ := h.cells
  have HCal := Lib.hid h
  obtain ⟨M, hM, _, hMp⟩ := ends_some hv h3 h5 h6
  have HM := Lib.hid hMp
  clear h hf hs hv hMp
  unfold Gives
  go_enter Try.func65, Try.ntmps65
  go_wp2
  obtain ⟨W0, hW0, HW0⟩ : ∃ W0, Below w.heap.size w W0 ∧ Hid (W0.cell? ⟨w.heap.size, 0, none⟩ = some (.int .i64 c.first) ∧ W0.cell? ⟨w.heap.size, 1, none⟩ = some (.slice fa c.free.length fc) ∧ W0.cell? ⟨w.heap.size, 2, none⟩ = some (.slice sa c.still.length sc) ∧ w.heap.size < W0.heap.size ∧
      W0 = w.alloc (.cells #[.int .i64 c.first, .slice fa c.free.length fc, .slice sa c.still.length sc] 25)) :=
    ⟨_, below_new (Below.refl _ w) _, by unfold Hid; exact ⟨by simp, by simp, by simp, by simp, rfl⟩⟩
  obtain ⟨hk0, hk1, hk2, hk3, hk4⟩ := HW0.out
  clear HW0
  rw [← hk4]
  clear hk4
  go_loopw [1, 7] (fun d n wr => ∃ k : Nat, k ≤ M ∧ d = .int .i64 (day + k) ∧ n = .int .i64 (cnt (fun y => !(stillB c y)) (day + 1) k) ∧ Hid (∀ i : Nat, i < k → endB c day days (day + i) = false) ∧ Below W0.heap.size W0 wr) (fun d _ _ => 200000 - (intOf d).toNat)
  case atStart => exact ⟨0, Nat.zero_le _, by simp, by simp [cnt], fun i hi => absurd hi (by omega), Below.refl _ _⟩
  case round =>
    obtain ⟨k, hk, rfl, rfl, HNo, hb⟩ := hrel
    have hb0 : Below w.heap.size w wr := below_tail hb hW0
    have f0 := (hb.cell (p := ⟨w.heap.size, 0, none⟩) hk3).trans hk0
    have f1 := (hb.cell (p := ⟨w.heap.size, 1, none⟩) hk3).trans hk1
    have f2 := (hb.cell (p := ⟨w.heap.size, 2, none⟩) hk3).trans hk2
    have hlt : w.heap.size < wr.heap.size := Nat.lt_of_lt_of_le hk3 hb.size
    have hE := Lib.hid (rendB_at c day days k)
    obtain ⟨q, hq⟩ : ∃ q, cnt (fun y => !(stillB c y)) (day + 1) k = q := ⟨_, rfl⟩
    have hc0 := cnt_nonneg (fun y => !(stillB c y)) (day + 1) k
    have hc1 := cnt_le (fun y => !(stillB c y)) (day + 1) k
    rw [hq] at hc0 hc1 ⊢
    have HQ := Lib.hid hq
    clear hq
    have hkM : Hid (endB c day days (day + k) = false → k + 1 ≤ M) := fun hF => by
      have : k ≠ M := fun e => by have := HM.out; rw [← e, hF] at this; cases this
      omega
    have hsucc : Hid (cnt (fun y => !(stillB c y)) (day + 1) (k + 1) = q + if stillB c (day + k + 1) then 0 else 1) := by
      unfold Hid
      rw [cnt, HQ.out, show day + 1 + (k : Int) = day + k + 1 by omega]
      cases stillB c (day + k + 1) <;> rfl
    by_cases hL : q < days
    · -- a day that is needed: it goes on
      have hLb : decide (q < days) = true := by simpa using hL
      have hF : Hid (endB c day days (day + k) = false) := by
        unfold Hid
        rw [hE.out, HQ.out]
        have : decide (days ≤ q) = false := by simp; omega
        rw [this]; rfl
      cases hS : stillB c (day + k + 1)
      · go_wp2_with (go_at_call 64; (with_reducible refine (rstill_calls _ c (day + k + 1) _ (HCal.out.below (by (repeat' (first | exact Below.refl _ _ | assumption | refine below_new ?_ _ | refine below_draw ?_ | refine below_tail (by assumption) ?_ | refine below_set ?_ (by first | omega | (simp <;> omega)) _))))).use ?_); intro w1 hb1 hz1 hc1 hf1)
        go_roundw
        case rel => exact ⟨k + 1, hkM.out hF.out, by go_num, by rw [hsucc.out, hS]; rfl, fun i hi => (Nat.lt_succ_iff_lt_or_eq.1 hi).elim (HNo.out i) (fun e => e ▸ hF.out), by (repeat' (first | exact Below.refl _ _ | assumption | refine below_new ?_ _ | refine below_draw ?_ | refine below_tail (by assumption) ?_ | refine below_set ?_ (by first | omega | (simp <;> omega)) _))⟩
        case measure => simp [intOf]; omega
      · go_wp2_with (go_at_call 64; (with_reducible refine (rstill_calls _ c (day + k + 1) _ (HCal.out.below (by (repeat' (first | exact Below.refl _ _ | assumption | refine below_new ?_ _ | refine below_draw ?_ | refine below_tail (by assumption) ?_ | refine below_set ?_ (by first | omega | (simp <;> omega)) _))))).use ?_); intro w1 hb1 hz1 hc1 hf1)
        go_roundw
        case rel => exact ⟨k + 1, hkM.out hF.out, by go_num, by rw [hsucc.out, hS]; simp, fun i hi => (Nat.lt_succ_iff_lt_or_eq.1 hi).elim (HNo.out i) (fun e => e ▸ hF.out), by (repeat' (first | exact Below.refl _ _ | assumption | refine below_new ?_ _ | refine below_draw ?_ | refine below_tail (by assumption) ?_ | refine below_set ?_ (by first | omega | (simp <;> omega)) _))⟩
        case measure => simp [intOf]; omega
    · have hLb : decide (q < days) = false := by simpa using hL
      have hle : decide (days ≤ q) = true := by simp; omega
      cases hx : freeB c (day + k)
      · have hT : endB c day days (day + k) = true := by rw [hE.out, HQ.out, hle, hx]; rfl
        have hfd : Hid (endsF c day days = day + k) := firstDay_eq k 20000 day HNo.out hT (by omega)
        go_wp2_with (go_at_call 63; (with_reducible refine (rfree_calls _ c (day + k) _ (HCal.out.below (by (repeat' (first | exact Below.refl _ _ | assumption | refine below_new ?_ _ | refine below_draw ?_ | refine below_tail (by assumption) ?_ | refine below_set ?_ (by first | omega | (simp <;> omega)) _)))) hv1 hv2 (by omega) (by omega)).use ?_); intro w1 hb1 hz1 hc1 hf1; (try simp at hz1); have hy1 : w.heap.size < w1.heap.size := (by omega); have hx1 := fun o => hc1 w.heap.size o (by first | omega | (simp <;> omega)))
        go_ret
        exact ⟨ret_int (by rw [hfd.out]), by (repeat' (first | exact Below.refl _ _ | assumption | refine below_new ?_ _ | refine below_draw ?_ | refine below_tail (by assumption) ?_ | refine below_set ?_ (by first | omega | (simp <;> omega)) _))⟩
      · have hF : Hid (endB c day days (day + k) = false) := by unfold Hid; rw [hE.out, hx]; simp
        cases hS : stillB c (day + k + 1)
        · go_wp2_with (first | (go_at_call 63; (with_reducible refine (rfree_calls _ c (day + k) _ (HCal.out.below (by (repeat' (first | exact Below.refl _ _ | assumption | refine below_new ?_ _ | refine below_draw ?_ | refine below_tail (by assumption) ?_ | refine below_set ?_ (by first | omega | (simp <;> omega)) _)))) hv1 hv2 (by omega) (by omega)).use ?_); intro w1 hb1 hz1 hc1 hf1; (try simp at hz1); have hy1 : w.heap.size < w1.heap.size := (by omega); have hx1 := fun o => hc1 w.heap.size o (by first | omega | (simp <;> omega))) | (go_at_call 64; (with_reducible refine (rstill_calls _ c (day + k + 1) _ (HCal.out.below (by (repeat' (first | exact Below.refl _ _ | assumption | refine below_new ?_ _ | refine below_draw ?_ | refine below_tail (by assumption) ?_ | refine below_set ?_ (by first | omega | (simp <;> omega)) _))))).use ?_); intro w2 hb2 hz2 hc2 hf2))
          go_roundw
          case rel => exact ⟨k + 1, hkM.out hF.out, by go_num, by rw [hsucc.out, hS]; rfl, fun i hi => (Nat.lt_succ_iff_lt_or_eq.1 hi).elim (HNo.out i) (fun e => e ▸ hF.out), by (repeat' (first | exact Below.refl _ _ | assumption | refine below_new ?_ _ | refine below_draw ?_ | refine below_tail (by assumption) ?_ | refine below_set ?_ (by first | omega | (simp <;> omega)) _))⟩
          case measure => simp [intOf]; omega
        · go_wp2_with (first | (go_at_call 63; (with_reducible refine (rfree_calls _ c (day + k) _ (HCal.out.below (by (repeat' (first | exact Below.refl _ _ | assumption | refine below_new ?_ _ | refine below_draw ?_ | refine below_tail (by assumption) ?_ | refine below_set ?_ (by first | omega | (simp <;> omega)) _)))) hv1 hv2 (by omega) (by omega)).use ?_); intro w1 hb1 hz1 hc1 hf1; (try simp at hz1); have hy1 : w.heap.size < w1.heap.size := (by omega); have hx1 := fun o => hc1 w.heap.size o (by first | omega | (simp <;> omega))) | (go_at_call 64; (with_reducible refine (rstill_calls _ c (day + k + 1) _ (HCal.out.below (by (repeat' (first | exact Below.refl _ _ | assumption | refine below_new ?_ _ | refine below_draw ?_ | refine below_tail (by assumption) ?_ | refine below_set ?_ (by first | omega | (simp <;> omega)) _))))).use ?_); intro w2 hb2 hz2 hc2 hf2))
          go_roundw
          case rel => exact ⟨k + 1, hkM.out hF.out, by go_num, by rw [hsucc.out, hS]; simp, fun i hi => (Nat.lt_succ_iff_lt_or_eq.1 hi).elim (HNo.out i) (fun e => e ▸ hF.out), by (repeat' (first | exact Below.refl _ _ | assumption | refine below_new ?_ _ | refine below_draw ?_ | refine below_tail (by assumption) ?_ | refine below_set ?_ (by first | omega | (simp <;> omega)) _))⟩
          case measure => simp [intOf]; omega
end Go.Proofs.Ytnhohnnoffhkhaa
