/- What Before, Work, Counting and AddWork of package term give. Conditions: a calendar lies in memory as said. -/
import Derived.Test.YtnhohnnoffhkhaaTermRef3
namespace Go.Proofs.Ytnhohnnoffhkhaa
open Go.RowKit

set_option maxHeartbeats 2000000 in
set_option maxRecDepth 100000 in
theorem Before_calls (v : Value) (c : Cal) (d : Int) (w : World) (h : CalAt w v c) :
    Gives Try.prog 32 #[v, .int .i64 d] w (.tuple #[.int .i64 (beforeV c d), .bool (beforeI c d), .int .i64 (askedF c [d] [])]) := by
  obtain ⟨fa, fc, sa, sc, rfl, hf, hs, hfc, hsc, hfl, hsl⟩ := h.cells
  have HCal := Lib.hid h
  clear h hf hs
  unfold Gives
  have HV0 : Hid (beforeV c d = (beforeR c d).getD 0) := rfl
  have HI0 : Hid (beforeI c d = (beforeR c d).isSome) := rfl
  have HR0 : Hid (beforeR c d = if askedF c [d] [] = 0 then beforeF c d else none) := rfl
  by_cases hz : askedF c [d] [] = 0
  · have Hz := Lib.hid hz
    have hz1 : (askedF c [d] [] == 0) = true := by simpa using hz
    have hz2 : (askedF c [d] [] != 0) = false := by simpa using hz
    obtain ⟨hv, hd1, hd2⟩ := asked_day hz
    obtain ⟨hv1, hv2⟩ := valid_first hv
    have HV := Lib.hid hv
    clear hv hz
    go_enter Try.func32, Try.ntmps32
    go_wp2_with (first | (go_at_call 40; refine (validate_calls _ c _ (HCal.out.below (by (repeat' (first | exact Below.refl _ _ | assumption | refine below_new ?_ _ | refine below_draw ?_ | refine below_tail (by assumption) ?_ | refine below_set ?_ (by first | omega | (simp <;> omega)) _))))).use ?_; intro w1 hb1 hz1 hc1 hf1; (try simp at hz1); have hy1 : w.heap.size < w1.heap.size := (by omega); have hx1 := fun o => hc1 w.heap.size o (by first | omega | (simp <;> omega))) | (go_at_call 73; refine (areDays_calls _ [d] _ (ints1 (by simp))).use ?_; intro w2 hb2 hz2 hc2 hf2; (try simp at hz2); have hy2 : w.heap.size < w2.heap.size := (by omega); have hx2 := fun o => hc2 w.heap.size o (by first | omega | (simp <;> omega))) | (go_at_call 72; refine (or_is _ [validF c, daysF [d]] (askedF c [d] []) _ (ints2 (by simp)) (by rw [orFrom_2, askedF_days])).mono ?_; rintro e w' ⟨rfl, rfl⟩))
    obtain ⟨W0, hw0, HW0⟩ : ∃ W0, Below w.heap.size w W0 ∧ Hid (W0.cell? ⟨w.heap.size, 0, none⟩ = some (.int .i64 c.first) ∧ W0.cell? ⟨w.heap.size, 1, none⟩ = some (.slice fa c.free.length fc) ∧ W0.cell? ⟨w.heap.size, 2, none⟩ = some (.slice sa c.still.length sc) ∧ w.heap.size < W0.heap.size ∧
        W0 = w2.alloc (.cells #[.int .i64 (validF c), .int .i64 (daysF [d])] 30)) :=
      ⟨w2.alloc (.cells #[.int .i64 (validF c), .int .i64 (daysF [d])] 30), by (repeat' (first | exact Below.refl _ _ | assumption | refine below_new ?_ _ | refine below_draw ?_ | refine below_tail (by assumption) ?_ | refine below_set ?_ (by first | omega | (simp <;> omega)) _)), by unfold Hid; exact ⟨((below_new (Below.refl _ w2) _).cell (p := ⟨w.heap.size, 0, none⟩) hy2).trans ((hx2 0).trans (((below_new (Below.refl _ w1) _).cell (p := ⟨w.heap.size, 0, none⟩) hy1).trans ((hx1 0).trans (by simp)))), ((below_new (Below.refl _ w2) _).cell (p := ⟨w.heap.size, 1, none⟩) hy2).trans ((hx2 1).trans (((below_new (Below.refl _ w1) _).cell (p := ⟨w.heap.size, 1, none⟩) hy1).trans ((hx1 1).trans (by simp)))), ((below_new (Below.refl _ w2) _).cell (p := ⟨w.heap.size, 2, none⟩) hy2).trans ((hx2 2).trans (((below_new (Below.refl _ w1) _).cell (p := ⟨w.heap.size, 2, none⟩) hy1).trans ((hx1 2).trans (by simp)))), by simp; omega, rfl⟩⟩
    obtain ⟨e0, e1, e2, hyW, hk4⟩ := HW0.out
    clear HW0
    rw [← hk4]
    clear hk4
    go_loopw [8] (fun dd wr => ∃ e : Int, -1 ≤ e ∧ e ≤ d ∧ dd = .int .i64 e ∧ Hid (beforeF c d = lastDay (fun x => !(freeB c x)) (e + 1).toNat e) ∧ Below W0.heap.size W0 wr) (fun dd _ => (intOf dd + 1).toNat)
    case atStart => exact ⟨d, by omega, Int.le_refl _, rfl, rfl, Below.refl _ _⟩
    case round =>
      obtain ⟨e, he, hed, rfl, HB, hb⟩ := hrel
      have hb0 : Below w.heap.size w wr := below_tail hb hw0
      have f0 := (hb.cell (p := ⟨w.heap.size, 0, none⟩) hyW).trans e0
      have f1 := (hb.cell (p := ⟨w.heap.size, 1, none⟩) hyW).trans e1
      have f2 := (hb.cell (p := ⟨w.heap.size, 2, none⟩) hyW).trans e2
      have hy2 : w.heap.size < wr.heap.size := Nat.lt_of_lt_of_le hyW hb.size
      by_cases hlt : 0 ≤ e
      · have hg : decide (0 ≤ e) = true := by simpa using hlt
        have hs : Hid (beforeF c d = if (!(freeB c e)) = true then some e else lastDay (fun x => !(freeB c x)) (e - 1 + 1).toNat (e - 1)) := by
          unfold Hid
          rw [HB.out, show (e + 1).toNat = (e - 1 + 1).toNat + 1 by omega, lastDay]
        cases hx : freeB c e
        · have HQ : Hid (beforeR c d = some e) := by unfold Hid; rw [HR0.out, if_pos Hz.out, hs.out, hx]; rfl
          go_wp2_with (go_at_call 76; (with_reducible refine (isFree_calls _ c (e) _ (HCal.out.below (by (repeat' (first | exact Below.refl _ _ | assumption | refine below_new ?_ _ | refine below_draw ?_ | refine below_tail (by assumption) ?_ | refine below_set ?_ (by first | omega | (simp <;> omega)) _)))) hv1 hv2 (by omega) (by omega)).use ?_); intro w3 hb3 hz3 hc3 hf3; (try simp at hz3); have hy3 : w.heap.size < w3.heap.size := (by omega); have hx3 := fun o => hc3 w.heap.size o (by first | omega | (simp <;> omega)))
          go_ret3
          exact ⟨by rw [HV0.out, HI0.out, HQ.out, Hz.out]; rfl, by (repeat' (first | exact Below.refl _ _ | assumption | refine below_new ?_ _ | refine below_draw ?_ | refine below_tail (by assumption) ?_ | refine below_set ?_ (by first | omega | (simp <;> omega)) _))⟩
        · go_wp2_with (go_at_call 76; (with_reducible refine (isFree_calls _ c (e) _ (HCal.out.below (by (repeat' (first | exact Below.refl _ _ | assumption | refine below_new ?_ _ | refine below_draw ?_ | refine below_tail (by assumption) ?_ | refine below_set ?_ (by first | omega | (simp <;> omega)) _)))) hv1 hv2 (by omega) (by omega)).use ?_); intro w3 hb3 hz3 hc3 hf3; (try simp at hz3); have hy3 : w.heap.size < w3.heap.size := (by omega); have hx3 := fun o => hc3 w.heap.size o (by first | omega | (simp <;> omega)))
          go_roundw
          case rel => exact ⟨e - 1, by omega, by omega, by go_num, by unfold Hid; rw [hs.out, hx]; rfl, by (repeat' (first | exact Below.refl _ _ | assumption | refine below_new ?_ _ | refine below_draw ?_ | refine below_tail (by assumption) ?_ | refine below_set ?_ (by first | omega | (simp <;> omega)) _))⟩
          case measure => simp [intOf]; omega
      · have hg : decide (0 ≤ e) = false := by simpa using hlt
        have HQ : Hid (beforeR c d = none) := by
          unfold Hid; rw [HR0.out, if_pos Hz.out, HB.out, show (e + 1).toNat = 0 by omega]; rfl
        go_wp2
        go_ret3
        exact ⟨by rw [HV0.out, HI0.out, HQ.out, Hz.out]; rfl, by (repeat' (first | exact Below.refl _ _ | assumption | refine below_new ?_ _ | refine below_draw ?_ | refine below_tail (by assumption) ?_ | refine below_set ?_ (by first | omega | (simp <;> omega)) _))⟩
  · have Hz := Lib.hid hz
    have hz1 : (askedF c [d] [] == 0) = false := by simpa using hz
    have hz2 : (askedF c [d] [] != 0) = true := by simpa using hz
    clear hz
    go_enter Try.func32, Try.ntmps32
    go_wp2_with (first | (go_at_call 40; refine (validate_calls _ c _ (HCal.out.below (by (repeat' (first | exact Below.refl _ _ | assumption | refine below_new ?_ _ | refine below_draw ?_ | refine below_tail (by assumption) ?_ | refine below_set ?_ (by first | omega | (simp <;> omega)) _))))).use ?_; intro w1 hb1 hz1 hc1 hf1; (try simp at hz1); have hy1 : w.heap.size < w1.heap.size := (by omega); have hx1 := fun o => hc1 w.heap.size o (by first | omega | (simp <;> omega))) | (go_at_call 73; refine (areDays_calls _ [d] _ (ints1 (by simp))).use ?_; intro w2 hb2 hz2 hc2 hf2; (try simp at hz2); have hy2 : w.heap.size < w2.heap.size := (by omega); have hx2 := fun o => hc2 w.heap.size o (by first | omega | (simp <;> omega))) | (go_at_call 72; refine (or_is _ [validF c, daysF [d]] (askedF c [d] []) _ (ints2 (by simp)) (by rw [orFrom_2, askedF_days])).mono ?_; rintro e w' ⟨rfl, rfl⟩))
    go_ret3
    exact ⟨by rw [HV0.out, HI0.out, HR0.out, if_neg Hz.out]; rfl, by (repeat' (first | exact Below.refl _ _ | assumption | refine below_new ?_ _ | refine below_draw ?_ | refine below_tail (by assumption) ?_ | refine below_set ?_ (by first | omega | (simp <;> omega)) _))⟩

set_option maxHeartbeats 400000 in
theorem Work_is (b : Nat) (c : Cal) (x : Int) (w : World) (fa : Option Addr) (fc : Nat) (sa : Option Addr) (sc : Nat) (h : CalAt w (.agg #[.int .i64 c.first, .slice fa c.free.length fc, .slice sa c.still.length sc]) c) (h1 : 0 ≤ c.first) (h2 : c.first ≤ 6) (h3 : 0 ≤ x) (h4 : x ≤ 10000)
    (e0 : w.cell? ⟨b, 0, none⟩ = some (.int .i64 c.first)) (e1 : w.cell? ⟨b, 1, none⟩ = some (.slice fa c.free.length fc)) (e2 : w.cell? ⟨b, 2, none⟩ = some (.slice sa c.still.length sc)) :
    Gives Try.prog 85 #[.int .i64 x, .pointer (some ⟨b, 0, none⟩)] w (.bool (!(freeB c x))) := by
  have HCal := Lib.hid h
  clear h
  unfold Gives
  go_enter Try.func85, Try.ntmps85
  go_wp2_with (go_at_call 76; (with_reducible refine (isFree_calls _ c x _ (HCal.out.below (by (repeat' (first | exact Below.refl _ _ | assumption | refine below_new ?_ _ | refine below_draw ?_ | refine below_tail (by assumption) ?_ | refine below_set ?_ (by first | omega | (simp <;> omega)) _)))) h1 h2 h3 (by omega)).use ?_); intro w1 hb1 hz1 hc1 hf1)
  go_ret
  exact ⟨rfl, by (repeat' (first | exact Below.refl _ _ | assumption | refine below_new ?_ _ | refine below_draw ?_ | refine below_tail (by assumption) ?_ | refine below_set ?_ (by first | omega | (simp <;> omega)) _))⟩

set_option maxHeartbeats 400000 in
theorem Counting_is (b : Nat) (c : Cal) (x : Int) (w : World) (fa : Option Addr) (fc : Nat) (sa : Option Addr) (sc : Nat) (h : CalAt w (.agg #[.int .i64 c.first, .slice fa c.free.length fc, .slice sa c.still.length sc]) c) (h1 : 0 ≤ c.first) (h2 : c.first ≤ 6) (h3 : 0 ≤ x) (h4 : x ≤ 10000)
    (e0 : w.cell? ⟨b, 0, none⟩ = some (.int .i64 c.first)) (e1 : w.cell? ⟨b, 1, none⟩ = some (.slice fa c.free.length fc)) (e2 : w.cell? ⟨b, 2, none⟩ = some (.slice sa c.still.length sc)) :
    Gives Try.prog 79 #[.int .i64 x, .pointer (some ⟨b, 0, none⟩)] w (.bool (!(stillB c x))) := by
  have HCal := Lib.hid h
  clear h
  unfold Gives
  go_enter Try.func79, Try.ntmps79
  go_wp2_with (go_at_call 80; (with_reducible refine (isStill_calls _ c x _ (HCal.out.below (by (repeat' (first | exact Below.refl _ _ | assumption | refine below_new ?_ _ | refine below_draw ?_ | refine below_tail (by assumption) ?_ | refine below_set ?_ (by first | omega | (simp <;> omega)) _))))).use ?_); intro w1 hb1 hz1 hc1 hf1)
  go_ret
  exact ⟨rfl, by (repeat' (first | exact Below.refl _ _ | assumption | refine below_new ?_ _ | refine below_draw ?_ | refine below_tail (by assumption) ?_ | refine below_set ?_ (by first | omega | (simp <;> omega)) _))⟩

end Go.Proofs.Ytnhohnnoffhkhaa
