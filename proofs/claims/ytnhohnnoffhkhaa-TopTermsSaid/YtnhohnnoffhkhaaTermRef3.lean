/- What Next, Before, Work, Counting and AddWork give, in the reference; conditions: a calendar lies in memory as said. -/
import Derived.Test.YtnhohnnoffhkhaaTermEx
import Derived.Test.YtnhohnnoffhkhaaTermRef2
namespace Go.Proofs.Ytnhohnnoffhkhaa
open Go.RowKit

theorem nextF_at {c : Cal} (h : validF c = 0) {d : Int} (h0 : 0 ≤ d) {k : Nat} (hno : ∀ i : Nat, i < k → (!(freeB c (d + i))) = false) (hp : (!(freeB c (d + k))) = true) : nextF c d = d + k :=
  (nextF_first h h0).unique ⟨by omega, hp, fun x h1 h2 => by
    have := hno (x - d).toNat (by omega)
    rwa [show d + ((x - d).toNat : Int) = x by omega] at this⟩
theorem addF_le {c : Cal} (h : validF c = 0) {d : Int} (h0 : 0 ≤ d) (h1 : d ≤ 10000) : ∀ n : Nat, d ≤ addF c n d ∧ addF c n d ≤ 10002 + 2 * n
  | 0 => by simp only [addF]; omega
  | n + 1 => by
    have := addF_le h h0 h1 n
    have h2 := nextF_le h (d := addF c n d + 1) (by omega)
    have h3 := (nextF_first h (d := addF c n d + 1) (by omega)).1
    simp only [addF]; omega
theorem addF_step {c : Cal} (h : validF c = 0) {d e : Int} {n : Nat} (h0 : 0 ≤ d) (h1 : d ≤ 10000) (he : addF c n d ≤ e) (hno : ∀ x, addF c n d < x → x ≤ e → freeB c x = true) :
    e + 1 ≤ addF c (n + 1) d ∧ (freeB c (e + 1) = false → addF c (n + 1) d = e + 1) := by
  have hd := (addF_le h h0 h1 n).1
  have hf := nextF_first h (d := addF c n d + 1) (by omega)
  simp only [addF]
  refine ⟨?_, fun hx => ?_⟩
  · rcases Int.lt_or_le e (nextF c (addF c n d + 1)) with h2 | h2
    · omega
    · have := hno _ (by have := hf.1; omega) h2
      have h3 := hf.2.1
      simp [this] at h3
  · exact hf.unique ⟨by omega, by simp [hx], fun x h2 h3 => by simp [hno x (by omega) (by omega)]⟩

set_option maxHeartbeats 2000000 in
set_option maxRecDepth 100000 in
theorem rNext_calls (v : Value) (c : Cal) (d : Int) (w : World) (h : CalAt w v c) :
    Gives Try.prog 43 #[v, .int .i64 d] w (.tuple #[.int .i64 (nextR c d), .int .i64 (askedF c [d] [])]) := by
  obtain ⟨fa, fc, sa, sc, rfl, hf, hs, hfc, hsc, hfl, hsl⟩ := h.cells
  have HCal := Lib.hid h
  clear h hf hs
  unfold Gives
  have HR0 : Hid (nextR c d = if askedF c [d] [] = 0 then nextF c d else 0) := rfl
  by_cases hz : askedF c [d] [] = 0
  · have Hz := Lib.hid hz
    have hz1 : (askedF c [d] [] == 0) = true := by simpa using hz
    have hz2 : (askedF c [d] [] != 0) = false := by simpa using hz
    obtain ⟨hv, hd1, hd2⟩ := asked_day hz
    obtain ⟨hv1, hv2⟩ := valid_first hv
    have HV := Lib.hid hv
    obtain ⟨M, hM, _, hMp⟩ := next_some hv hd1
    have HM := Lib.hid hMp
    clear hMp
    clear hv hz
    go_enter Try.func43, Try.ntmps43
    go_wp2_with (first | (go_at_call 62; (with_reducible refine (asked_calls _ _ _ c [d] [] _ (HCal.out.below (by (repeat' (first | exact Below.refl _ _ | assumption | refine below_new ?_ _ | refine below_draw ?_ | refine below_tail (by assumption) ?_ | refine below_set ?_ (by first | omega | (simp <;> omega)) _)))) (ints1 (by simp)) (ints0 _ _ _ (by simp))).use ?_); intro w1 hb1 hz1 hc1 hf1; (try simp at hz1); have hy1 : w.heap.size < w1.heap.size := (by omega); have hx10 := fun o => hc1 (w.heap.size) o (by first | omega | (simp <;> omega)); clear hc1 hf1))
    have hw0 : Below w.heap.size w w1 := by (repeat' (first | exact Below.refl _ _ | assumption | refine below_new ?_ _ | refine below_draw ?_ | refine below_tail (by assumption) ?_ | refine below_set ?_ (by first | omega | (simp <;> omega)) _))
    have e0 : w1.cell? ⟨w.heap.size, 0, none⟩ = some (.int .i64 c.first) := by simp [hx10, go_sem]
    have e1 : w1.cell? ⟨w.heap.size, 1, none⟩ = some (.slice fa c.free.length fc) := by simp [hx10, go_sem]
    have e2 : w1.cell? ⟨w.heap.size, 2, none⟩ = some (.slice sa c.still.length sc) := by simp [hx10, go_sem]
    go_loopw [1] (fun dd wr => ∃ k : Nat, k ≤ M ∧ dd = .int .i64 (d + k) ∧ Hid (∀ i : Nat, i < k → (!(freeB c (d + i))) = false) ∧ Below w1.heap.size w1 wr) (fun dd _ => 200000 - (intOf dd).toNat)
    case atStart => exact ⟨0, Nat.zero_le _, by simp, fun i hi => absurd hi (by omega), Below.refl _ _⟩
    case round =>
      obtain ⟨k, hk, rfl, HNo, hb⟩ := hrel
      have hb0 : Below w.heap.size w wr := below_tail hb hw0
      have f0 := (hb.cell (p := ⟨w.heap.size, 0, none⟩) hy1).trans e0
      have f1 := (hb.cell (p := ⟨w.heap.size, 1, none⟩) hy1).trans e1
      have f2 := (hb.cell (p := ⟨w.heap.size, 2, none⟩) hy1).trans e2
      have hy2 : w.heap.size < wr.heap.size := Nat.lt_of_lt_of_le hy1 hb.size
      cases hx : freeB c (d + k)
      · have hfd : Hid (nextF c d = d + k) := nextF_at HV.out hd1 HNo.out (by rw [hx]; rfl)
        go_wp2_with (go_at_call 63; (with_reducible refine (rfree_calls _ c (d + k) _ (HCal.out.below (by (repeat' (first | exact Below.refl _ _ | assumption | refine below_new ?_ _ | refine below_draw ?_ | refine below_tail (by assumption) ?_ | refine below_set ?_ (by first | omega | (simp <;> omega)) _)))) hv1 hv2 (by omega) (by omega)).use ?_); intro w3 hb3 hz3 hc3 hf3; (try simp at hz3); have hy3 : w.heap.size < w3.heap.size := (by omega); have hx3 := fun o => hc3 w.heap.size o (by first | omega | (simp <;> omega)))
        go_ret2
        exact ⟨by rw [HR0.out, if_pos Hz.out, Hz.out, hfd.out]; rfl, by (repeat' (first | exact Below.refl _ _ | assumption | refine below_new ?_ _ | refine below_draw ?_ | refine below_tail (by assumption) ?_ | refine below_set ?_ (by first | omega | (simp <;> omega)) _))⟩
      · have hkM : k ≠ M := fun e => by have := HM.out; rw [← e, hx] at this; cases this
        go_wp2_with (go_at_call 63; (with_reducible refine (rfree_calls _ c (d + k) _ (HCal.out.below (by (repeat' (first | exact Below.refl _ _ | assumption | refine below_new ?_ _ | refine below_draw ?_ | refine below_tail (by assumption) ?_ | refine below_set ?_ (by first | omega | (simp <;> omega)) _)))) hv1 hv2 (by omega) (by omega)).use ?_); intro w3 hb3 hz3 hc3 hf3; (try simp at hz3); have hy3 : w.heap.size < w3.heap.size := (by omega); have hx3 := fun o => hc3 w.heap.size o (by first | omega | (simp <;> omega)))
        go_roundw
        case rel => exact ⟨k + 1, by omega, by go_num, fun i hi => (Nat.lt_succ_iff_lt_or_eq.1 hi).elim (HNo.out i) (fun e => by rw [e, hx]; rfl), by (repeat' (first | exact Below.refl _ _ | assumption | refine below_new ?_ _ | refine below_draw ?_ | refine below_tail (by assumption) ?_ | refine below_set ?_ (by first | omega | (simp <;> omega)) _))⟩
        case measure => simp [intOf]; omega
  · have Hz := Lib.hid hz
    have hz1 : (askedF c [d] [] == 0) = false := by simpa using hz
    have hz2 : (askedF c [d] [] != 0) = true := by simpa using hz
    clear hz
    go_enter Try.func43, Try.ntmps43
    go_wp2_with (first | (go_at_call 62; (with_reducible refine (asked_calls _ _ _ c [d] [] _ (HCal.out.below (by (repeat' (first | exact Below.refl _ _ | assumption | refine below_new ?_ _ | refine below_draw ?_ | refine below_tail (by assumption) ?_ | refine below_set ?_ (by first | omega | (simp <;> omega)) _)))) (ints1 (by simp)) (ints0 _ _ _ (by simp))).use ?_); intro w1 hb1 hz1 hc1 hf1; (try simp at hz1); have hy1 : w.heap.size < w1.heap.size := (by omega); have hx10 := fun o => hc1 (w.heap.size) o (by first | omega | (simp <;> omega)); clear hc1 hf1))
    go_ret2
    exact ⟨by rw [HR0.out, if_neg Hz.out]; rfl, by (repeat' (first | exact Below.refl _ _ | assumption | refine below_new ?_ _ | refine below_draw ?_ | refine below_tail (by assumption) ?_ | refine below_set ?_ (by first | omega | (simp <;> omega)) _))⟩

set_option maxHeartbeats 2000000 in
set_option maxRecDepth 100000 in
theorem rBefore_calls (v : Value) (c : Cal) (d : Int) (w : World) (h : CalAt w v c) :
    Gives Try.prog 44 #[v, .int .i64 d] w (.tuple #[.int .i64 (beforeV c d), .bool (beforeI c d), .int .i64 (askedF c [d] [])]) := by
  obtain ⟨fa, fc, sa, sc, rfl, hf, hs, hfc, hsc, hfl, hsl⟩ := h.cells
  have HCal := Lib.hid h
  clear h hf hs
  unfold Gives
  have HV0 : Hid (beforeV c d = (beforeR c d).getD 0) := rfl
  have HI0 : Hid (beforeI c d = (beforeR c d).isSome) := rfl
  have HR0 : Hid (beforeR c d = if askedF c [d] [] = 0 then beforeF c d else none) := rfl
  by_cases hz : askedF c [d] [] = 0
  · have Hz := Lib.hid hz
    have hz1 : (askedF c [d] [] == 0) = true := by simpa using hz
    have hz2 : (askedF c [d] [] != 0) = false := by simpa using hz
    obtain ⟨hv, hd1, hd2⟩ := asked_day hz
    obtain ⟨hv1, hv2⟩ := valid_first hv
    have HV := Lib.hid hv
    clear hv hz
    go_enter Try.func44, Try.ntmps44
    go_wp2_with (first | (go_at_call 62; (with_reducible refine (asked_calls _ _ _ c [d] [] _ (HCal.out.below (by (repeat' (first | exact Below.refl _ _ | assumption | refine below_new ?_ _ | refine below_draw ?_ | refine below_tail (by assumption) ?_ | refine below_set ?_ (by first | omega | (simp <;> omega)) _)))) (ints1 (by simp)) (ints0 _ _ _ (by simp))).use ?_); intro w1 hb1 hz1 hc1 hf1; (try simp at hz1); have hy1 : w.heap.size < w1.heap.size := (by omega); have hx10 := fun o => hc1 (w.heap.size) o (by first | omega | (simp <;> omega)); clear hc1 hf1))
    have hw0 : Below w.heap.size w w1 := by (repeat' (first | exact Below.refl _ _ | assumption | refine below_new ?_ _ | refine below_draw ?_ | refine below_tail (by assumption) ?_ | refine below_set ?_ (by first | omega | (simp <;> omega)) _))
    have e0 : w1.cell? ⟨w.heap.size, 0, none⟩ = some (.int .i64 c.first) := by simp [hx10, go_sem]
    have e1 : w1.cell? ⟨w.heap.size, 1, none⟩ = some (.slice fa c.free.length fc) := by simp [hx10, go_sem]
    have e2 : w1.cell? ⟨w.heap.size, 2, none⟩ = some (.slice sa c.still.length sc) := by simp [hx10, go_sem]
    go_loopw [8] (fun dd wr => ∃ e : Int, -1 ≤ e ∧ e ≤ d ∧ dd = .int .i64 e ∧ Hid (beforeF c d = lastDay (fun x => !(freeB c x)) (e + 1).toNat e) ∧ Below w1.heap.size w1 wr) (fun dd _ => (intOf dd + 1).toNat)
    case atStart => exact ⟨d, by omega, Int.le_refl _, rfl, rfl, Below.refl _ _⟩
    case round =>
      obtain ⟨e, he, hed, rfl, HB, hb⟩ := hrel
      have hb0 : Below w.heap.size w wr := below_tail hb hw0
      have f0 := (hb.cell (p := ⟨w.heap.size, 0, none⟩) hy1).trans e0
      have f1 := (hb.cell (p := ⟨w.heap.size, 1, none⟩) hy1).trans e1
      have f2 := (hb.cell (p := ⟨w.heap.size, 2, none⟩) hy1).trans e2
      have hy2 : w.heap.size < wr.heap.size := Nat.lt_of_lt_of_le hy1 hb.size
      by_cases hlt : 0 ≤ e
      · have hg : decide (0 ≤ e) = true := by simpa using hlt
        have hs : Hid (beforeF c d = if (!(freeB c e)) = true then some e else lastDay (fun x => !(freeB c x)) (e - 1 + 1).toNat (e - 1)) := by
          unfold Hid
          rw [HB.out, show (e + 1).toNat = (e - 1 + 1).toNat + 1 by omega, lastDay]
        cases hx : freeB c e
        · have HQ : Hid (beforeR c d = some e) := by unfold Hid; rw [HR0.out, if_pos Hz.out, hs.out, hx]; rfl
          go_wp2_with (go_at_call 63; (with_reducible refine (rfree_calls _ c (e) _ (HCal.out.below (by (repeat' (first | exact Below.refl _ _ | assumption | refine below_new ?_ _ | refine below_draw ?_ | refine below_tail (by assumption) ?_ | refine below_set ?_ (by first | omega | (simp <;> omega)) _)))) hv1 hv2 (by omega) (by omega)).use ?_); intro w3 hb3 hz3 hc3 hf3; (try simp at hz3); have hy3 : w.heap.size < w3.heap.size := (by omega); have hx3 := fun o => hc3 w.heap.size o (by first | omega | (simp <;> omega)))
          go_ret3
          exact ⟨by rw [HV0.out, HI0.out, HQ.out, Hz.out]; rfl, by (repeat' (first | exact Below.refl _ _ | assumption | refine below_new ?_ _ | refine below_draw ?_ | refine below_tail (by assumption) ?_ | refine below_set ?_ (by first | omega | (simp <;> omega)) _))⟩
        · go_wp2_with (go_at_call 63; (with_reducible refine (rfree_calls _ c (e) _ (HCal.out.below (by (repeat' (first | exact Below.refl _ _ | assumption | refine below_new ?_ _ | refine below_draw ?_ | refine below_tail (by assumption) ?_ | refine below_set ?_ (by first | omega | (simp <;> omega)) _)))) hv1 hv2 (by omega) (by omega)).use ?_); intro w3 hb3 hz3 hc3 hf3; (try simp at hz3); have hy3 : w.heap.size < w3.heap.size := (by omega); have hx3 := fun o => hc3 w.heap.size o (by first | omega | (simp <;> omega)))
          go_roundw
          case rel => exact ⟨e - 1, by omega, by omega, by go_num, by unfold Hid; rw [hs.out, hx]; rfl, by (repeat' (first | exact Below.refl _ _ | assumption | refine below_new ?_ _ | refine below_draw ?_ | refine below_tail (by assumption) ?_ | refine below_set ?_ (by first | omega | (simp <;> omega)) _))⟩
          case measure => simp [intOf]; omega
      · have hg : decide (0 ≤ e) = false := by simpa using hlt
        have HQ : Hid (beforeR c d = none) := by
          unfold Hid; rw [HR0.out, if_pos Hz.out, HB.out, show (e + 1).toNat = 0 by omega]; rfl
        go_wp2
        go_ret3
        exact ⟨by rw [HV0.out, HI0.out, HQ.out, Hz.out]; rfl, by (repeat' (first | exact Below.refl _ _ | assumption | refine below_new ?_ _ | refine below_draw ?_ | refine below_tail (by assumption) ?_ | refine below_set ?_ (by first | omega | (simp <;> omega)) _))⟩
  · have Hz := Lib.hid hz
    have hz1 : (askedF c [d] [] == 0) = false := by simpa using hz
    have hz2 : (askedF c [d] [] != 0) = true := by simpa using hz
    clear hz
    go_enter Try.func44, Try.ntmps44
    go_wp2_with (first | (go_at_call 62; (with_reducible refine (asked_calls _ _ _ c [d] [] _ (HCal.out.below (by (repeat' (first | exact Below.refl _ _ | assumption | refine below_new ?_ _ | refine below_draw ?_ | refine below_tail (by assumption) ?_ | refine below_set ?_ (by first | omega | (simp <;> omega)) _)))) (ints1 (by simp)) (ints0 _ _ _ (by simp))).use ?_); intro w1 hb1 hz1 hc1 hf1; (try simp at hz1); have hy1 : w.heap.size < w1.heap.size := (by omega); have hx10 := fun o => hc1 (w.heap.size) o (by first | omega | (simp <;> omega)); clear hc1 hf1))
    go_ret3
    exact ⟨by rw [HV0.out, HI0.out, HR0.out, if_neg Hz.out]; rfl, by (repeat' (first | exact Below.refl _ _ | assumption | refine below_new ?_ _ | refine below_draw ?_ | refine below_tail (by assumption) ?_ | refine below_set ?_ (by first | omega | (simp <;> omega)) _))⟩

set_option maxHeartbeats 2000000 in
set_option maxRecDepth 100000 in
theorem rWork_calls (v : Value) (c : Cal) (a b : Int) (w : World) (h : CalAt w v c) :
    Gives Try.prog 46 #[v, .int .i64 a, .int .i64 b] w (.tuple #[.int .i64 (workR c a b), .int .i64 (orderedF c a b)]) := by
  obtain ⟨fa, fc, sa, sc, rfl, hf, hs, hfc, hsc, hfl, hsl⟩ := h.cells
  have HCal := Lib.hid h
  clear h hf hs
  unfold Gives
  have HR0 : Hid (workR c a b = if orderedF c a b = 0 then workF c a b else 0) := rfl
  have HF : Hid (workF c a b = cnt (fun x => !(freeB c x)) a (b - a + 1).toNat) := rfl
  have HO : Hid (orderedF c a b = if askedF c [a, b] [] = 0 then (if b < a then 1 else 0) else askedF c [a, b] []) := rfl
  by_cases hz : askedF c [a, b] [] = 0
  · have Hz := Lib.hid hz
    have hz1 : (askedF c [a, b] [] == 0) = true := by simpa using hz
    have hz2 : (askedF c [a, b] [] != 0) = false := by simpa using hz
    obtain ⟨hv, ha1, ha2, hb1, hb2⟩ := asked_days hz
    obtain ⟨hv1, hv2⟩ := valid_first hv
    have HV := Lib.hid hv
    clear hv hz
    by_cases hab : b < a
    · have hg : decide (b < a) = true := by simpa using hab
      have HO1 : Hid (orderedF c a b = 1) := by unfold Hid; rw [HO.out, if_pos Hz.out, if_pos hab]
      go_enter Try.func46, Try.ntmps46
      go_wp2_with (first | (go_at_call 62; (with_reducible refine (asked_calls _ _ _ c [a, b] [] _ (HCal.out.below (by (repeat' (first | exact Below.refl _ _ | assumption | refine below_new ?_ _ | refine below_draw ?_ | refine below_tail (by assumption) ?_ | refine below_set ?_ (by first | omega | (simp <;> omega)) _)))) (ints2 (by simp)) (ints0 _ _ _ (by simp))).use ?_); intro w1 hb1 hz1 hc1 hf1; (try simp at hz1); have hy1 : w.heap.size < w1.heap.size := (by omega); have hx10 := fun o => hc1 (w.heap.size) o (by first | omega | (simp <;> omega)); clear hc1 hf1))
      go_ret2
      exact ⟨by rw [HR0.out, HO1.out]; rfl, by (repeat' (first | exact Below.refl _ _ | assumption | refine below_new ?_ _ | refine below_draw ?_ | refine below_tail (by assumption) ?_ | refine below_set ?_ (by first | omega | (simp <;> omega)) _))⟩
    · have hg : decide (b < a) = false := by simpa using hab
      have HO1 : Hid (orderedF c a b = 0) := by unfold Hid; rw [HO.out, if_pos Hz.out, if_neg hab]
      go_enter Try.func46, Try.ntmps46
      go_wp2_with (first | (go_at_call 62; (with_reducible refine (asked_calls _ _ _ c [a, b] [] _ (HCal.out.below (by (repeat' (first | exact Below.refl _ _ | assumption | refine below_new ?_ _ | refine below_draw ?_ | refine below_tail (by assumption) ?_ | refine below_set ?_ (by first | omega | (simp <;> omega)) _)))) (ints2 (by simp)) (ints0 _ _ _ (by simp))).use ?_); intro w1 hb1 hz1 hc1 hf1; (try simp at hz1); have hy1 : w.heap.size < w1.heap.size := (by omega); have hx10 := fun o => hc1 (w.heap.size) o (by first | omega | (simp <;> omega)); clear hc1 hf1))
      have hw0 : Below w.heap.size w w1 := by (repeat' (first | exact Below.refl _ _ | assumption | refine below_new ?_ _ | refine below_draw ?_ | refine below_tail (by assumption) ?_ | refine below_set ?_ (by first | omega | (simp <;> omega)) _))
      have e0 : w1.cell? ⟨w.heap.size, 0, none⟩ = some (.int .i64 c.first) := by simp [hx10, go_sem]
      have e1 : w1.cell? ⟨w.heap.size, 1, none⟩ = some (.slice fa c.free.length fc) := by simp [hx10, go_sem]
      have e2 : w1.cell? ⟨w.heap.size, 2, none⟩ = some (.slice sa c.still.length sc) := by simp [hx10, go_sem]
      go_loopw [9, 10] (fun n dd wr => ∃ k : Nat, a + k ≤ b + 1 ∧ n = .int .i64 (cnt (fun x => !(freeB c x)) a k) ∧ dd = .int .i64 (a + k) ∧ Below w1.heap.size w1 wr) (fun _ dd _ => (b + 1 - intOf dd).toNat)
      case atStart => exact ⟨0, by omega, by simp [cnt], by simp, Below.refl _ _⟩
      case round =>
        obtain ⟨k, hk, rfl, rfl, hb⟩ := hrel
        have hb0 : Below w.heap.size w wr := below_tail hb hw0
        have f0 := (hb.cell (p := ⟨w.heap.size, 0, none⟩) hy1).trans e0
        have f1 := (hb.cell (p := ⟨w.heap.size, 1, none⟩) hy1).trans e1
        have f2 := (hb.cell (p := ⟨w.heap.size, 2, none⟩) hy1).trans e2
        have hy2 : w.heap.size < wr.heap.size := Nat.lt_of_lt_of_le hy1 hb.size
        have hc0 := cnt_nonneg (fun x => !(freeB c x)) a k
        have hc1 := cnt_le (fun x => !(freeB c x)) a k
        obtain ⟨q, hq⟩ : ∃ q, cnt (fun x => !(freeB c x)) a k = q := ⟨_, rfl⟩
        rw [hq] at hc0 hc1 ⊢
        have HQ := Lib.hid hq
        clear hq
        by_cases hlt : a + k ≤ b
        · have hg2 : decide (a + (k : Int) ≤ b) = true := by simpa using hlt
          have hsucc : Hid (cnt (fun x => !(freeB c x)) a (k + 1) = q + if freeB c (a + k) then 0 else 1) := by
            unfold Hid
            rw [cnt, HQ.out]
            cases freeB c (a + k) <;> rfl
          cases hx : freeB c (a + k)
          · go_wp2_with (go_at_call 63; (with_reducible refine (rfree_calls _ c (a + k) _ (HCal.out.below (by (repeat' (first | exact Below.refl _ _ | assumption | refine below_new ?_ _ | refine below_draw ?_ | refine below_tail (by assumption) ?_ | refine below_set ?_ (by first | omega | (simp <;> omega)) _)))) hv1 hv2 (by omega) (by omega)).use ?_); intro w3 hb3 hz3 hc3 hf3; (try simp at hz3); have hy3 : w.heap.size < w3.heap.size := (by omega); have hx3 := fun o => hc3 w.heap.size o (by first | omega | (simp <;> omega)))
            go_roundw
            case rel => exact ⟨k + 1, by omega, by rw [hsucc.out, hx]; rfl, by go_num, by (repeat' (first | exact Below.refl _ _ | assumption | refine below_new ?_ _ | refine below_draw ?_ | refine below_tail (by assumption) ?_ | refine below_set ?_ (by first | omega | (simp <;> omega)) _))⟩
            case measure => simp [intOf]; omega
          · go_wp2_with (go_at_call 63; (with_reducible refine (rfree_calls _ c (a + k) _ (HCal.out.below (by (repeat' (first | exact Below.refl _ _ | assumption | refine below_new ?_ _ | refine below_draw ?_ | refine below_tail (by assumption) ?_ | refine below_set ?_ (by first | omega | (simp <;> omega)) _)))) hv1 hv2 (by omega) (by omega)).use ?_); intro w3 hb3 hz3 hc3 hf3; (try simp at hz3); have hy3 : w.heap.size < w3.heap.size := (by omega); have hx3 := fun o => hc3 w.heap.size o (by first | omega | (simp <;> omega)))
            go_roundw
            case rel => exact ⟨k + 1, by omega, by rw [hsucc.out, hx]; simp, by go_num, by (repeat' (first | exact Below.refl _ _ | assumption | refine below_new ?_ _ | refine below_draw ?_ | refine below_tail (by assumption) ?_ | refine below_set ?_ (by first | omega | (simp <;> omega)) _))⟩
            case measure => simp [intOf]; omega
        · have hg2 : decide (a + (k : Int) ≤ b) = false := by simpa using hlt
          have hk2 : (b - a + 1).toNat = k := by omega
          go_wp2
          go_ret2
          exact ⟨by rw [HR0.out, if_pos HO1.out, HF.out, hk2, HQ.out, HO1.out]; rfl, by (repeat' (first | exact Below.refl _ _ | assumption | refine below_new ?_ _ | refine below_draw ?_ | refine below_tail (by assumption) ?_ | refine below_set ?_ (by first | omega | (simp <;> omega)) _))⟩
  · have HO1 : Hid (orderedF c a b = askedF c [a, b] []) := by unfold Hid; rw [HO.out, if_neg hz]
    have Hz := Lib.hid hz
    have hz1 : (askedF c [a, b] [] == 0) = false := by simpa using hz
    have hz2 : (askedF c [a, b] [] != 0) = true := by simpa using hz
    clear hz
    go_enter Try.func46, Try.ntmps46
    go_wp2_with (first | (go_at_call 62; (with_reducible refine (asked_calls _ _ _ c [a, b] [] _ (HCal.out.below (by (repeat' (first | exact Below.refl _ _ | assumption | refine below_new ?_ _ | refine below_draw ?_ | refine below_tail (by assumption) ?_ | refine below_set ?_ (by first | omega | (simp <;> omega)) _)))) (ints2 (by simp)) (ints0 _ _ _ (by simp))).use ?_); intro w1 hb1 hz1 hc1 hf1; (try simp at hz1); have hy1 : w.heap.size < w1.heap.size := (by omega); have hx10 := fun o => hc1 (w.heap.size) o (by first | omega | (simp <;> omega)); clear hc1 hf1))
    go_ret2
    exact ⟨by rw [HR0.out, HO1.out, if_neg Hz.out]; rfl, by (repeat' (first | exact Below.refl _ _ | assumption | refine below_new ?_ _ | refine below_draw ?_ | refine below_tail (by assumption) ?_ | refine below_set ?_ (by first | omega | (simp <;> omega)) _))⟩

set_option maxHeartbeats 2000000 in
set_option maxRecDepth 100000 in
theorem rCounting_calls (v : Value) (c : Cal) (a b : Int) (w : World) (h : CalAt w v c) :
    Gives Try.prog 47 #[v, .int .i64 a, .int .i64 b] w (.tuple #[.int .i64 (countR c a b), .int .i64 (orderedF c a b)]) := by
  obtain ⟨fa, fc, sa, sc, rfl, hf, hs, hfc, hsc, hfl, hsl⟩ := h.cells
  have HCal := Lib.hid h
  clear h hf hs
  unfold Gives
  have HR0 : Hid (countR c a b = if orderedF c a b = 0 then countF c a b else 0) := rfl
  have HF : Hid (countF c a b = cnt (fun x => !(stillB c x)) a (b - a + 1).toNat) := rfl
  have HO : Hid (orderedF c a b = if askedF c [a, b] [] = 0 then (if b < a then 1 else 0) else askedF c [a, b] []) := rfl
  by_cases hz : askedF c [a, b] [] = 0
  · have Hz := Lib.hid hz
    have hz1 : (askedF c [a, b] [] == 0) = true := by simpa using hz
    have hz2 : (askedF c [a, b] [] != 0) = false := by simpa using hz
    obtain ⟨hv, ha1, ha2, hb1, hb2⟩ := asked_days hz
    obtain ⟨hv1, hv2⟩ := valid_first hv
    have HV := Lib.hid hv
    clear hv hz
    by_cases hab : b < a
    · have hg : decide (b < a) = true := by simpa using hab
      have HO1 : Hid (orderedF c a b = 1) := by unfold Hid; rw [HO.out, if_pos Hz.out, if_pos hab]
      go_enter Try.func47, Try.ntmps47
      go_wp2_with (first | (go_at_call 62; (with_reducible refine (asked_calls _ _ _ c [a, b] [] _ (HCal.out.below (by (repeat' (first | exact Below.refl _ _ | assumption | refine below_new ?_ _ | refine below_draw ?_ | refine below_tail (by assumption) ?_ | refine below_set ?_ (by first | omega | (simp <;> omega)) _)))) (ints2 (by simp)) (ints0 _ _ _ (by simp))).use ?_); intro w1 hb1 hz1 hc1 hf1; (try simp at hz1); have hy1 : w.heap.size < w1.heap.size := (by omega); have hx10 := fun o => hc1 (w.heap.size) o (by first | omega | (simp <;> omega)); clear hc1 hf1))
      go_ret2
      exact ⟨by rw [HR0.out, HO1.out]; rfl, by (repeat' (first | exact Below.refl _ _ | assumption | refine below_new ?_ _ | refine below_draw ?_ | refine below_tail (by assumption) ?_ | refine below_set ?_ (by first | omega | (simp <;> omega)) _))⟩
    · have hg : decide (b < a) = false := by simpa using hab
      have HO1 : Hid (orderedF c a b = 0) := by unfold Hid; rw [HO.out, if_pos Hz.out, if_neg hab]
      go_enter Try.func47, Try.ntmps47
      go_wp2_with (first | (go_at_call 62; (with_reducible refine (asked_calls _ _ _ c [a, b] [] _ (HCal.out.below (by (repeat' (first | exact Below.refl _ _ | assumption | refine below_new ?_ _ | refine below_draw ?_ | refine below_tail (by assumption) ?_ | refine below_set ?_ (by first | omega | (simp <;> omega)) _)))) (ints2 (by simp)) (ints0 _ _ _ (by simp))).use ?_); intro w1 hb1 hz1 hc1 hf1; (try simp at hz1); have hy1 : w.heap.size < w1.heap.size := (by omega); have hx10 := fun o => hc1 (w.heap.size) o (by first | omega | (simp <;> omega)); clear hc1 hf1))
      have hw0 : Below w.heap.size w w1 := by (repeat' (first | exact Below.refl _ _ | assumption | refine below_new ?_ _ | refine below_draw ?_ | refine below_tail (by assumption) ?_ | refine below_set ?_ (by first | omega | (simp <;> omega)) _))
      have e0 : w1.cell? ⟨w.heap.size, 0, none⟩ = some (.int .i64 c.first) := by simp [hx10, go_sem]
      have e1 : w1.cell? ⟨w.heap.size, 1, none⟩ = some (.slice fa c.free.length fc) := by simp [hx10, go_sem]
      have e2 : w1.cell? ⟨w.heap.size, 2, none⟩ = some (.slice sa c.still.length sc) := by simp [hx10, go_sem]
      go_loopw [9, 10] (fun n dd wr => ∃ k : Nat, a + k ≤ b + 1 ∧ n = .int .i64 (cnt (fun x => !(stillB c x)) a k) ∧ dd = .int .i64 (a + k) ∧ Below w1.heap.size w1 wr) (fun _ dd _ => (b + 1 - intOf dd).toNat)
      case atStart => exact ⟨0, by omega, by simp [cnt], by simp, Below.refl _ _⟩
      case round =>
        obtain ⟨k, hk, rfl, rfl, hb⟩ := hrel
        have hb0 : Below w.heap.size w wr := below_tail hb hw0
        have f0 := (hb.cell (p := ⟨w.heap.size, 0, none⟩) hy1).trans e0
        have f1 := (hb.cell (p := ⟨w.heap.size, 1, none⟩) hy1).trans e1
        have f2 := (hb.cell (p := ⟨w.heap.size, 2, none⟩) hy1).trans e2
        have hy2 : w.heap.size < wr.heap.size := Nat.lt_of_lt_of_le hy1 hb.size
        have hc0 := cnt_nonneg (fun x => !(stillB c x)) a k
        have hc1 := cnt_le (fun x => !(stillB c x)) a k
        obtain ⟨q, hq⟩ : ∃ q, cnt (fun x => !(stillB c x)) a k = q := ⟨_, rfl⟩
        rw [hq] at hc0 hc1 ⊢
        have HQ := Lib.hid hq
        clear hq
        by_cases hlt : a + k ≤ b
        · have hg2 : decide (a + (k : Int) ≤ b) = true := by simpa using hlt
          have hsucc : Hid (cnt (fun x => !(stillB c x)) a (k + 1) = q + if stillB c (a + k) then 0 else 1) := by
            unfold Hid
            rw [cnt, HQ.out]
            cases stillB c (a + k) <;> rfl
          cases hx : stillB c (a + k)
          · go_wp2_with (go_at_call 64; (with_reducible refine (rstill_calls _ c (a + k) _ (HCal.out.below (by (repeat' (first | exact Below.refl _ _ | assumption | refine below_new ?_ _ | refine below_draw ?_ | refine below_tail (by assumption) ?_ | refine below_set ?_ (by first | omega | (simp <;> omega)) _))))).use ?_); intro w3 hb3 hz3 hc3 hf3; (try simp at hz3); have hy3 : w.heap.size < w3.heap.size := (by omega); have hx3 := fun o => hc3 w.heap.size o (by first | omega | (simp <;> omega)))
            go_roundw
            case rel => exact ⟨k + 1, by omega, by rw [hsucc.out, hx]; rfl, by go_num, by (repeat' (first | exact Below.refl _ _ | assumption | refine below_new ?_ _ | refine below_draw ?_ | refine below_tail (by assumption) ?_ | refine below_set ?_ (by first | omega | (simp <;> omega)) _))⟩
            case measure => simp [intOf]; omega
          · go_wp2_with (go_at_call 64; (with_reducible refine (rstill_calls _ c (a + k) _ (HCal.out.below (by (repeat' (first | exact Below.refl _ _ | assumption | refine below_new ?_ _ | refine below_draw ?_ | refine below_tail (by assumption) ?_ | refine below_set ?_ (by first | omega | (simp <;> omega)) _))))).use ?_); intro w3 hb3 hz3 hc3 hf3; (try simp at hz3); have hy3 : w.heap.size < w3.heap.size := (by omega); have hx3 := fun o => hc3 w.heap.size o (by first | omega | (simp <;> omega)))
            go_roundw
            case rel => exact ⟨k + 1, by omega, by rw [hsucc.out, hx]; simp, by go_num, by (repeat' (first | exact Below.refl _ _ | assumption | refine below_new ?_ _ | refine below_draw ?_ | refine below_tail (by assumption) ?_ | refine below_set ?_ (by first | omega | (simp <;> omega)) _))⟩
            case measure => simp [intOf]; omega
        · have hg2 : decide (a + (k : Int) ≤ b) = false := by simpa using hlt
          have hk2 : (b - a + 1).toNat = k := by omega
          go_wp2
          go_ret2
          exact ⟨by rw [HR0.out, if_pos HO1.out, HF.out, hk2, HQ.out, HO1.out]; rfl, by (repeat' (first | exact Below.refl _ _ | assumption | refine below_new ?_ _ | refine below_draw ?_ | refine below_tail (by assumption) ?_ | refine below_set ?_ (by first | omega | (simp <;> omega)) _))⟩
  · have HO1 : Hid (orderedF c a b = askedF c [a, b] []) := by unfold Hid; rw [HO.out, if_neg hz]
    have Hz := Lib.hid hz
    have hz1 : (askedF c [a, b] [] == 0) = false := by simpa using hz
    have hz2 : (askedF c [a, b] [] != 0) = true := by simpa using hz
    clear hz
    go_enter Try.func47, Try.ntmps47
    go_wp2_with (first | (go_at_call 62; (with_reducible refine (asked_calls _ _ _ c [a, b] [] _ (HCal.out.below (by (repeat' (first | exact Below.refl _ _ | assumption | refine below_new ?_ _ | refine below_draw ?_ | refine below_tail (by assumption) ?_ | refine below_set ?_ (by first | omega | (simp <;> omega)) _)))) (ints2 (by simp)) (ints0 _ _ _ (by simp))).use ?_); intro w1 hb1 hz1 hc1 hf1; (try simp at hz1); have hy1 : w.heap.size < w1.heap.size := (by omega); have hx10 := fun o => hc1 (w.heap.size) o (by first | omega | (simp <;> omega)); clear hc1 hf1))
    go_ret2
    exact ⟨by rw [HR0.out, HO1.out, if_neg Hz.out]; rfl, by (repeat' (first | exact Below.refl _ _ | assumption | refine below_new ?_ _ | refine below_draw ?_ | refine below_tail (by assumption) ?_ | refine below_set ?_ (by first | omega | (simp <;> omega)) _))⟩

set_option maxHeartbeats 2000000 in
set_option maxRecDepth 100000 in
theorem rAddWork_calls (v : Value) (c : Cal) (d n : Int) (w : World) (h : CalAt w v c) :
    Gives Try.prog 49 #[v, .int .i64 d, .int .i64 n] w (.tuple #[.int .i64 (addR c d n), .int .i64 (askedF c [d] [n])]) := by
  obtain ⟨fa, fc, sa, sc, rfl, hf, hs, hfc, hsc, hfl, hsl⟩ := h.cells
  have HCal := Lib.hid h
  clear h hf hs
  unfold Gives
  have HR0 : Hid (addR c d n = if askedF c [d] [n] = 0 then addF c n.toNat d else 0) := rfl
  by_cases hz : askedF c [d] [n] = 0
  · have Hz := Lib.hid hz
    have hz1 : (askedF c [d] [n] == 0) = true := by simpa using hz
    have hz2 : (askedF c [d] [n] != 0) = false := by simpa using hz
    obtain ⟨hv, hd1, hd2, hn1, hn2⟩ := asked_term hz
    obtain ⟨hv1, hv2⟩ := valid_first hv
    have HV := Lib.hid hv
    clear hv hz
    go_enter Try.func49, Try.ntmps49
    go_wp2_with (first | (go_at_call 62; (with_reducible refine (asked_calls _ _ _ c [d] [n] _ (HCal.out.below (by (repeat' (first | exact Below.refl _ _ | assumption | refine below_new ?_ _ | refine below_draw ?_ | refine below_tail (by assumption) ?_ | refine below_set ?_ (by first | omega | (simp <;> omega)) _)))) (ints1b (by simp)) (ints1 (by simp))).use ?_); intro w1 hb1 hz1 hc1 hf1; (try simp at hz1); have hy1 : w.heap.size < w1.heap.size := (by omega); have hx10 := fun o => hc1 (w.heap.size) o (by first | omega | (simp <;> omega)); clear hc1 hf1))
    have hw0 : Below w.heap.size w w1 := by (repeat' (first | exact Below.refl _ _ | assumption | refine below_new ?_ _ | refine below_draw ?_ | refine below_tail (by assumption) ?_ | refine below_set ?_ (by first | omega | (simp <;> omega)) _))
    have e0 : w1.cell? ⟨w.heap.size, 0, none⟩ = some (.int .i64 c.first) := by simp [hx10, go_sem]
    have e1 : w1.cell? ⟨w.heap.size, 1, none⟩ = some (.slice fa c.free.length fc) := by simp [hx10, go_sem]
    have e2 : w1.cell? ⟨w.heap.size, 2, none⟩ = some (.slice sa c.still.length sc) := by simp [hx10, go_sem]
    go_loopw [1, 9] (fun dd nn wr => ∃ k : Nat, ∃ e : Int, k ≤ n.toNat ∧ dd = .int .i64 e ∧ nn = .int .i64 k ∧ d ≤ e ∧ e ≤ 20000 ∧ Hid (addF c k d ≤ e ∧ (∀ x, addF c k d < x → x ≤ e → freeB c x = true) ∧ (k = n.toNat → addF c k d = e)) ∧ Below w1.heap.size w1 wr) (fun dd _ _ => 20001 - (intOf dd).toNat)
    case atStart => exact ⟨0, d, Nat.zero_le _, rfl, rfl, Int.le_refl _, by omega, ⟨Int.le_refl _, fun x h1 h2 => absurd h1 (by simp only [addF]; omega), fun _ => rfl⟩, Below.refl _ _⟩
    case round =>
      obtain ⟨k, e, hk, rfl, rfl, he1, he2, HI, hb⟩ := hrel
      have hb0 : Below w.heap.size w wr := below_tail hb hw0
      have f0 := (hb.cell (p := ⟨w.heap.size, 0, none⟩) hy1).trans e0
      have f1 := (hb.cell (p := ⟨w.heap.size, 1, none⟩) hy1).trans e1
      have f2 := (hb.cell (p := ⟨w.heap.size, 2, none⟩) hy1).trans e2
      have hy2 : w.heap.size < wr.heap.size := Nat.lt_of_lt_of_le hy1 hb.size
      by_cases hlt : (k : Int) < n
      · have hg : decide ((k : Int) < n) = true := by simpa using hlt
        have HS := Lib.hid (addF_step HV.out hd1 hd2 HI.out.1 HI.out.2.1)
        have hbd : e + 1 ≤ 11000 := by
          have h1 := (addF_le HV.out hd1 hd2 (k + 1)).2
          have h2 := HS.out.1
          omega
        cases hx : freeB c (e + 1)
        · go_wp2_with (go_at_call 63; (with_reducible refine (rfree_calls _ c (e + 1) _ (HCal.out.below (by (repeat' (first | exact Below.refl _ _ | assumption | refine below_new ?_ _ | refine below_draw ?_ | refine below_tail (by assumption) ?_ | refine below_set ?_ (by first | omega | (simp <;> omega)) _)))) hv1 hv2 (by omega) (by omega)).use ?_); intro w3 hb3 hz3 hc3 hf3; (try simp at hz3); have hy3 : w.heap.size < w3.heap.size := (by omega); have hx3 := fun o => hc3 w.heap.size o (by first | omega | (simp <;> omega)))
          go_roundw
          case rel => exact ⟨k + 1, e + 1, by omega, by go_num, by go_num, by omega, by omega, ⟨Int.le_of_eq (HS.out.2 hx), fun x h1 h2 => absurd h1 (by rw [HS.out.2 hx]; omega), fun _ => HS.out.2 hx⟩, by (repeat' (first | exact Below.refl _ _ | assumption | refine below_new ?_ _ | refine below_draw ?_ | refine below_tail (by assumption) ?_ | refine below_set ?_ (by first | omega | (simp <;> omega)) _))⟩
          case measure => simp [intOf]; omega
        · go_wp2_with (go_at_call 63; (with_reducible refine (rfree_calls _ c (e + 1) _ (HCal.out.below (by (repeat' (first | exact Below.refl _ _ | assumption | refine below_new ?_ _ | refine below_draw ?_ | refine below_tail (by assumption) ?_ | refine below_set ?_ (by first | omega | (simp <;> omega)) _)))) hv1 hv2 (by omega) (by omega)).use ?_); intro w3 hb3 hz3 hc3 hf3; (try simp at hz3); have hy3 : w.heap.size < w3.heap.size := (by omega); have hx3 := fun o => hc3 w.heap.size o (by first | omega | (simp <;> omega)))
          go_roundw
          case rel => exact ⟨k, e + 1, by omega, by go_num, by go_num, by omega, by omega, ⟨by have := HI.out.1; omega, fun x h1 h2 => by
              rcases Int.lt_or_le e x with h3 | h3
              · rw [show x = e + 1 by omega]; exact hx
              · exact HI.out.2.1 x h1 h3, fun h1 => absurd h1 (by omega)⟩, by (repeat' (first | exact Below.refl _ _ | assumption | refine below_new ?_ _ | refine below_draw ?_ | refine below_tail (by assumption) ?_ | refine below_set ?_ (by first | omega | (simp <;> omega)) _))⟩
          case measure => simp [intOf]; omega
      · have hg : decide ((k : Int) < n) = false := by simpa using hlt
        have hkn : k = n.toNat := by omega
        go_wp2
        go_ret2
        exact ⟨by rw [HR0.out, if_pos Hz.out, Hz.out, ← hkn, HI.out.2.2 hkn]; rfl, by (repeat' (first | exact Below.refl _ _ | assumption | refine below_new ?_ _ | refine below_draw ?_ | refine below_tail (by assumption) ?_ | refine below_set ?_ (by first | omega | (simp <;> omega)) _))⟩
  · have Hz := Lib.hid hz
    have hz1 : (askedF c [d] [n] == 0) = false := by simpa using hz
    have hz2 : (askedF c [d] [n] != 0) = true := by simpa using hz
    clear hz
    go_enter Try.func49, Try.ntmps49
    go_wp2_with (first | (go_at_call 62; (with_reducible refine (asked_calls _ _ _ c [d] [n] _ (HCal.out.below (by (repeat' (first | exact Below.refl _ _ | assumption | refine below_new ?_ _ | refine below_draw ?_ | refine below_tail (by assumption) ?_ | refine below_set ?_ (by first | omega | (simp <;> omega)) _)))) (ints1b (by simp)) (ints1 (by simp))).use ?_); intro w1 hb1 hz1 hc1 hf1; (try simp at hz1); have hy1 : w.heap.size < w1.heap.size := (by omega); have hx10 := fun o => hc1 (w.heap.size) o (by first | omega | (simp <;> omega)); clear hc1 hf1))
    go_ret2
    exact ⟨by rw [HR0.out, if_neg Hz.out]; rfl, by (repeat' (first | exact Below.refl _ _ | assumption | refine below_new ?_ _ | refine below_draw ?_ | refine below_tail (by assumption) ?_ | refine below_set ?_ (by first | omega | (simp <;> omega)) _))⟩

end Go.Proofs.Ytnhohnnoffhkhaa
