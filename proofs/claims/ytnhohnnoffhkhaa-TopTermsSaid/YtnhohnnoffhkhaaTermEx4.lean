/- What Work, Counting and AddWork of package term give. Conditions: a calendar lies in memory as said. -/
import Derived.Test.YtnhohnnoffhkhaaTermEx3
namespace Go.Proofs.Ytnhohnnoffhkhaa
open Go.RowKit
theorem ordered_ok {c : Cal} {a b : Int} (h : orderedF c a b = 0) : askedF c [a, b] [] = 0 ∧ a ≤ b := by
  unfold orderedF at h
  by_cases hz : askedF c [a, b] [] = 0
  · rw [if_pos hz] at h
    refine ⟨hz, ?_⟩
    by_cases hb : b < a
    · rw [if_pos hb] at h; exact absurd h (by decide)
    · omega
  · rw [if_neg hz] at h; exact absurd h hz

set_option maxHeartbeats 2000000 in
set_option maxRecDepth 100000 in
theorem Work_calls (v : Value) (c : Cal) (a b : Int) (w : World) (h : CalAt w v c) :
    Gives Try.prog 45 #[v, .int .i64 a, .int .i64 b] w (.tuple #[.int .i64 (workR c a b), .int .i64 (orderedF c a b)]) := by
  obtain ⟨fa, fc, sa, sc, rfl, hf, hs, hfc, hsc, hfl, hsl⟩ := h.cells
  have HCal := Lib.hid h
  clear h hf hs
  unfold Gives
  have HR0 : Hid (workR c a b = if orderedF c a b = 0 then workF c a b else 0) := rfl
  by_cases hz : orderedF c a b = 0
  · have Hz := Lib.hid hz
    have hz1 : (orderedF c a b == 0) = true := by simpa using hz
    have hz2 : (orderedF c a b != 0) = false := by simpa using hz
    obtain ⟨hzz, hab⟩ := ordered_ok hz
    obtain ⟨hv, ha1, ha2, hb1, hb2⟩ := asked_days hzz
    clear hzz
    obtain ⟨hv1, hv2⟩ := valid_first hv
    have HV := Lib.hid hv
    clear hv hz
    go_enter Try.func45, Try.ntmps45
    go_wp2_with (first | (go_at_call 77; (with_reducible refine (ordered_calls _ c a b _ (HCal.out.below (by (repeat' (first | exact Below.refl _ _ | assumption | refine below_new ?_ _ | refine below_draw ?_ | refine below_tail (by assumption) ?_ | refine below_set ?_ (by first | omega | (simp <;> omega)) _))))).use ?_); intro w1 hb1 hz1 hc1 hf1; (try simp at hz1); have hy1 : w.heap.size < w1.heap.size := (by omega); have hx10 := fun o => hc1 (w.heap.size) o (by first | omega | (simp <;> omega)); clear hc1 hf1))
    have hw0 : Below w.heap.size w w1 := by (repeat' (first | exact Below.refl _ _ | assumption | refine below_new ?_ _ | refine below_draw ?_ | refine below_tail (by assumption) ?_ | refine below_set ?_ (by first | omega | (simp <;> omega)) _))
    have e0 : w1.cell? ⟨w.heap.size, 0, none⟩ = some (.int .i64 c.first) := by simp [hx10, go_sem]
    have e1 : w1.cell? ⟨w.heap.size, 1, none⟩ = some (.slice fa c.free.length fc) := by simp [hx10, go_sem]
    have e2 : w1.cell? ⟨w.heap.size, 2, none⟩ = some (.slice sa c.still.length sc) := by simp [hx10, go_sem]
    refine (count_calls a b 85 #[.pointer (some ⟨w.heap.size, 0, none⟩)] (fun x => !(freeB c x)) _ ha1 hab (by omega) (enters_of Try.func85 (by kernel_rfl) rfl) (fun x w' hb u1 u2 => Work_is _ c x w' fa fc sa sc (HCal.out.below (below_tail hb hw0)) hv1 hv2 u1 u2 ((hb.cell (p := ⟨w.heap.size, 0, none⟩) hy1).trans e0) ((hb.cell (p := ⟨w.heap.size, 1, none⟩) hy1).trans e1) ((hb.cell (p := ⟨w.heap.size, 2, none⟩) hy1).trans e2))).use ?_
    intro w2 hb2 hz2 hc2 hf2
    go_wp2
    go_ret2
    exact ⟨by rw [HR0.out, if_pos Hz.out, Hz.out]; rfl, by (repeat' (first | exact Below.refl _ _ | assumption | refine below_new ?_ _ | refine below_draw ?_ | refine below_tail (by assumption) ?_ | refine below_set ?_ (by first | omega | (simp <;> omega)) _))⟩
  · have Hz := Lib.hid hz
    have hz1 : (orderedF c a b == 0) = false := by simpa using hz
    have hz2 : (orderedF c a b != 0) = true := by simpa using hz
    clear hz
    go_enter Try.func45, Try.ntmps45
    go_wp2_with (first | (go_at_call 77; (with_reducible refine (ordered_calls _ c a b _ (HCal.out.below (by (repeat' (first | exact Below.refl _ _ | assumption | refine below_new ?_ _ | refine below_draw ?_ | refine below_tail (by assumption) ?_ | refine below_set ?_ (by first | omega | (simp <;> omega)) _))))).use ?_); intro w1 hb1 hz1 hc1 hf1; (try simp at hz1); have hy1 : w.heap.size < w1.heap.size := (by omega); have hx10 := fun o => hc1 (w.heap.size) o (by first | omega | (simp <;> omega)); clear hc1 hf1))
    go_ret2
    exact ⟨by rw [HR0.out, if_neg Hz.out]; rfl, by (repeat' (first | exact Below.refl _ _ | assumption | refine below_new ?_ _ | refine below_draw ?_ | refine below_tail (by assumption) ?_ | refine below_set ?_ (by first | omega | (simp <;> omega)) _))⟩

set_option maxHeartbeats 2000000 in
set_option maxRecDepth 100000 in
theorem Counting_calls (v : Value) (c : Cal) (a b : Int) (w : World) (h : CalAt w v c) :
    Gives Try.prog 33 #[v, .int .i64 a, .int .i64 b] w (.tuple #[.int .i64 (countR c a b), .int .i64 (orderedF c a b)]) := by
  obtain ⟨fa, fc, sa, sc, rfl, hf, hs, hfc, hsc, hfl, hsl⟩ := h.cells
  have HCal := Lib.hid h
  clear h hf hs
  unfold Gives
  have HR0 : Hid (countR c a b = if orderedF c a b = 0 then countF c a b else 0) := rfl
  by_cases hz : orderedF c a b = 0
  · have Hz := Lib.hid hz
    have hz1 : (orderedF c a b == 0) = true := by simpa using hz
    have hz2 : (orderedF c a b != 0) = false := by simpa using hz
    obtain ⟨hzz, hab⟩ := ordered_ok hz
    obtain ⟨hv, ha1, ha2, hb1, hb2⟩ := asked_days hzz
    clear hzz
    obtain ⟨hv1, hv2⟩ := valid_first hv
    have HV := Lib.hid hv
    clear hv hz
    go_enter Try.func33, Try.ntmps33
    go_wp2_with (first | (go_at_call 77; (with_reducible refine (ordered_calls _ c a b _ (HCal.out.below (by (repeat' (first | exact Below.refl _ _ | assumption | refine below_new ?_ _ | refine below_draw ?_ | refine below_tail (by assumption) ?_ | refine below_set ?_ (by first | omega | (simp <;> omega)) _))))).use ?_); intro w1 hb1 hz1 hc1 hf1; (try simp at hz1); have hy1 : w.heap.size < w1.heap.size := (by omega); have hx10 := fun o => hc1 (w.heap.size) o (by first | omega | (simp <;> omega)); clear hc1 hf1))
    have hw0 : Below w.heap.size w w1 := by (repeat' (first | exact Below.refl _ _ | assumption | refine below_new ?_ _ | refine below_draw ?_ | refine below_tail (by assumption) ?_ | refine below_set ?_ (by first | omega | (simp <;> omega)) _))
    have e0 : w1.cell? ⟨w.heap.size, 0, none⟩ = some (.int .i64 c.first) := by simp [hx10, go_sem]
    have e1 : w1.cell? ⟨w.heap.size, 1, none⟩ = some (.slice fa c.free.length fc) := by simp [hx10, go_sem]
    have e2 : w1.cell? ⟨w.heap.size, 2, none⟩ = some (.slice sa c.still.length sc) := by simp [hx10, go_sem]
    refine (count_calls a b 79 #[.pointer (some ⟨w.heap.size, 0, none⟩)] (fun x => !(stillB c x)) _ ha1 hab (by omega) (enters_of Try.func79 (by kernel_rfl) rfl) (fun x w' hb u1 u2 => Counting_is _ c x w' fa fc sa sc (HCal.out.below (below_tail hb hw0)) hv1 hv2 u1 u2 ((hb.cell (p := ⟨w.heap.size, 0, none⟩) hy1).trans e0) ((hb.cell (p := ⟨w.heap.size, 1, none⟩) hy1).trans e1) ((hb.cell (p := ⟨w.heap.size, 2, none⟩) hy1).trans e2))).use ?_
    intro w2 hb2 hz2 hc2 hf2
    go_wp2
    go_ret2
    exact ⟨by rw [HR0.out, if_pos Hz.out, Hz.out]; rfl, by (repeat' (first | exact Below.refl _ _ | assumption | refine below_new ?_ _ | refine below_draw ?_ | refine below_tail (by assumption) ?_ | refine below_set ?_ (by first | omega | (simp <;> omega)) _))⟩
  · have Hz := Lib.hid hz
    have hz1 : (orderedF c a b == 0) = false := by simpa using hz
    have hz2 : (orderedF c a b != 0) = true := by simpa using hz
    clear hz
    go_enter Try.func33, Try.ntmps33
    go_wp2_with (first | (go_at_call 77; (with_reducible refine (ordered_calls _ c a b _ (HCal.out.below (by (repeat' (first | exact Below.refl _ _ | assumption | refine below_new ?_ _ | refine below_draw ?_ | refine below_tail (by assumption) ?_ | refine below_set ?_ (by first | omega | (simp <;> omega)) _))))).use ?_); intro w1 hb1 hz1 hc1 hf1; (try simp at hz1); have hy1 : w.heap.size < w1.heap.size := (by omega); have hx10 := fun o => hc1 (w.heap.size) o (by first | omega | (simp <;> omega)); clear hc1 hf1))
    go_ret2
    exact ⟨by rw [HR0.out, if_neg Hz.out]; rfl, by (repeat' (first | exact Below.refl _ _ | assumption | refine below_new ?_ _ | refine below_draw ?_ | refine below_tail (by assumption) ?_ | refine below_set ?_ (by first | omega | (simp <;> omega)) _))⟩

set_option maxHeartbeats 2000000 in
set_option maxRecDepth 100000 in
theorem AddWork_calls (v : Value) (c : Cal) (d n : Int) (w : World) (h : CalAt w v c) :
    Gives Try.prog 29 #[v, .int .i64 d, .int .i64 n] w (.tuple #[.int .i64 (addR c d n), .int .i64 (askedF c [d] [n])]) := by
  obtain ⟨fa, fc, sa, sc, rfl, hf, hs, hfc, hsc, hfl, hsl⟩ := h.cells
  have HCal := Lib.hid h
  clear h hf hs
  unfold Gives
  have HR0 : Hid (addR c d n = if askedF c [d] [n] = 0 then addF c n.toNat d else 0) := rfl
  by_cases hz : askedF c [d] [n] = 0
  · have Hz := Lib.hid hz
    have hz1 : (askedF c [d] [n] == 0) = true := by simpa using hz
    have hz2 : (askedF c [d] [n] != 0) = false := by simpa using hz
    obtain ⟨hv, hd1, hd2, hn1, hn2⟩ := asked_term hz
    obtain ⟨hv1, hv2⟩ := valid_first hv
    have HV := Lib.hid hv
    clear hv hz
    go_enter Try.func29, Try.ntmps29
    go_wp2_with (first | (go_at_call 55; (with_reducible refine (termed_calls _ _ c d [n] _ (HCal.out.below (by (repeat' (first | exact Below.refl _ _ | assumption | refine below_new ?_ _ | refine below_draw ?_ | refine below_tail (by assumption) ?_ | refine below_set ?_ (by first | omega | (simp <;> omega)) _)))) (ints1 (by simp))).use ?_); intro w1 hb1 hz1 hc1 hf1; (try simp at hz1); have hy1 : w.heap.size < w1.heap.size := (by omega); have hx10 := fun o => hc1 (w.heap.size) o (by first | omega | (simp <;> omega)); clear hc1 hf1))
    have hw0 : Below w.heap.size w w1 := by (repeat' (first | exact Below.refl _ _ | assumption | refine below_new ?_ _ | refine below_draw ?_ | refine below_tail (by assumption) ?_ | refine below_set ?_ (by first | omega | (simp <;> omega)) _))
    have e0 : w1.cell? ⟨w.heap.size, 0, none⟩ = some (.int .i64 c.first) := by simp [hx10, go_sem]
    have e1 : w1.cell? ⟨w.heap.size, 1, none⟩ = some (.slice fa c.free.length fc) := by simp [hx10, go_sem]
    have e2 : w1.cell? ⟨w.heap.size, 2, none⟩ = some (.slice sa c.still.length sc) := by simp [hx10, go_sem]
    go_loopw [9, 20] (fun dd nn wr => ∃ k : Nat, k ≤ n.toNat ∧ dd = .int .i64 (addF c k d) ∧ nn = .int .i64 k ∧ Below w1.heap.size w1 wr) (fun _ nn _ => (n - intOf nn).toNat)
    case atStart => exact ⟨0, Nat.zero_le _, rfl, rfl, Below.refl _ _⟩
    case round =>
      obtain ⟨k, hk, rfl, rfl, hb⟩ := hrel
      have hb0 : Below w.heap.size w wr := below_tail hb hw0
      have f0 := (hb.cell (p := ⟨w.heap.size, 0, none⟩) hy1).trans e0
      have f1 := (hb.cell (p := ⟨w.heap.size, 1, none⟩) hy1).trans e1
      have f2 := (hb.cell (p := ⟨w.heap.size, 2, none⟩) hy1).trans e2
      have hy2 : w.heap.size < wr.heap.size := Nat.lt_of_lt_of_le hy1 hb.size
      obtain ⟨q, hq⟩ : ∃ q, addF c k d = q := ⟨_, rfl⟩
      have hle := addF_le HV.out hd1 hd2 k
      rw [hq] at hle ⊢
      have HS : Hid (addF c (k + 1) d = nextF c (q + 1)) := by unfold Hid; rw [← hq]; rfl
      have HQ := Lib.hid hq
      clear hq
      by_cases hlt : (k : Int) < n
      · have hg : decide ((k : Int) < n) = true := by simpa using hlt
        go_wp2_with (go_at_call 66; (with_reducible refine (next_calls _ c (q + 1) _ (HCal.out.below (by (repeat' (first | exact Below.refl _ _ | assumption | refine below_new ?_ _ | refine below_draw ?_ | refine below_tail (by assumption) ?_ | refine below_set ?_ (by first | omega | (simp <;> omega)) _)))) HV.out hv1 hv2 (by omega) (by omega)).use ?_); intro w3 hb3 hz3 hc3 hf3)
        go_roundw
        case rel => exact ⟨k + 1, by omega, by rw [HS.out], by go_num, by (repeat' (first | exact Below.refl _ _ | assumption | refine below_new ?_ _ | refine below_draw ?_ | refine below_tail (by assumption) ?_ | refine below_set ?_ (by first | omega | (simp <;> omega)) _))⟩
        case measure => simp [intOf]; omega
      · have hg : decide ((k : Int) < n) = false := by simpa using hlt
        have hkn : k = n.toNat := by omega
        go_wp2
        go_ret2
        exact ⟨by rw [HR0.out, if_pos Hz.out, Hz.out, ← hkn, HQ.out]; rfl, by (repeat' (first | exact Below.refl _ _ | assumption | refine below_new ?_ _ | refine below_draw ?_ | refine below_tail (by assumption) ?_ | refine below_set ?_ (by first | omega | (simp <;> omega)) _))⟩
  · have Hz := Lib.hid hz
    have hz1 : (askedF c [d] [n] == 0) = false := by simpa using hz
    have hz2 : (askedF c [d] [n] != 0) = true := by simpa using hz
    clear hz
    go_enter Try.func29, Try.ntmps29
    go_wp2_with (first | (go_at_call 55; (with_reducible refine (termed_calls _ _ c d [n] _ (HCal.out.below (by (repeat' (first | exact Below.refl _ _ | assumption | refine below_new ?_ _ | refine below_draw ?_ | refine below_tail (by assumption) ?_ | refine below_set ?_ (by first | omega | (simp <;> omega)) _)))) (ints1 (by simp))).use ?_); intro w1 hb1 hz1 hc1 hf1; (try simp at hz1); have hy1 : w.heap.size < w1.heap.size := (by omega); have hx10 := fun o => hc1 (w.heap.size) o (by first | omega | (simp <;> omega)); clear hc1 hf1))
    go_ret2
    exact ⟨by rw [HR0.out, if_neg Hz.out]; rfl, by (repeat' (first | exact Below.refl _ _ | assumption | refine below_new ?_ _ | refine below_draw ?_ | refine below_tail (by assumption) ?_ | refine below_set ?_ (by first | omega | (simp <;> omega)) _))⟩

end Go.Proofs.Ytnhohnnoffhkhaa
