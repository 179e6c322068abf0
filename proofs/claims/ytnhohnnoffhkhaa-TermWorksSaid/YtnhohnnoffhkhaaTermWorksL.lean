/- The law TermWorks: its walk. Conditions: a calendar lies in memory as said. -/
import Derived.Test.YtnhohnnoffhkhaaTermKnown
import Derived.Test.YtnhohnnoffhkhaaTermEx4
namespace Go.Proofs.Ytnhohnnoffhkhaa
open Go.RowKit

theorem orderedS_of {c : Cal} {a b : Int} (h1 : validF c = 0) (h2 : 0 ≤ a) (h3 : a ≤ b) (h4 : b ≤ 10000) : orderedF c a b = 0 := by
  unfold orderedF
  rw [if_pos (asked_of h1 (by intro d hd; simp at hd; omega) (by simp)), if_neg (by omega)]
theorem cnt_first {p : Int → Bool} {d r : Int} (h : IsFirst p d r) : cnt p d (r - d + 1).toNat = 1 := by
  obtain ⟨h1, h2, h3⟩ := h
  have : ∀ k : Nat, d + k ≤ r → cnt p d k = 0 := by
    intro k
    induction k with
    | zero => intro _; rfl
    | succ k ih => intro hk; rw [cnt, ih (by omega), h3 _ (by omega) (by omega)]; rfl
  rw [show (r - d + 1).toNat = (r - d).toNat + 1 by omega, cnt, this _ (by omega), show d + ((r - d).toNat : Int) = r by omega, h2]; rfl
theorem addF_cnt {c : Cal} (h : validF c = 0) {d : Int} (h0 : 0 ≤ d) (h1 : d ≤ 10000) : ∀ n : Nat, cnt (fun x => !(freeB c x)) (d + 1) (addF c n d - (d + 1) + 1).toNat = n
  | 0 => by simp only [addF]; rw [show (d - (d + 1) + 1).toNat = 0 by omega]; rfl
  | n + 1 => by
    have ih := addF_cnt h h0 h1 n
    have hl := addF_le h h0 h1 n
    have hf := nextF_first h (d := addF c n d + 1) (by omega)
    have h2 := cnt_first hf
    have h3 := hf.1
    simp only [addF]
    rw [show (nextF c (addF c n d + 1) - (d + 1) + 1).toNat = (addF c n d - (d + 1) + 1).toNat + (nextF c (addF c n d + 1) - (addF c n d + 1) + 1).toNat by omega, cnt_add, ih,
      show d + 1 + ((addF c n d - (d + 1) + 1).toNat : Int) = addF c n d + 1 by omega, h2]
    omega
theorem works_facts {c : Cal} {d n : Int} (hz : askedF c [d] [n] = 0) (hn : n ≠ 0) (hb : addR c d n ≤ 10000) :
    orderedF c (d + 1) (addR c d n) = 0 ∧ workR c (d + 1) (addR c d n) = n ∧ askedF c [addR c d n] [] = 0 ∧ freeR c (addR c d n) = false ∧ True := by
  obtain ⟨hv, g1, g2, g3, g4⟩ := asked_term hz
  have e1 : addR c d n = addF c n.toNat d := by unfold addR; rw [if_pos hz]
  obtain ⟨k, hk⟩ : ∃ k : Nat, n.toNat = k + 1 := ⟨n.toNat - 1, by omega⟩
  have hc := addF_cnt hv g1 g2 n.toNat
  rw [e1] at hb ⊢
  have hl := addF_le hv g1 g2 k
  have hf := nextF_first hv (d := addF c k d + 1) (by omega)
  have e2 : addF c n.toNat d = nextF c (addF c k d + 1) := by rw [hk]; rfl
  have h5 := hf.1
  have o1 : orderedF c (d + 1) (addF c n.toNat d) = 0 := orderedS_of hv (by omega) (by omega) hb
  have o2 : askedF c [addF c n.toNat d] [] = 0 := asked_of hv (by intro x hx; simp at hx; omega) (by simp)
  refine ⟨o1, ?_, o2, ?_, trivial⟩
  · unfold workR workF; rw [if_pos o1, hc]; omega
  · unfold freeR; rw [if_pos o2, e2]
    have := hf.2.1
    simpa using this

set_option maxHeartbeats 4000000 in
set_option maxRecDepth 100000 in
theorem termWorks_calls (v : Value) (c : Cal) (d n : Int) (w : World) (h : CalAt w v c) :
    Gives Try.prog 14 #[v, .int .i64 d, .int .i64 n] w (.bool true) := by
  obtain ⟨fa, fc, sa, sc, rfl, hf, hs, hfc, hsc, hfl, hsl⟩ := h.cells
  have HCal := Lib.hid h
  clear h hf hs
  unfold Gives
  cases hL : (decide (100 < c.free.length) || decide (100 < c.still.length))
  · have s0 : (addR c d n == addR c d n) = true := by simp
    have s1 : (addR c d n != addR c d n) = false := by simp
    have s2 : (askedF c [d] [n] == askedF c [d] [n]) = true := by simp
    have s3 : (askedF c [d] [n] != askedF c [d] [n]) = false := by simp
    by_cases hz : askedF c [d] [n] = 0
    · have a0 : (askedF c [d] [n] == 0) = true := by simpa using hz
      have a1 : (askedF c [d] [n] != 0) = false := by simpa using hz
      obtain ⟨hv, hd1, hd2, hn1, hn2⟩ := asked_term hz
      clear hv
      by_cases hb1 : n = 0
      · have b1 : (n == 0) = true := by simpa using hb1
        clear hb1 hz
        go_enter Try.func14, Try.ntmps14
        go_wp2_with (first | (go_at_call 17; (with_reducible refine (long_calls _ c _ (HCal.out.below (by (repeat' (first | exact Below.refl _ _ | assumption | refine below_new ?_ _ | refine below_draw ?_ | refine below_tail (by assumption) ?_ | refine below_set ?_ (by first | omega | (simp <;> omega)) _))))).use ?_); intro w1 hb1 hz1 hc1 hf1; (try simp at hz1); have hy1 : w.heap.size < w1.heap.size := (by omega); have hx10 := fun o => hc1 (w.heap.size) o (by first | omega | (simp <;> omega)); clear hc1 hf1; rw [hL]) | (go_at_call 29; (with_reducible refine (AddWork_calls _ c d n _ (HCal.out.below (by (repeat' (first | exact Below.refl _ _ | assumption | refine below_new ?_ _ | refine below_draw ?_ | refine below_tail (by assumption) ?_ | refine below_set ?_ (by first | omega | (simp <;> omega)) _))))).use ?_); intro w2 hb2 hz2 hc2 hf2; (try simp at hz2); have hy2 : w.heap.size < w2.heap.size := (by omega); have hx20 := fun o => hc2 (w.heap.size) o (by first | omega | (simp <;> omega)); clear hc2 hf2) | (go_at_call 49; (with_reducible refine (rAddWork_calls _ c d n _ (HCal.out.below (by (repeat' (first | exact Below.refl _ _ | assumption | refine below_new ?_ _ | refine below_draw ?_ | refine below_tail (by assumption) ?_ | refine below_set ?_ (by first | omega | (simp <;> omega)) _))))).use ?_); intro w3 hb3 hz3 hc3 hf3; (try simp at hz3); have hy3 : w.heap.size < w3.heap.size := (by omega); have hx30 := fun o => hc3 (w.heap.size) o (by first | omega | (simp <;> omega)); clear hc3 hf3) | (go_at_call 45; (with_reducible refine (Work_calls _ c (d + 1) (addR c d n) _ (HCal.out.below (by (repeat' (first | exact Below.refl _ _ | assumption | refine below_new ?_ _ | refine below_draw ?_ | refine below_tail (by assumption) ?_ | refine below_set ?_ (by first | omega | (simp <;> omega)) _))))).use ?_); intro w4 hb4 hz4 hc4 hf4; (try simp at hz4); have hy4 : w.heap.size < w4.heap.size := (by omega); have hx40 := fun o => hc4 (w.heap.size) o (by first | omega | (simp <;> omega)); clear hc4 hf4) | (go_at_call 36; (with_reducible refine (IsFree_calls _ c (addR c d n) _ (HCal.out.below (by (repeat' (first | exact Below.refl _ _ | assumption | refine below_new ?_ _ | refine below_draw ?_ | refine below_tail (by assumption) ?_ | refine below_set ?_ (by first | omega | (simp <;> omega)) _))))).use ?_); intro w5 hb5 hz5 hc5 hf5; (try simp at hz5); have hy5 : w.heap.size < w5.heap.size := (by omega); have hx50 := fun o => hc5 (w.heap.size) o (by first | omega | (simp <;> omega)); clear hc5 hf5) | (go_at_call 18; (with_reducible refine (known_calls _).use ?_); intro w20 hb20 hz20 hc20 hf20; (try simp at hz20); have hy20 : w.heap.size < w20.heap.size := (by omega); have hx200 := fun o => hc20 (w.heap.size) o (by first | omega | (simp <;> omega)); clear hc20 hf20))
        go_ret
        exact ⟨rfl, by (repeat' (first | exact Below.refl _ _ | assumption | refine below_new ?_ _ | refine below_draw ?_ | refine below_tail (by assumption) ?_ | refine below_set ?_ (by first | omega | (simp <;> omega)) _))⟩
      · by_cases hb2 : 10000 < addR c d n
        · have b1 : (n == 0) = false := by simpa using hb1
          have b2 : decide (10000 < addR c d n) = true := by simpa using hb2
          clear hz
          go_enter Try.func14, Try.ntmps14
          go_wp2_with (first | (go_at_call 17; (with_reducible refine (long_calls _ c _ (HCal.out.below (by (repeat' (first | exact Below.refl _ _ | assumption | refine below_new ?_ _ | refine below_draw ?_ | refine below_tail (by assumption) ?_ | refine below_set ?_ (by first | omega | (simp <;> omega)) _))))).use ?_); intro w1 hb1 hz1 hc1 hf1; (try simp at hz1); have hy1 : w.heap.size < w1.heap.size := (by omega); have hx10 := fun o => hc1 (w.heap.size) o (by first | omega | (simp <;> omega)); clear hc1 hf1; rw [hL]) | (go_at_call 29; (with_reducible refine (AddWork_calls _ c d n _ (HCal.out.below (by (repeat' (first | exact Below.refl _ _ | assumption | refine below_new ?_ _ | refine below_draw ?_ | refine below_tail (by assumption) ?_ | refine below_set ?_ (by first | omega | (simp <;> omega)) _))))).use ?_); intro w2 hb2 hz2 hc2 hf2; (try simp at hz2); have hy2 : w.heap.size < w2.heap.size := (by omega); have hx20 := fun o => hc2 (w.heap.size) o (by first | omega | (simp <;> omega)); clear hc2 hf2) | (go_at_call 49; (with_reducible refine (rAddWork_calls _ c d n _ (HCal.out.below (by (repeat' (first | exact Below.refl _ _ | assumption | refine below_new ?_ _ | refine below_draw ?_ | refine below_tail (by assumption) ?_ | refine below_set ?_ (by first | omega | (simp <;> omega)) _))))).use ?_); intro w3 hb3 hz3 hc3 hf3; (try simp at hz3); have hy3 : w.heap.size < w3.heap.size := (by omega); have hx30 := fun o => hc3 (w.heap.size) o (by first | omega | (simp <;> omega)); clear hc3 hf3) | (go_at_call 45; (with_reducible refine (Work_calls _ c (d + 1) (addR c d n) _ (HCal.out.below (by (repeat' (first | exact Below.refl _ _ | assumption | refine below_new ?_ _ | refine below_draw ?_ | refine below_tail (by assumption) ?_ | refine below_set ?_ (by first | omega | (simp <;> omega)) _))))).use ?_); intro w4 hb4 hz4 hc4 hf4; (try simp at hz4); have hy4 : w.heap.size < w4.heap.size := (by omega); have hx40 := fun o => hc4 (w.heap.size) o (by first | omega | (simp <;> omega)); clear hc4 hf4) | (go_at_call 36; (with_reducible refine (IsFree_calls _ c (addR c d n) _ (HCal.out.below (by (repeat' (first | exact Below.refl _ _ | assumption | refine below_new ?_ _ | refine below_draw ?_ | refine below_tail (by assumption) ?_ | refine below_set ?_ (by first | omega | (simp <;> omega)) _))))).use ?_); intro w5 hb5 hz5 hc5 hf5; (try simp at hz5); have hy5 : w.heap.size < w5.heap.size := (by omega); have hx50 := fun o => hc5 (w.heap.size) o (by first | omega | (simp <;> omega)); clear hc5 hf5) | (go_at_call 18; (with_reducible refine (known_calls _).use ?_); intro w20 hb20 hz20 hc20 hf20; (try simp at hz20); have hy20 : w.heap.size < w20.heap.size := (by omega); have hx200 := fun o => hc20 (w.heap.size) o (by first | omega | (simp <;> omega)); clear hc20 hf20))
          go_ret
          exact ⟨rfl, by (repeat' (first | exact Below.refl _ _ | assumption | refine below_new ?_ _ | refine below_draw ?_ | refine below_tail (by assumption) ?_ | refine below_set ?_ (by first | omega | (simp <;> omega)) _))⟩
        · have b1 : (n == 0) = false := by simpa using hb1
          have b2 : decide (10000 < addR c d n) = false := by simp; omega
          obtain ⟨f1, f2, f3, f4, f5⟩ := works_facts hz hb1 (by omega)
          have f6 : (orderedF c (d + 1) (addR c d n) == 0) = true := by simpa using f1
          have f7 : (workR c (d + 1) (addR c d n) == n) = true := by simpa using f2
          have f8 : (askedF c [addR c d n] [] == 0) = true := by simpa using f3
          clear hz f1 f2 f3
          go_enter Try.func14, Try.ntmps14
          go_wp2_with (first | (go_at_call 17; (with_reducible refine (long_calls _ c _ (HCal.out.below (by (repeat' (first | exact Below.refl _ _ | assumption | refine below_new ?_ _ | refine below_draw ?_ | refine below_tail (by assumption) ?_ | refine below_set ?_ (by first | omega | (simp <;> omega)) _))))).use ?_); intro w1 hb1 hz1 hc1 hf1; (try simp at hz1); have hy1 : w.heap.size < w1.heap.size := (by omega); have hx10 := fun o => hc1 (w.heap.size) o (by first | omega | (simp <;> omega)); clear hc1 hf1; rw [hL]) | (go_at_call 29; (with_reducible refine (AddWork_calls _ c d n _ (HCal.out.below (by (repeat' (first | exact Below.refl _ _ | assumption | refine below_new ?_ _ | refine below_draw ?_ | refine below_tail (by assumption) ?_ | refine below_set ?_ (by first | omega | (simp <;> omega)) _))))).use ?_); intro w2 hb2 hz2 hc2 hf2; (try simp at hz2); have hy2 : w.heap.size < w2.heap.size := (by omega); have hx20 := fun o => hc2 (w.heap.size) o (by first | omega | (simp <;> omega)); clear hc2 hf2) | (go_at_call 49; (with_reducible refine (rAddWork_calls _ c d n _ (HCal.out.below (by (repeat' (first | exact Below.refl _ _ | assumption | refine below_new ?_ _ | refine below_draw ?_ | refine below_tail (by assumption) ?_ | refine below_set ?_ (by first | omega | (simp <;> omega)) _))))).use ?_); intro w3 hb3 hz3 hc3 hf3; (try simp at hz3); have hy3 : w.heap.size < w3.heap.size := (by omega); have hx30 := fun o => hc3 (w.heap.size) o (by first | omega | (simp <;> omega)); clear hc3 hf3) | (go_at_call 45; (with_reducible refine (Work_calls _ c (d + 1) (addR c d n) _ (HCal.out.below (by (repeat' (first | exact Below.refl _ _ | assumption | refine below_new ?_ _ | refine below_draw ?_ | refine below_tail (by assumption) ?_ | refine below_set ?_ (by first | omega | (simp <;> omega)) _))))).use ?_); intro w4 hb4 hz4 hc4 hf4; (try simp at hz4); have hy4 : w.heap.size < w4.heap.size := (by omega); have hx40 := fun o => hc4 (w.heap.size) o (by first | omega | (simp <;> omega)); clear hc4 hf4) | (go_at_call 36; (with_reducible refine (IsFree_calls _ c (addR c d n) _ (HCal.out.below (by (repeat' (first | exact Below.refl _ _ | assumption | refine below_new ?_ _ | refine below_draw ?_ | refine below_tail (by assumption) ?_ | refine below_set ?_ (by first | omega | (simp <;> omega)) _))))).use ?_); intro w5 hb5 hz5 hc5 hf5; (try simp at hz5); have hy5 : w.heap.size < w5.heap.size := (by omega); have hx50 := fun o => hc5 (w.heap.size) o (by first | omega | (simp <;> omega)); clear hc5 hf5) | (go_at_call 18; (with_reducible refine (known_calls _).use ?_); intro w20 hb20 hz20 hc20 hf20; (try simp at hz20); have hy20 : w.heap.size < w20.heap.size := (by omega); have hx200 := fun o => hc20 (w.heap.size) o (by first | omega | (simp <;> omega)); clear hc20 hf20))
          go_ret
          exact ⟨rfl, by (repeat' (first | exact Below.refl _ _ | assumption | refine below_new ?_ _ | refine below_draw ?_ | refine below_tail (by assumption) ?_ | refine below_set ?_ (by first | omega | (simp <;> omega)) _))⟩
    · have a0 : (askedF c [d] [n] == 0) = false := by simpa using hz
      have a1 : (askedF c [d] [n] != 0) = true := by simpa using hz
      clear hz
      go_enter Try.func14, Try.ntmps14
      go_wp2_with (first | (go_at_call 17; (with_reducible refine (long_calls _ c _ (HCal.out.below (by (repeat' (first | exact Below.refl _ _ | assumption | refine below_new ?_ _ | refine below_draw ?_ | refine below_tail (by assumption) ?_ | refine below_set ?_ (by first | omega | (simp <;> omega)) _))))).use ?_); intro w1 hb1 hz1 hc1 hf1; (try simp at hz1); have hy1 : w.heap.size < w1.heap.size := (by omega); have hx10 := fun o => hc1 (w.heap.size) o (by first | omega | (simp <;> omega)); clear hc1 hf1; rw [hL]) | (go_at_call 29; (with_reducible refine (AddWork_calls _ c d n _ (HCal.out.below (by (repeat' (first | exact Below.refl _ _ | assumption | refine below_new ?_ _ | refine below_draw ?_ | refine below_tail (by assumption) ?_ | refine below_set ?_ (by first | omega | (simp <;> omega)) _))))).use ?_); intro w2 hb2 hz2 hc2 hf2; (try simp at hz2); have hy2 : w.heap.size < w2.heap.size := (by omega); have hx20 := fun o => hc2 (w.heap.size) o (by first | omega | (simp <;> omega)); clear hc2 hf2) | (go_at_call 49; (with_reducible refine (rAddWork_calls _ c d n _ (HCal.out.below (by (repeat' (first | exact Below.refl _ _ | assumption | refine below_new ?_ _ | refine below_draw ?_ | refine below_tail (by assumption) ?_ | refine below_set ?_ (by first | omega | (simp <;> omega)) _))))).use ?_); intro w3 hb3 hz3 hc3 hf3; (try simp at hz3); have hy3 : w.heap.size < w3.heap.size := (by omega); have hx30 := fun o => hc3 (w.heap.size) o (by first | omega | (simp <;> omega)); clear hc3 hf3) | (go_at_call 45; (with_reducible refine (Work_calls _ c (d + 1) (addR c d n) _ (HCal.out.below (by (repeat' (first | exact Below.refl _ _ | assumption | refine below_new ?_ _ | refine below_draw ?_ | refine below_tail (by assumption) ?_ | refine below_set ?_ (by first | omega | (simp <;> omega)) _))))).use ?_); intro w4 hb4 hz4 hc4 hf4; (try simp at hz4); have hy4 : w.heap.size < w4.heap.size := (by omega); have hx40 := fun o => hc4 (w.heap.size) o (by first | omega | (simp <;> omega)); clear hc4 hf4) | (go_at_call 36; (with_reducible refine (IsFree_calls _ c (addR c d n) _ (HCal.out.below (by (repeat' (first | exact Below.refl _ _ | assumption | refine below_new ?_ _ | refine below_draw ?_ | refine below_tail (by assumption) ?_ | refine below_set ?_ (by first | omega | (simp <;> omega)) _))))).use ?_); intro w5 hb5 hz5 hc5 hf5; (try simp at hz5); have hy5 : w.heap.size < w5.heap.size := (by omega); have hx50 := fun o => hc5 (w.heap.size) o (by first | omega | (simp <;> omega)); clear hc5 hf5) | (go_at_call 18; (with_reducible refine (known_calls _).use ?_); intro w20 hb20 hz20 hc20 hf20; (try simp at hz20); have hy20 : w.heap.size < w20.heap.size := (by omega); have hx200 := fun o => hc20 (w.heap.size) o (by first | omega | (simp <;> omega)); clear hc20 hf20))
      go_ret
      exact ⟨rfl, by (repeat' (first | exact Below.refl _ _ | assumption | refine below_new ?_ _ | refine below_draw ?_ | refine below_tail (by assumption) ?_ | refine below_set ?_ (by first | omega | (simp <;> omega)) _))⟩
  · go_enter Try.func14, Try.ntmps14
    go_wp2_with (first | (go_at_call 17; (with_reducible refine (long_calls _ c _ (HCal.out.below (by (repeat' (first | exact Below.refl _ _ | assumption | refine below_new ?_ _ | refine below_draw ?_ | refine below_tail (by assumption) ?_ | refine below_set ?_ (by first | omega | (simp <;> omega)) _))))).use ?_); intro w1 hb1 hz1 hc1 hf1; (try simp at hz1); have hy1 : w.heap.size < w1.heap.size := (by omega); have hx10 := fun o => hc1 (w.heap.size) o (by first | omega | (simp <;> omega)); clear hc1 hf1; rw [hL]) | (go_at_call 18; (with_reducible refine (known_calls _).use ?_); intro w20 hb20 hz20 hc20 hf20; (try simp at hz20); have hy20 : w.heap.size < w20.heap.size := (by omega); have hx200 := fun o => hc20 (w.heap.size) o (by first | omega | (simp <;> omega)); clear hc20 hf20))
    go_ret
    exact ⟨rfl, by (repeat' (first | exact Below.refl _ _ | assumption | refine below_new ?_ _ | refine below_draw ?_ | refine below_tail (by assumption) ?_ | refine below_set ?_ (by first | omega | (simp <;> omega)) _))⟩
end Go.Proofs.Ytnhohnnoffhkhaa
