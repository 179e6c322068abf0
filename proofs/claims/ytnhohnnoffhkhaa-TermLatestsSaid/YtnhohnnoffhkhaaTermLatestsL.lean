/- The law TermLatests: its walk. Conditions: a calendar lies in memory as said. -/
import Derived.Test.YtnhohnnoffhkhaaTermKnown
import Derived.Test.YtnhohnnoffhkhaaTermLatest
namespace Go.Proofs.Ytnhohnnoffhkhaa
open Go.RowKit

theorem lastDay_max {p : Int → Bool} {g : Int} : ∀ (n : Nat) (e : Int), lastDay p n e = some g → g ≤ e ∧ p g = true ∧ e - n < g ∧ ∀ x, g < x → x ≤ e → p x = false
  | 0, _, h => by cases h
  | n + 1, e, h => by
    unfold lastDay at h
    by_cases hp : p e = true
    · rw [if_pos hp] at h; obtain rfl := Option.some.inj h; exact ⟨Int.le_refl _, hp, by omega, fun x h1 h2 => by omega⟩
    · rw [if_neg hp] at h
      obtain ⟨h1, h2, h3, h4⟩ := lastDay_max n (e - 1) h
      refine ⟨by omega, h2, by omega, fun x h5 h6 => ?_⟩
      rcases Int.lt_or_le x e with u | u
      · exact h4 x h5 (by omega)
      · rw [show x = e by omega]; simpa using hp
theorem lastDay_not {p : Int → Bool} : ∀ (n : Nat) (e : Int), lastDay p n e = none → ∀ x, e - n < x → x ≤ e → p x = false
  | 0, _, _ => fun x h1 h2 => by omega
  | n + 1, e, h => by
    unfold lastDay at h
    by_cases hp : p e = true
    · rw [if_pos hp] at h; cases h
    · rw [if_neg hp] at h
      intro x h1 h2
      rcases Int.lt_or_le x e with u | u
      · exact lastDay_not n (e - 1) h x (by omega) (by omega)
      · rw [show x = e by omega]; simpa using hp
theorem latest_facts {c : Cal} {e n : Int} (hz : askedF c [e] [n] = 0) :
    (latestI c e n = true → askedF c [latestV c e n] [n] = 0 ∧ endsR c (latestV c e n) n ≤ e ∧ 0 ≤ latestV c e n ∧ latestV c e n ≤ 10000 ∧ (askedF c [latestV c e n + 1] [n] = 0 → e < endsR c (latestV c e n + 1) n)) ∧
    (latestI c e n = false → askedF c [latestV c e n] [n] = 0 ∧ e < endsR c (latestV c e n) n ∧ latestV c e n = 0) := by
  obtain ⟨hv, g1, g2, g3, g4⟩ := asked_term hz
  have e1 : latestR c e n = latestF c e n := by unfold latestR; rw [if_pos hz]
  refine ⟨fun hI => ?_, fun hI => ?_⟩
  · unfold latestI at hI
    obtain ⟨g, hg⟩ := Option.isSome_iff_exists.1 hI
    have hV : latestV c e n = g := by unfold latestV; rw [hg]; rfl
    rw [hV]
    rw [e1] at hg
    obtain ⟨h1, h2, h3, h4⟩ := lastDay_max _ _ hg
    have h2 := of_decide_eq_true h2
    have o1 : askedF c [g] [n] = 0 := asked_of hv (by intro x hx; simp at hx; omega) (by intro x hx; simp at hx; omega)
    refine ⟨o1, by unfold endsR; rw [if_pos o1]; exact h2, by omega, by omega, fun o2 => ?_⟩
    unfold endsR; rw [if_pos o2]
    by_cases h5 : g + 1 ≤ e
    · have := of_decide_eq_false (h4 (g + 1) (by omega) h5); omega
    · have := ends_ge hv (d := g + 1) (n := n) (by omega) g3 (by omega); omega
  · have hN : latestR c e n = none := by unfold latestI at hI; simpa using hI
    have hV : latestV c e n = 0 := by unfold latestV; rw [hN]; rfl
    rw [hV]
    rw [e1] at hN
    have h1 := of_decide_eq_false (lastDay_not _ _ hN 0 (by omega) g1)
    have o1 : askedF c [0] [n] = 0 := asked_of hv (by intro x hx; simp at hx; omega) (by intro x hx; simp at hx; omega)
    exact ⟨o1, by unfold endsR; rw [if_pos o1]; omega, rfl⟩

set_option maxHeartbeats 4000000 in
set_option maxRecDepth 100000 in
theorem termLatests_calls (v : Value) (c : Cal) (e n : Int) (w : World) (h : CalAt w v c) :
    Gives Try.prog 6 #[v, .int .i64 e, .int .i64 n] w (.bool true) := by
  obtain ⟨fa, fc, sa, sc, rfl, hf, hs, hfc, hsc, hfl, hsl⟩ := h.cells
  have HCal := Lib.hid h
  clear h hf hs
  unfold Gives
  cases hL : (decide (100 < c.free.length) || decide (100 < c.still.length))
  · have s0 : (latestV c e n == latestV c e n) = true := by simp
    have s1 : (latestV c e n != latestV c e n) = false := by simp
    have s2 : (askedF c [e] [n] == askedF c [e] [n]) = true := by simp
    have s3 : (askedF c [e] [n] != askedF c [e] [n]) = false := by simp
    have s4 : (latestI c e n == latestI c e n) = true := by simp
    have s5 : (latestI c e n != latestI c e n) = false := by simp
    by_cases hz : askedF c [e] [n] = 0
    · have a0 : (askedF c [e] [n] == 0) = true := by simpa using hz
      have a1 : (askedF c [e] [n] != 0) = false := by simpa using hz
      have hF := latest_facts hz
      cases hI : latestI c e n
      · have f1 := hF.2 hI
        have f2 : (askedF c [latestV c e n] [n] != 0) = false := by simpa using f1.1
        have f3 : decide (endsR c (latestV c e n) n ≤ e) = false := by simp; exact f1.2.1
        have f4 : decide (e < endsR c (latestV c e n) n) = true := by simpa using f1.2.1
        have f5 := f1.2.2
        have f6 : 0 ≤ latestV c e n := by omega
        have f7 : latestV c e n ≤ 10000 := by omega
        clear hF f1 hz f5
        rw [hI] at s4 s5
        go_enter Try.func6, Try.ntmps6
        go_wp2_with (first | (go_at_call 17; (with_reducible refine (long_calls _ c _ (HCal.out.below (by (repeat' (first | exact Below.refl _ _ | assumption | refine below_new ?_ _ | refine below_draw ?_ | refine below_tail (by assumption) ?_ | refine below_set ?_ (by first | omega | (simp <;> omega)) _))))).use ?_); intro w1 hb1 hz1 hc1 hf1; (try simp at hz1); have hy1 : w.heap.size < w1.heap.size := (by omega); have hx10 := fun o => hc1 (w.heap.size) o (by first | omega | (simp <;> omega)); clear hc1 hf1; rw [hL]) | (go_at_call 25; (with_reducible refine (Latest_calls _ c e n _ (HCal.out.below (by (repeat' (first | exact Below.refl _ _ | assumption | refine below_new ?_ _ | refine below_draw ?_ | refine below_tail (by assumption) ?_ | refine below_set ?_ (by first | omega | (simp <;> omega)) _))))).use ?_); intro w2 hb2 hz2 hc2 hf2; (try simp at hz2); have hy2 : w.heap.size < w2.heap.size := (by omega); have hx20 := fun o => hc2 (w.heap.size) o (by first | omega | (simp <;> omega)); clear hc2 hf2) | (go_at_call 26; (with_reducible refine (rLatest_calls _ c e n _ (HCal.out.below (by (repeat' (first | exact Below.refl _ _ | assumption | refine below_new ?_ _ | refine below_draw ?_ | refine below_tail (by assumption) ?_ | refine below_set ?_ (by first | omega | (simp <;> omega)) _))))).use ?_); intro w3 hb3 hz3 hc3 hf3; (try simp at hz3); have hy3 : w.heap.size < w3.heap.size := (by omega); have hx30 := fun o => hc3 (w.heap.size) o (by first | omega | (simp <;> omega)); clear hc3 hf3) | (go_at_call 19; (with_reducible refine (Ends_calls _ c (latestV c e n) n _ (HCal.out.below (by (repeat' (first | exact Below.refl _ _ | assumption | refine below_new ?_ _ | refine below_draw ?_ | refine below_tail (by assumption) ?_ | refine below_set ?_ (by first | omega | (simp <;> omega)) _))))).use ?_); intro w4 hb4 hz4 hc4 hf4; (try simp at hz4); have hy4 : w.heap.size < w4.heap.size := (by omega); have hx40 := fun o => hc4 (w.heap.size) o (by first | omega | (simp <;> omega)); clear hc4 hf4) | (go_at_call 19; (with_reducible refine (Ends_calls _ c (latestV c e n + 1) n _ (HCal.out.below (by (repeat' (first | exact Below.refl _ _ | assumption | refine below_new ?_ _ | refine below_draw ?_ | refine below_tail (by assumption) ?_ | refine below_set ?_ (by first | omega | (simp <;> omega)) _))))).use ?_); intro w5 hb5 hz5 hc5 hf5; (try simp at hz5); have hy5 : w.heap.size < w5.heap.size := (by omega); have hx50 := fun o => hc5 (w.heap.size) o (by first | omega | (simp <;> omega)); clear hc5 hf5) | (go_at_call 18; (with_reducible refine (known_calls _).use ?_); intro w20 hb20 hz20 hc20 hf20; (try simp at hz20); have hy20 : w.heap.size < w20.heap.size := (by omega); have hx200 := fun o => hc20 (w.heap.size) o (by first | omega | (simp <;> omega)); clear hc20 hf20))
        go_ret
        exact ⟨rfl, by (repeat' (first | exact Below.refl _ _ | assumption | refine below_new ?_ _ | refine below_draw ?_ | refine below_tail (by assumption) ?_ | refine below_set ?_ (by first | omega | (simp <;> omega)) _))⟩
      · have f1 := hF.1 hI
        have f2 : (askedF c [latestV c e n] [n] != 0) = false := by simpa using f1.1
        have f2b : (askedF c [latestV c e n] [n] == 0) = true := by simpa using f1.1
        have f3 : decide (e < endsR c (latestV c e n) n) = false := by simp; exact f1.2.1
        have f4 := f1.2.2.1
        have f5 := f1.2.2.2.1
        have f6 := f1.2.2.2.2
        have f7 : decide (endsR c (latestV c e n) n ≤ e) = true := by simpa using f1.2.1
        clear hF f1 hz
        rw [hI] at s4 s5
        by_cases hy : askedF c [latestV c e n + 1] [n] = 0
        · have g1 : (askedF c [latestV c e n + 1] [n] != 0) = false := by simpa using hy
          have g2 : decide (e < endsR c (latestV c e n + 1) n) = true := by simpa using f6 hy
          clear hy f6
          go_enter Try.func6, Try.ntmps6
          go_wp2_with (first | (go_at_call 17; (with_reducible refine (long_calls _ c _ (HCal.out.below (by (repeat' (first | exact Below.refl _ _ | assumption | refine below_new ?_ _ | refine below_draw ?_ | refine below_tail (by assumption) ?_ | refine below_set ?_ (by first | omega | (simp <;> omega)) _))))).use ?_); intro w1 hb1 hz1 hc1 hf1; (try simp at hz1); have hy1 : w.heap.size < w1.heap.size := (by omega); have hx10 := fun o => hc1 (w.heap.size) o (by first | omega | (simp <;> omega)); clear hc1 hf1; rw [hL]) | (go_at_call 25; (with_reducible refine (Latest_calls _ c e n _ (HCal.out.below (by (repeat' (first | exact Below.refl _ _ | assumption | refine below_new ?_ _ | refine below_draw ?_ | refine below_tail (by assumption) ?_ | refine below_set ?_ (by first | omega | (simp <;> omega)) _))))).use ?_); intro w2 hb2 hz2 hc2 hf2; (try simp at hz2); have hy2 : w.heap.size < w2.heap.size := (by omega); have hx20 := fun o => hc2 (w.heap.size) o (by first | omega | (simp <;> omega)); clear hc2 hf2) | (go_at_call 26; (with_reducible refine (rLatest_calls _ c e n _ (HCal.out.below (by (repeat' (first | exact Below.refl _ _ | assumption | refine below_new ?_ _ | refine below_draw ?_ | refine below_tail (by assumption) ?_ | refine below_set ?_ (by first | omega | (simp <;> omega)) _))))).use ?_); intro w3 hb3 hz3 hc3 hf3; (try simp at hz3); have hy3 : w.heap.size < w3.heap.size := (by omega); have hx30 := fun o => hc3 (w.heap.size) o (by first | omega | (simp <;> omega)); clear hc3 hf3) | (go_at_call 19; (with_reducible refine (Ends_calls _ c (latestV c e n) n _ (HCal.out.below (by (repeat' (first | exact Below.refl _ _ | assumption | refine below_new ?_ _ | refine below_draw ?_ | refine below_tail (by assumption) ?_ | refine below_set ?_ (by first | omega | (simp <;> omega)) _))))).use ?_); intro w4 hb4 hz4 hc4 hf4; (try simp at hz4); have hy4 : w.heap.size < w4.heap.size := (by omega); have hx40 := fun o => hc4 (w.heap.size) o (by first | omega | (simp <;> omega)); clear hc4 hf4) | (go_at_call 19; (with_reducible refine (Ends_calls _ c (latestV c e n + 1) n _ (HCal.out.below (by (repeat' (first | exact Below.refl _ _ | assumption | refine below_new ?_ _ | refine below_draw ?_ | refine below_tail (by assumption) ?_ | refine below_set ?_ (by first | omega | (simp <;> omega)) _))))).use ?_); intro w5 hb5 hz5 hc5 hf5; (try simp at hz5); have hy5 : w.heap.size < w5.heap.size := (by omega); have hx50 := fun o => hc5 (w.heap.size) o (by first | omega | (simp <;> omega)); clear hc5 hf5) | (go_at_call 18; (with_reducible refine (known_calls _).use ?_); intro w20 hb20 hz20 hc20 hf20; (try simp at hz20); have hy20 : w.heap.size < w20.heap.size := (by omega); have hx200 := fun o => hc20 (w.heap.size) o (by first | omega | (simp <;> omega)); clear hc20 hf20))
          go_ret
          exact ⟨rfl, by (repeat' (first | exact Below.refl _ _ | assumption | refine below_new ?_ _ | refine below_draw ?_ | refine below_tail (by assumption) ?_ | refine below_set ?_ (by first | omega | (simp <;> omega)) _))⟩
        · have g1 : (askedF c [latestV c e n + 1] [n] != 0) = true := by simpa using hy
          clear hy f6
          go_enter Try.func6, Try.ntmps6
          go_wp2_with (first | (go_at_call 17; (with_reducible refine (long_calls _ c _ (HCal.out.below (by (repeat' (first | exact Below.refl _ _ | assumption | refine below_new ?_ _ | refine below_draw ?_ | refine below_tail (by assumption) ?_ | refine below_set ?_ (by first | omega | (simp <;> omega)) _))))).use ?_); intro w1 hb1 hz1 hc1 hf1; (try simp at hz1); have hy1 : w.heap.size < w1.heap.size := (by omega); have hx10 := fun o => hc1 (w.heap.size) o (by first | omega | (simp <;> omega)); clear hc1 hf1; rw [hL]) | (go_at_call 25; (with_reducible refine (Latest_calls _ c e n _ (HCal.out.below (by (repeat' (first | exact Below.refl _ _ | assumption | refine below_new ?_ _ | refine below_draw ?_ | refine below_tail (by assumption) ?_ | refine below_set ?_ (by first | omega | (simp <;> omega)) _))))).use ?_); intro w2 hb2 hz2 hc2 hf2; (try simp at hz2); have hy2 : w.heap.size < w2.heap.size := (by omega); have hx20 := fun o => hc2 (w.heap.size) o (by first | omega | (simp <;> omega)); clear hc2 hf2) | (go_at_call 26; (with_reducible refine (rLatest_calls _ c e n _ (HCal.out.below (by (repeat' (first | exact Below.refl _ _ | assumption | refine below_new ?_ _ | refine below_draw ?_ | refine below_tail (by assumption) ?_ | refine below_set ?_ (by first | omega | (simp <;> omega)) _))))).use ?_); intro w3 hb3 hz3 hc3 hf3; (try simp at hz3); have hy3 : w.heap.size < w3.heap.size := (by omega); have hx30 := fun o => hc3 (w.heap.size) o (by first | omega | (simp <;> omega)); clear hc3 hf3) | (go_at_call 19; (with_reducible refine (Ends_calls _ c (latestV c e n) n _ (HCal.out.below (by (repeat' (first | exact Below.refl _ _ | assumption | refine below_new ?_ _ | refine below_draw ?_ | refine below_tail (by assumption) ?_ | refine below_set ?_ (by first | omega | (simp <;> omega)) _))))).use ?_); intro w4 hb4 hz4 hc4 hf4; (try simp at hz4); have hy4 : w.heap.size < w4.heap.size := (by omega); have hx40 := fun o => hc4 (w.heap.size) o (by first | omega | (simp <;> omega)); clear hc4 hf4) | (go_at_call 19; (with_reducible refine (Ends_calls _ c (latestV c e n + 1) n _ (HCal.out.below (by (repeat' (first | exact Below.refl _ _ | assumption | refine below_new ?_ _ | refine below_draw ?_ | refine below_tail (by assumption) ?_ | refine below_set ?_ (by first | omega | (simp <;> omega)) _))))).use ?_); intro w5 hb5 hz5 hc5 hf5; (try simp at hz5); have hy5 : w.heap.size < w5.heap.size := (by omega); have hx50 := fun o => hc5 (w.heap.size) o (by first | omega | (simp <;> omega)); clear hc5 hf5) | (go_at_call 18; (with_reducible refine (known_calls _).use ?_); intro w20 hb20 hz20 hc20 hf20; (try simp at hz20); have hy20 : w.heap.size < w20.heap.size := (by omega); have hx200 := fun o => hc20 (w.heap.size) o (by first | omega | (simp <;> omega)); clear hc20 hf20))
          go_ret
          exact ⟨rfl, by (repeat' (first | exact Below.refl _ _ | assumption | refine below_new ?_ _ | refine below_draw ?_ | refine below_tail (by assumption) ?_ | refine below_set ?_ (by first | omega | (simp <;> omega)) _))⟩
    · have a0 : (askedF c [e] [n] == 0) = false := by simpa using hz
      have a1 : (askedF c [e] [n] != 0) = true := by simpa using hz
      clear hz
      go_enter Try.func6, Try.ntmps6
      go_wp2_with (first | (go_at_call 17; (with_reducible refine (long_calls _ c _ (HCal.out.below (by (repeat' (first | exact Below.refl _ _ | assumption | refine below_new ?_ _ | refine below_draw ?_ | refine below_tail (by assumption) ?_ | refine below_set ?_ (by first | omega | (simp <;> omega)) _))))).use ?_); intro w1 hb1 hz1 hc1 hf1; (try simp at hz1); have hy1 : w.heap.size < w1.heap.size := (by omega); have hx10 := fun o => hc1 (w.heap.size) o (by first | omega | (simp <;> omega)); clear hc1 hf1; rw [hL]) | (go_at_call 25; (with_reducible refine (Latest_calls _ c e n _ (HCal.out.below (by (repeat' (first | exact Below.refl _ _ | assumption | refine below_new ?_ _ | refine below_draw ?_ | refine below_tail (by assumption) ?_ | refine below_set ?_ (by first | omega | (simp <;> omega)) _))))).use ?_); intro w2 hb2 hz2 hc2 hf2; (try simp at hz2); have hy2 : w.heap.size < w2.heap.size := (by omega); have hx20 := fun o => hc2 (w.heap.size) o (by first | omega | (simp <;> omega)); clear hc2 hf2) | (go_at_call 26; (with_reducible refine (rLatest_calls _ c e n _ (HCal.out.below (by (repeat' (first | exact Below.refl _ _ | assumption | refine below_new ?_ _ | refine below_draw ?_ | refine below_tail (by assumption) ?_ | refine below_set ?_ (by first | omega | (simp <;> omega)) _))))).use ?_); intro w3 hb3 hz3 hc3 hf3; (try simp at hz3); have hy3 : w.heap.size < w3.heap.size := (by omega); have hx30 := fun o => hc3 (w.heap.size) o (by first | omega | (simp <;> omega)); clear hc3 hf3) | (go_at_call 19; (with_reducible refine (Ends_calls _ c (latestV c e n) n _ (HCal.out.below (by (repeat' (first | exact Below.refl _ _ | assumption | refine below_new ?_ _ | refine below_draw ?_ | refine below_tail (by assumption) ?_ | refine below_set ?_ (by first | omega | (simp <;> omega)) _))))).use ?_); intro w4 hb4 hz4 hc4 hf4; (try simp at hz4); have hy4 : w.heap.size < w4.heap.size := (by omega); have hx40 := fun o => hc4 (w.heap.size) o (by first | omega | (simp <;> omega)); clear hc4 hf4) | (go_at_call 19; (with_reducible refine (Ends_calls _ c (latestV c e n + 1) n _ (HCal.out.below (by (repeat' (first | exact Below.refl _ _ | assumption | refine below_new ?_ _ | refine below_draw ?_ | refine below_tail (by assumption) ?_ | refine below_set ?_ (by first | omega | (simp <;> omega)) _))))).use ?_); intro w5 hb5 hz5 hc5 hf5; (try simp at hz5); have hy5 : w.heap.size < w5.heap.size := (by omega); have hx50 := fun o => hc5 (w.heap.size) o (by first | omega | (simp <;> omega)); clear hc5 hf5) | (go_at_call 18; (with_reducible refine (known_calls _).use ?_); intro w20 hb20 hz20 hc20 hf20; (try simp at hz20); have hy20 : w.heap.size < w20.heap.size := (by omega); have hx200 := fun o => hc20 (w.heap.size) o (by first | omega | (simp <;> omega)); clear hc20 hf20))
      go_ret
      exact ⟨rfl, by (repeat' (first | exact Below.refl _ _ | assumption | refine below_new ?_ _ | refine below_draw ?_ | refine below_tail (by assumption) ?_ | refine below_set ?_ (by first | omega | (simp <;> omega)) _))⟩
  · go_enter Try.func6, Try.ntmps6
    go_wp2_with (first | (go_at_call 17; (with_reducible refine (long_calls _ c _ (HCal.out.below (by (repeat' (first | exact Below.refl _ _ | assumption | refine below_new ?_ _ | refine below_draw ?_ | refine below_tail (by assumption) ?_ | refine below_set ?_ (by first | omega | (simp <;> omega)) _))))).use ?_); intro w1 hb1 hz1 hc1 hf1; (try simp at hz1); have hy1 : w.heap.size < w1.heap.size := (by omega); have hx10 := fun o => hc1 (w.heap.size) o (by first | omega | (simp <;> omega)); clear hc1 hf1; rw [hL]) | (go_at_call 18; (with_reducible refine (known_calls _).use ?_); intro w20 hb20 hz20 hc20 hf20; (try simp at hz20); have hy20 : w.heap.size < w20.heap.size := (by omega); have hx200 := fun o => hc20 (w.heap.size) o (by first | omega | (simp <;> omega)); clear hc20 hf20))
    go_ret
    exact ⟨rfl, by (repeat' (first | exact Below.refl _ _ | assumption | refine below_new ?_ _ | refine below_draw ?_ | refine below_tail (by assumption) ?_ | refine below_set ?_ (by first | omega | (simp <;> omega)) _))⟩
end Go.Proofs.Ytnhohnnoffhkhaa
