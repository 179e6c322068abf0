/- The law TermChains: its walk. Conditions: a calendar and a list lie in memory as said. -/
import Derived.Test.YtnhohnnoffhkhaaTermKnown
import Derived.Test.YtnhohnnoffhkhaaTermChain
namespace Go.Proofs.Ytnhohnnoffhkhaa
open Go.RowKit

/-- The last end has seen all the days of all the terms. -/
theorem chain_last {c : Cal} (hv : validF c = 0) : ∀ (ts : List Int) (d : Int) (l : List Int), 0 ≤ d → d ≤ 10000 → (∀ t ∈ ts, 0 ≤ t ∧ t ≤ 400) → chainF c d ts = some l →
    l.length = ts.length ∧ (0 < l.length → d ≤ gi l 0 (l.length - 1) ∧ gi l 0 (l.length - 1) ≤ 10000 ∧ freeB c (gi l 0 (l.length - 1)) = false ∧ ts.sum ≤ cnt (fun y => !(stillB c y)) (d + 1) (gi l 0 (l.length - 1) - d).toNat)
  | [], _, l, _, _, _, h => by
    simp only [chainF, Option.some.injEq] at h
    subst h
    exact ⟨rfl, fun h => absurd h (by simp)⟩
  | n :: ns, d, l, h0, h1, ht, h => by
    unfold chainF at h
    by_cases hb : 10000 < endsF c d n
    · rw [if_pos hb] at h; cases h
    · rw [if_neg hb] at h
      obtain ⟨m, hm, rfl⟩ := Option.map_eq_some_iff.1 h
      have hn := ht n (by simp)
      obtain ⟨g1, g2, g3⟩ := endsF_first hv (day := d) (days := n) h0 hn.1 (by omega)
      unfold endB at g2
      rw [Bool.and_eq_true] at g2
      obtain ⟨g4, g5⟩ := g2
      have g4 := of_decide_eq_true g4
      have g5 : freeB c (endsF c d n) = false := by simpa using g5
      obtain ⟨i1, i2⟩ := chain_last hv ns (endsF c d n) m (by omega) (by omega) (fun t h => ht t (by simp [h])) hm
      refine ⟨by simp [i1], fun _ => ?_⟩
      rcases Nat.eq_zero_or_pos m.length with hm0 | hmp
      · have hns : ns = [] := List.eq_nil_of_length_eq_zero (by omega)
        have hmm : m = [] := List.eq_nil_of_length_eq_zero hm0
        subst hns hmm
        have e1 : gi [endsF c d n] 0 ([endsF c d n].length - 1) = endsF c d n := rfl
        rw [e1]
        exact ⟨g1, by omega, g5, by simp; exact g4⟩
      · obtain ⟨j1, j2, j3, j4⟩ := i2 hmp
        have e1 : gi (endsF c d n :: m) 0 ((endsF c d n :: m).length - 1) = gi m 0 (m.length - 1) := by
          unfold gi
          rw [List.length_cons, Nat.add_sub_cancel]
          obtain ⟨q, hq⟩ : ∃ q, m.length = q + 1 := ⟨m.length - 1, by omega⟩
          rw [hq]; rfl
        rw [e1]
        refine ⟨by omega, j2, j3, ?_⟩
        rw [List.sum_cons, show (gi m 0 (m.length - 1) - d).toNat = (endsF c d n - d).toNat + (gi m 0 (m.length - 1) - endsF c d n).toNat by omega, cnt_add,
          show d + 1 + ((endsF c d n - d).toNat : Int) = endsF c d n + 1 by omega]
        omega
theorem sum_take {ts : List Int} {k : Nat} (h : k < ts.length) : (ts.take (k + 1)).sum = (ts.take k).sum + gi ts 0 k := by
  unfold gi
  rw [List.take_succ_eq_append_getElem h, List.sum_append, List.getElem?_eq_getElem h]
  simp
theorem sum_bound {ts : List Int} (h : ∀ t ∈ ts, 0 ≤ t ∧ t ≤ 400) : 0 ≤ ts.sum ∧ ts.sum ≤ 400 * ts.length := by
  induction ts with
  | nil => simp
  | cons t ts ih =>
    have h1 := h t (by simp)
    have h2 := ih (fun t h' => h t (by simp [h']))
    simp only [List.sum_cons, List.length_cons]
    omega
theorem chains_facts {c : Cal} {d : Int} {ts : List Int} (h : chainE c d ts = 0) : askedF c [d] ts = 0 ∧ ts.length ≤ 10 ∧ (∀ k, k ≤ ts.length → 0 ≤ (ts.take k).sum ∧ (ts.take k).sum ≤ 4000) ∧ (∀ i, i < ts.length → 0 ≤ gi ts 0 i ∧ gi ts 0 i ≤ 400) ∧
    (0 < (chainL c d ts).length → askedF c [d] [ts.sum] = 0 → endsR c d ts.sum ≤ gi (chainL c d ts) 0 ((chainL c d ts).length - 1)) := by
  unfold chainE at h
  by_cases hz : askedF c [d] ts = 0
  · rw [if_pos hz] at h
    by_cases hl : 10 < ts.length
    · rw [if_pos hl] at h; exact absurd h (by decide)
    · rw [if_neg hl] at h
      obtain ⟨hv, h1, h2, h3⟩ := asked_terms hz
      have ht : ∀ t ∈ ts, 0 ≤ t ∧ t ≤ 400 := termsF_all (asked_all hz).2.2
      cases hc : chainF c d ts with
      | none => rw [hc] at h; exact absurd h (by decide)
      | some l =>
        refine ⟨hz, by omega, fun k hk => ?_, h3, fun hp hs => ?_⟩
        · have := sum_bound (ts := ts.take k) (fun t h' => ht t (List.mem_of_mem_take h'))
          rw [List.length_take] at this
          omega
        · have hL : chainL c d ts = l := by unfold chainL chainO; rw [if_pos hz, if_neg hl, hc]; rfl
          rw [hL] at hp ⊢
          obtain ⟨g1, g2⟩ := chain_last hv ts d l h1 h2 ht hc
          obtain ⟨j1, j2, j3, j4⟩ := g2 hp
          obtain ⟨_, _, _, s1, s2⟩ := asked_term hs
          unfold endsR; rw [if_pos hs]
          rcases Int.lt_or_le (gi l 0 (l.length - 1)) (endsF c d ts.sum) with u | u
          · have := (endsF_first hv (day := d) (days := ts.sum) h1 s1 (by omega)).2.2 _ j1 u
            unfold endB at this
            rw [j3, decide_eq_true j4] at this
            cases this
          · exact u
  · rw [if_neg hz] at h; exact absurd h hz

set_option maxHeartbeats 4000000 in
set_option maxRecDepth 100000 in
theorem termChains_calls (v tv : Value) (c : Cal) (d : Int) (ts : List Int) (w : World) (h : CalAt w v c) (ht : IntsAt w tv ts) :
    Gives Try.prog 7 #[v, .int .i64 d, tv] w (.bool true) := by
  obtain ⟨fa, fc, sa, sc, rfl, hf, hs, hfc, hsc, hfl, hsl⟩ := h.cells
  have HCal := Lib.hid h
  clear h hf hs
  unfold Gives
  have HT := Lib.hid ht
  obtain ⟨ta, tc, rfl, htl, htm, _⟩ := ht
  cases hL : (decide (100 < c.free.length) || decide (100 < c.still.length))
  · by_cases hlen : 100 < ts.length
    · have hl : decide ((100 : Int) < (ts.length : Int)) = true := by simp; omega
      go_enter Try.func7, Try.ntmps7
      go_wp2_with (first | (go_at_call 17; (with_reducible refine (long_calls _ c _ (HCal.out.below (by (repeat' (first | exact Below.refl _ _ | assumption | refine below_new ?_ _ | refine below_draw ?_ | refine below_tail (by assumption) ?_ | refine below_set ?_ (by first | omega | (simp <;> omega)) _))))).use ?_); intro w1 hb1 hz1 hc1 hf1; (try simp at hz1); have hy1 : w.heap.size < w1.heap.size := (by omega); have hx10 := fun o => hc1 (w.heap.size) o (by first | omega | (simp <;> omega)); clear hc1 hf1; rw [hL]) | (go_at_call 18; (with_reducible refine (known_calls _).use ?_); intro w20 hb20 hz20 hc20 hf20; (try simp at hz20); have hy20 : w.heap.size < w20.heap.size := (by omega); have hx200 := fun o => hc20 (w.heap.size) o (by first | omega | (simp <;> omega)); clear hc20 hf20))
      go_ret
      exact ⟨rfl, by (repeat' (first | exact Below.refl _ _ | assumption | refine below_new ?_ _ | refine below_draw ?_ | refine below_tail (by assumption) ?_ | refine below_set ?_ (by first | omega | (simp <;> omega)) _))⟩
    · have hl : decide ((100 : Int) < (ts.length : Int)) = false := by simp; omega
      have s0 : (chainE c d ts != chainE c d ts) = false := by simp
      by_cases hz : chainE c d ts = 0
      · have a0 : (chainE c d ts != 0) = false := by simpa using hz
        have HF := Lib.hid (chains_facts hz)
        rcases Nat.eq_zero_or_pos (chainL c d ts).length with hk | hk
        · have k0 : (((chainL c d ts).length : Int) == 0) = true := by simp [hk]
          clear hz hk
          go_enter Try.func7, Try.ntmps7
          go_wp2_with (first | (go_at_call 17; (with_reducible refine (long_calls _ c _ (HCal.out.below (by (repeat' (first | exact Below.refl _ _ | assumption | refine below_new ?_ _ | refine below_draw ?_ | refine below_tail (by assumption) ?_ | refine below_set ?_ (by first | omega | (simp <;> omega)) _))))).use ?_); intro w1 hb1 hz1 hc1 hf1; (try simp at hz1); have hy1 : w.heap.size < w1.heap.size := (by omega); have hx10 := fun o => hc1 (w.heap.size) o (by first | omega | (simp <;> omega)); clear hc1 hf1; rw [hL]) | (go_at_call 27; (with_reducible refine (Chain_calls _ _ c d ts _ (HCal.out.below (by (repeat' (first | exact Below.refl _ _ | assumption | refine below_new ?_ _ | refine below_draw ?_ | refine below_tail (by assumption) ?_ | refine below_set ?_ (by first | omega | (simp <;> omega)) _)))) (HT.out.below (by (repeat' (first | exact Below.refl _ _ | assumption | refine below_new ?_ _ | refine below_draw ?_ | refine below_tail (by assumption) ?_ | refine below_set ?_ (by first | omega | (simp <;> omega)) _))))).use ?_); intro a2 p2 w2 hb2 hz2 hc2 hf2 HI2; (try simp at hz2); have hy2 : w.heap.size < w2.heap.size := (by omega); have hx20 := fun o => hc2 (w.heap.size) o (by first | omega | (simp <;> omega)); clear hc2 hf2) | (go_at_call 28; (with_reducible refine (rChain_calls _ _ c d ts _ (HCal.out.below (by (repeat' (first | exact Below.refl _ _ | assumption | refine below_new ?_ _ | refine below_draw ?_ | refine below_tail (by assumption) ?_ | refine below_set ?_ (by first | omega | (simp <;> omega)) _)))) (HT.out.below (by (repeat' (first | exact Below.refl _ _ | assumption | refine below_new ?_ _ | refine below_draw ?_ | refine below_tail (by assumption) ?_ | refine below_set ?_ (by first | omega | (simp <;> omega)) _))))).use ?_); intro a3 p3 w3 hb3 hz3 hc3 hf3 HI3; (try simp at hz3); have hy3 : w.heap.size < w3.heap.size := (by omega); have hx30 := fun o => hc3 (w.heap.size) o (by first | omega | (simp <;> omega)); clear hc3 hf3) | (go_at_call 24; (with_reducible refine (sameInts_calls _ _ (chainL c d ts) _ (HI2.out.below (by (repeat' (first | exact Below.refl _ _ | assumption | refine below_new ?_ _ | refine below_draw ?_ | refine below_tail (by assumption) ?_ | refine below_set ?_ (by first | omega | (simp <;> omega)) _)))) HI3.out).use ?_); intro w4 hb4 hz4 hc4 hf4; (try simp at hz4); have hy4 : w.heap.size < w4.heap.size := (by omega); have hx40 := fun o => hc4 (w.heap.size) o (by first | omega | (simp <;> omega)); clear hc4 hf4) | (go_at_call 18; (with_reducible refine (known_calls _).use ?_); intro w20 hb20 hz20 hc20 hf20; (try simp at hz20); have hy20 : w.heap.size < w20.heap.size := (by omega); have hx200 := fun o => hc20 (w.heap.size) o (by first | omega | (simp <;> omega)); clear hc20 hf20))
          go_ret
          exact ⟨rfl, by (repeat' (first | exact Below.refl _ _ | assumption | refine below_new ?_ _ | refine below_draw ?_ | refine below_tail (by assumption) ?_ | refine below_set ?_ (by first | omega | (simp <;> omega)) _))⟩
        · obtain ⟨q, hq⟩ : ∃ q, (chainL c d ts).length = q + 1 := ⟨(chainL c d ts).length - 1, by omega⟩
          have k0 : (((chainL c d ts).length : Int) == 0) = false := beq_eq_false_iff_ne.2 (by omega)
          have hq1 : ((chainL c d ts).length : Int) - 1 = (q : Int) := by omega
          have hq2 : q < (chainL c d ts).length := by omega
          have HQ := Lib.hid hq
          clear hz hk hq
          go_enter Try.func7, Try.ntmps7
          go_wp2_with (first | (go_at_call 17; (with_reducible refine (long_calls _ c _ (HCal.out.below (by (repeat' (first | exact Below.refl _ _ | assumption | refine below_new ?_ _ | refine below_draw ?_ | refine below_tail (by assumption) ?_ | refine below_set ?_ (by first | omega | (simp <;> omega)) _))))).use ?_); intro w1 hb1 hz1 hc1 hf1; (try simp at hz1); have hy1 : w.heap.size < w1.heap.size := (by omega); have hx10 := fun o => hc1 (w.heap.size) o (by first | omega | (simp <;> omega)); clear hc1 hf1; rw [hL]) | (go_at_call 27; (with_reducible refine (Chain_calls _ _ c d ts _ (HCal.out.below (by (repeat' (first | exact Below.refl _ _ | assumption | refine below_new ?_ _ | refine below_draw ?_ | refine below_tail (by assumption) ?_ | refine below_set ?_ (by first | omega | (simp <;> omega)) _)))) (HT.out.below (by (repeat' (first | exact Below.refl _ _ | assumption | refine below_new ?_ _ | refine below_draw ?_ | refine below_tail (by assumption) ?_ | refine below_set ?_ (by first | omega | (simp <;> omega)) _))))).use ?_); intro a2 p2 w2 hb2 hz2 hc2 hf2 HI2; (try simp at hz2); have hy2 : w.heap.size < w2.heap.size := (by omega); have hx20 := fun o => hc2 (w.heap.size) o (by first | omega | (simp <;> omega)); clear hc2 hf2) | (go_at_call 28; (with_reducible refine (rChain_calls _ _ c d ts _ (HCal.out.below (by (repeat' (first | exact Below.refl _ _ | assumption | refine below_new ?_ _ | refine below_draw ?_ | refine below_tail (by assumption) ?_ | refine below_set ?_ (by first | omega | (simp <;> omega)) _)))) (HT.out.below (by (repeat' (first | exact Below.refl _ _ | assumption | refine below_new ?_ _ | refine below_draw ?_ | refine below_tail (by assumption) ?_ | refine below_set ?_ (by first | omega | (simp <;> omega)) _))))).use ?_); intro a3 p3 w3 hb3 hz3 hc3 hf3 HI3; (try simp at hz3); have hy3 : w.heap.size < w3.heap.size := (by omega); have hx30 := fun o => hc3 (w.heap.size) o (by first | omega | (simp <;> omega)); clear hc3 hf3) | (go_at_call 24; (with_reducible refine (sameInts_calls _ _ (chainL c d ts) _ (HI2.out.below (by (repeat' (first | exact Below.refl _ _ | assumption | refine below_new ?_ _ | refine below_draw ?_ | refine below_tail (by assumption) ?_ | refine below_set ?_ (by first | omega | (simp <;> omega)) _)))) HI3.out).use ?_); intro w4 hb4 hz4 hc4 hf4; (try simp at hz4); have hy4 : w.heap.size < w4.heap.size := (by omega); have hx40 := fun o => hc4 (w.heap.size) o (by first | omega | (simp <;> omega)); clear hc4 hf4))
          have hw0 : Below w.heap.size w w4 := by (repeat' (first | exact Below.refl _ _ | assumption | refine below_new ?_ _ | refine below_draw ?_ | refine below_tail (by assumption) ?_ | refine below_set ?_ (by first | omega | (simp <;> omega)) _))
          have H2 := Lib.hid ((HI2.out.below hb3).below hb4)
          have e0 : w4.cell? ⟨w.heap.size, 0, none⟩ = some (.int .i64 c.first) := by simp [hx40, hx30, hx20, hx10, go_sem]
          have e1 : w4.cell? ⟨w.heap.size, 1, none⟩ = some (.slice fa c.free.length fc) := by simp [hx40, hx30, hx20, hx10, go_sem]
          have e2 : w4.cell? ⟨w.heap.size, 2, none⟩ = some (.slice sa c.still.length sc) := by simp [hx40, hx30, hx20, hx10, go_sem]
          go_loop [11, 12] (fun ss i => ∃ k : Nat, k ≤ ts.length ∧ i = .int .i64 k ∧ ss = .int .i64 (ts.take k).sum) (fun _ i => ts.length - (intOf i).toNat)
          case atStart => exact ⟨0, Nat.zero_le _, rfl, by simp⟩
          case round =>
            obtain ⟨k, hk1, rfl, rfl⟩ := hrel
            obtain ⟨s1, s2⟩ := HF.out.2.2.1 k hk1
            by_cases hlt : k < ts.length
            · have hg : decide ((k : Int) < (ts.length : Int)) = true := by simpa using hlt
              have hs := Lib.hid (sum_take hlt)
              obtain ⟨n1, n2⟩ := HF.out.2.2.2.1 k hlt
              obtain ⟨ta', tc', e3, _, _, hcell0⟩ := HT.out.below hw0
              simp only [Value.slice.injEq] at e3
              obtain ⟨rfl, _, rfl⟩ := e3
              obtain ⟨tb, tof, rfl, hB, hcell⟩ := hcell0 k hlt
              clear hcell0
              obtain ⟨s, hsum⟩ : ∃ s, (ts.take k).sum = s := ⟨_, rfl⟩
              rw [hsum] at s1 s2 ⊢
              have HS : Hid ((ts.take (k + 1)).sum = s + gi ts 0 k) := by unfold Hid; rw [hs.out, hsum]
              clear hs hsum
              go_wp2
              go_round
              case rel => exact ⟨k + 1, by omega, by go_num, by rw [HS.out]⟩
              case measure => simp [intOf]; omega
            · have hg : decide ((k : Int) < (ts.length : Int)) = false := by simpa using hlt
              rw [List.take_of_length_le (by omega)] at s1 s2 ⊢
              obtain ⟨s, hsum⟩ : ∃ s, ts.sum = s := ⟨_, rfl⟩
              have HF5 := Lib.hid (HF.out.2.2.2.2)
              rw [hsum] at s1 s2 HF5 ⊢
              clear hsum
              obtain ⟨a2', p2', e3, _, _, hcell0⟩ := H2.out
              simp only [Value.slice.injEq] at e3
              obtain ⟨rfl, _, rfl⟩ := e3
              obtain ⟨tb, tof, rfl, hB, hcell⟩ := hcell0 q hq2
              clear hcell0
              by_cases hy : askedF c [d] [s] = 0
              · have g1 : (askedF c [d] [s] != 0) = false := by simpa using hy
                have g2 : decide (endsR c d s ≤ gi (chainL c d ts) 0 q) = true := by
                  have := HF5.out (by omega) hy
                  have hq := HQ.out
                  rw [show (chainL c d ts).length - 1 = q by omega] at this
                  simpa using this
                go_wp2_with (first | (go_at_call 19; (with_reducible refine (Ends_calls _ c d s _ (HCal.out.below (by (repeat' (first | exact Below.refl _ _ | assumption | refine below_new ?_ _ | refine below_draw ?_ | refine below_tail (by assumption) ?_ | refine below_set ?_ (by first | omega | (simp <;> omega)) _))))).use ?_); intro w5 hb5 hz5 hc5 hf5; have hcell5 := (hc5 tb (tof + q) hB).trans hcell; have hy5 : w.heap.size < w5.heap.size := (by omega); have hx50 := fun o => hc5 (w.heap.size) o (by omega)) | (go_at_call 18; (with_reducible refine (known_calls _).use ?_); intro w6 hb6 hz6 hc6 hf6))
                go_ret
                exact ⟨rfl, by (repeat' (first | exact Below.refl _ _ | assumption | refine below_new ?_ _ | refine below_draw ?_ | refine below_tail (by assumption) ?_ | refine below_set ?_ (by first | omega | (simp <;> omega)) _))⟩
              · have g1 : (askedF c [d] [s] != 0) = true := by simpa using hy
                go_wp2_with (first | (go_at_call 19; (with_reducible refine (Ends_calls _ c d s _ (HCal.out.below (by (repeat' (first | exact Below.refl _ _ | assumption | refine below_new ?_ _ | refine below_draw ?_ | refine below_tail (by assumption) ?_ | refine below_set ?_ (by first | omega | (simp <;> omega)) _))))).use ?_); intro w5 hb5 hz5 hc5 hf5) | (go_at_call 18; (with_reducible refine (known_calls _).use ?_); intro w6 hb6 hz6 hc6 hf6))
                go_ret
                exact ⟨rfl, by (repeat' (first | exact Below.refl _ _ | assumption | refine below_new ?_ _ | refine below_draw ?_ | refine below_tail (by assumption) ?_ | refine below_set ?_ (by first | omega | (simp <;> omega)) _))⟩
      · have a0 : (chainE c d ts != 0) = true := by simpa using hz
        clear hz
        go_enter Try.func7, Try.ntmps7
        go_wp2_with (first | (go_at_call 17; (with_reducible refine (long_calls _ c _ (HCal.out.below (by (repeat' (first | exact Below.refl _ _ | assumption | refine below_new ?_ _ | refine below_draw ?_ | refine below_tail (by assumption) ?_ | refine below_set ?_ (by first | omega | (simp <;> omega)) _))))).use ?_); intro w1 hb1 hz1 hc1 hf1; (try simp at hz1); have hy1 : w.heap.size < w1.heap.size := (by omega); have hx10 := fun o => hc1 (w.heap.size) o (by first | omega | (simp <;> omega)); clear hc1 hf1; rw [hL]) | (go_at_call 27; (with_reducible refine (Chain_calls _ _ c d ts _ (HCal.out.below (by (repeat' (first | exact Below.refl _ _ | assumption | refine below_new ?_ _ | refine below_draw ?_ | refine below_tail (by assumption) ?_ | refine below_set ?_ (by first | omega | (simp <;> omega)) _)))) (HT.out.below (by (repeat' (first | exact Below.refl _ _ | assumption | refine below_new ?_ _ | refine below_draw ?_ | refine below_tail (by assumption) ?_ | refine below_set ?_ (by first | omega | (simp <;> omega)) _))))).use ?_); intro a2 p2 w2 hb2 hz2 hc2 hf2 HI2; (try simp at hz2); have hy2 : w.heap.size < w2.heap.size := (by omega); have hx20 := fun o => hc2 (w.heap.size) o (by first | omega | (simp <;> omega)); clear hc2 hf2) | (go_at_call 28; (with_reducible refine (rChain_calls _ _ c d ts _ (HCal.out.below (by (repeat' (first | exact Below.refl _ _ | assumption | refine below_new ?_ _ | refine below_draw ?_ | refine below_tail (by assumption) ?_ | refine below_set ?_ (by first | omega | (simp <;> omega)) _)))) (HT.out.below (by (repeat' (first | exact Below.refl _ _ | assumption | refine below_new ?_ _ | refine below_draw ?_ | refine below_tail (by assumption) ?_ | refine below_set ?_ (by first | omega | (simp <;> omega)) _))))).use ?_); intro a3 p3 w3 hb3 hz3 hc3 hf3 HI3; (try simp at hz3); have hy3 : w.heap.size < w3.heap.size := (by omega); have hx30 := fun o => hc3 (w.heap.size) o (by first | omega | (simp <;> omega)); clear hc3 hf3) | (go_at_call 24; (with_reducible refine (sameInts_calls _ _ (chainL c d ts) _ (HI2.out.below (by (repeat' (first | exact Below.refl _ _ | assumption | refine below_new ?_ _ | refine below_draw ?_ | refine below_tail (by assumption) ?_ | refine below_set ?_ (by first | omega | (simp <;> omega)) _)))) HI3.out).use ?_); intro w4 hb4 hz4 hc4 hf4; (try simp at hz4); have hy4 : w.heap.size < w4.heap.size := (by omega); have hx40 := fun o => hc4 (w.heap.size) o (by first | omega | (simp <;> omega)); clear hc4 hf4) | (go_at_call 18; (with_reducible refine (known_calls _).use ?_); intro w20 hb20 hz20 hc20 hf20; (try simp at hz20); have hy20 : w.heap.size < w20.heap.size := (by omega); have hx200 := fun o => hc20 (w.heap.size) o (by first | omega | (simp <;> omega)); clear hc20 hf20))
        go_ret
        exact ⟨rfl, by (repeat' (first | exact Below.refl _ _ | assumption | refine below_new ?_ _ | refine below_draw ?_ | refine below_tail (by assumption) ?_ | refine below_set ?_ (by first | omega | (simp <;> omega)) _))⟩
  · go_enter Try.func7, Try.ntmps7
    go_wp2_with (first | (go_at_call 17; (with_reducible refine (long_calls _ c _ (HCal.out.below (by (repeat' (first | exact Below.refl _ _ | assumption | refine below_new ?_ _ | refine below_draw ?_ | refine below_tail (by assumption) ?_ | refine below_set ?_ (by first | omega | (simp <;> omega)) _))))).use ?_); intro w1 hb1 hz1 hc1 hf1; (try simp at hz1); have hy1 : w.heap.size < w1.heap.size := (by omega); have hx10 := fun o => hc1 (w.heap.size) o (by first | omega | (simp <;> omega)); clear hc1 hf1; rw [hL]) | (go_at_call 18; (with_reducible refine (known_calls _).use ?_); intro w20 hb20 hz20 hc20 hf20; (try simp at hz20); have hy20 : w.heap.size < w20.heap.size := (by omega); have hx200 := fun o => hc20 (w.heap.size) o (by first | omega | (simp <;> omega)); clear hc20 hf20))
    go_ret
    exact ⟨rfl, by (repeat' (first | exact Below.refl _ _ | assumption | refine below_new ?_ _ | refine below_draw ?_ | refine below_tail (by assumption) ?_ | refine below_set ?_ (by first | omega | (simp <;> omega)) _))⟩
end Go.Proofs.Ytnhohnnoffhkhaa
