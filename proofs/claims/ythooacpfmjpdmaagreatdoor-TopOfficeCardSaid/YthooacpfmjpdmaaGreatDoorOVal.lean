/- Sums of lists, which numbers are claims, equal lists, lists in new memory. Conditions: the lists lie in memory as said, and are small. -/
import Derived.Test.YthooacpfmjpdmaaGreatDoorOErr
import Derived.Laws.CopyOwn
import Derived.Lib.SliceRun
namespace Go.Proofs.YthooacpfmjpdmaaGreatDoor
open Go.RowKit

def sumI : List Int → Int
  | [] => 0
  | x :: l => x + sumI l
theorem sumI_append (l m : List Int) : sumI (l ++ m) = sumI l + sumI m := by
  induction l with
  | nil => simp [sumI]
  | cons x l ih => simp only [List.cons_append, sumI, ih]; omega
theorem sumI_succ {l : List Int} {k : Nat} (h : k < l.length) : sumI (l.take (k + 1)) = sumI (l.take k) + gi l 0 k := by
  rw [List.take_succ_eq_append_getElem h, sumI_append, gi_lt h]; simp [sumI]
/-- Few and small numbers. -/
def Few (l : List Int) : Prop := l.length ≤ 1000 ∧ ∀ x ∈ l, -1000000000 ≤ x ∧ x ≤ 1000000000
theorem sumI_bound {l : List Int} (h : ∀ x ∈ l, -1000000000 ≤ x ∧ x ≤ 1000000000) : -(1000000000 * (l.length : Int)) ≤ sumI l ∧ sumI l ≤ 1000000000 * (l.length : Int) := by
  induction l with
  | nil => simp [sumI]
  | cons x l ih =>
    have h1 := ih (fun y hy => h y (List.mem_cons_of_mem _ hy))
    have h2 := h x (List.mem_cons_self ..)
    simp only [sumI, List.length_cons]
    omega
theorem few_sum {l : List Int} (h : Few l) (k : Nat) : -1000000000000 ≤ sumI (l.take k) ∧ sumI (l.take k) ≤ 1000000000000 := by
  have h1 := sumI_bound (l := l.take k) (fun x hx => h.2 x (List.mem_of_mem_take hx))
  have h2 := h.1
  rw [List.length_take] at h1
  omega
set_option maxHeartbeats 400000 in
theorem total_calls (v : Value) (l : List Int) (w : World) (h : IntsAt w v l) (hs : Few l) : Same Tryz.prog 72 #[v] w (.int .i64 (sumI l)) := by
  have HI := Lib.hid h
  have HS := Lib.hid hs
  obtain ⟨a, cap, rfl, hlc, hcm, -⟩ := h
  clear hs
  unfold Same
  go_enter Tryz.func72, Tryz.ntmps72
  go_wp2
  go_loop [3, 8] (fun s i => ∃ k : Nat, k ≤ l.length ∧ i = .int .i64 k ∧ s = .int .i64 (sumI (l.take k))) (fun _ i => l.length - (intOf i).toNat)
  case atStart => exact ⟨0, Nat.zero_le _, rfl, rfl⟩
  case round =>
    obtain ⟨k, hk, rfl, rfl⟩ := hrel
    by_cases hlt : k < l.length
    · obtain ⟨b, o, rfl, hB, hcell⟩ := HI.out.cellAt hlt
      have H1 := Lib.hid (sumI_succ hlt)
      have hb1 := few_sum HS.out k
      have hb2 := few_sum HS.out (k + 1)
      rw [H1.out] at hb2
      obtain ⟨x, hx⟩ : ∃ x, gi l 0 k = x := ⟨_, rfl⟩
      obtain ⟨s, hs⟩ : ∃ s, sumI (l.take k) = s := ⟨_, rfl⟩
      rw [hx, hs] at H1 hb2
      rw [hs] at hb1
      rw [hx] at hcell
      rw [hs]
      have hw : IntKind.i64.wrap (s + x) = s + x := IntWalk.i64_in _ (by omega)
      have hw6 : IntKind.i64.wrap ((k : Int) + 1) = (k : Int) + 1 := IntWalk.i64_in _ (by omega)
      clear hx hs
      go_wp2
      go_round
      case rel => exact ⟨k + 1, by omega, by go_num, by rw [H1.out]⟩
      case measure => simp [intOf]; omega
    · obtain rfl : k = l.length := by omega
      go_wp2
      go_ret
      exact ⟨by simp, rfl⟩
theorem total_is {v : Value} {l : List Int} {s : Int} {w : World} (h : IntsAt w v l) (hf : Few l) (hs : sumI l = s) : Same Tryz.prog 72 #[v] w (.int .i64 s) := hs ▸ total_calls v l w h hf
set_option maxHeartbeats 400000 in
theorem ctotal_calls (v : Value) (l : List Int) (w : World) (h : IntsAt w v l) (hs : Few l) : Same Tryz.prog 110 #[v] w (.int .i64 (sumI l)) := by
  have HI := Lib.hid h
  have HS := Lib.hid hs
  obtain ⟨a, cap, rfl, hlc, hcm, -⟩ := h
  clear hs
  unfold Same
  go_enter Tryz.func110, Tryz.ntmps110
  go_wp2
  go_loop [3, 8] (fun s i => ∃ k : Nat, k ≤ l.length ∧ i = .int .i64 k ∧ s = .int .i64 (sumI (l.take k))) (fun _ i => l.length - (intOf i).toNat)
  case atStart => exact ⟨0, Nat.zero_le _, rfl, rfl⟩
  case round =>
    obtain ⟨k, hk, rfl, rfl⟩ := hrel
    by_cases hlt : k < l.length
    · obtain ⟨b, o, rfl, hB, hcell⟩ := HI.out.cellAt hlt
      have H1 := Lib.hid (sumI_succ hlt)
      have hb1 := few_sum HS.out k
      have hb2 := few_sum HS.out (k + 1)
      rw [H1.out] at hb2
      obtain ⟨x, hx⟩ : ∃ x, gi l 0 k = x := ⟨_, rfl⟩
      obtain ⟨s, hs⟩ : ∃ s, sumI (l.take k) = s := ⟨_, rfl⟩
      rw [hx, hs] at H1 hb2
      rw [hs] at hb1
      rw [hx] at hcell
      rw [hs]
      have hw : IntKind.i64.wrap (s + x) = s + x := IntWalk.i64_in _ (by omega)
      have hw6 : IntKind.i64.wrap ((k : Int) + 1) = (k : Int) + 1 := IntWalk.i64_in _ (by omega)
      clear hx hs
      go_wp2
      go_round
      case rel => exact ⟨k + 1, by omega, by go_num, by rw [H1.out]⟩
      case measure => simp [intOf]; omega
    · obtain rfl : k = l.length := by omega
      go_wp2
      go_ret
      exact ⟨by simp, rfl⟩
theorem ctotal_is {v : Value} {l : List Int} {s : Int} {w : World} (h : IntsAt w v l) (hf : Few l) (hs : sumI l = s) : Same Tryz.prog 110 #[v] w (.int .i64 s) := hs ▸ ctotal_calls v l w h hf
set_option maxHeartbeats 400000 in
theorem tsum_calls (v : Value) (l : List Int) (w : World) (h : IntsAt w v l) (hs : Few l) : Same Tryz.prog 82 #[v] w (.int .i64 (sumI l)) := by
  have HI := Lib.hid h
  have HS := Lib.hid hs
  obtain ⟨a, cap, rfl, hlc, hcm, -⟩ := h
  clear hs
  unfold Same
  go_enter Tryz.func82, Tryz.ntmps82
  go_wp2
  go_loop [3, 4] (fun s i => ∃ k : Nat, k ≤ l.length ∧ i = .int .i64 k ∧ s = .int .i64 (sumI (l.take k))) (fun _ i => l.length - (intOf i).toNat)
  case atStart => exact ⟨0, Nat.zero_le _, rfl, rfl⟩
  case round =>
    obtain ⟨k, hk, rfl, rfl⟩ := hrel
    by_cases hlt : k < l.length
    · obtain ⟨b, o, rfl, hB, hcell⟩ := HI.out.cellAt hlt
      have H1 := Lib.hid (sumI_succ hlt)
      have hb1 := few_sum HS.out k
      have hb2 := few_sum HS.out (k + 1)
      rw [H1.out] at hb2
      obtain ⟨x, hx⟩ : ∃ x, gi l 0 k = x := ⟨_, rfl⟩
      obtain ⟨s, hs⟩ : ∃ s, sumI (l.take k) = s := ⟨_, rfl⟩
      rw [hx, hs] at H1 hb2
      rw [hs] at hb1
      rw [hx] at hcell
      rw [hs]
      have hw : IntKind.i64.wrap (s + x) = s + x := IntWalk.i64_in _ (by omega)
      have hw6 : IntKind.i64.wrap ((k : Int) + 1) = (k : Int) + 1 := IntWalk.i64_in _ (by omega)
      clear hx hs
      go_wp2
      go_round
      case rel => exact ⟨k + 1, by omega, by go_num, by rw [H1.out]⟩
      case measure => simp [intOf]; omega
    · obtain rfl : k = l.length := by omega
      go_wp2
      go_ret
      exact ⟨by simp, rfl⟩
theorem tsum_is {v : Value} {l : List Int} {s : Int} {w : World} (h : IntsAt w v l) (hf : Few l) (hs : sumI l = s) : Same Tryz.prog 82 #[v] w (.int .i64 s) := hs ▸ tsum_calls v l w h hf
set_option maxHeartbeats 400000 in
theorem isClaims1_calls (x : Int) (w : World) : Gives Tryz.prog 129 #[.int .i64 x] w (.bool (!(withinB x 0 1000))) := by
  unfold Gives
  by_cases h1 : x < 0
  · have H : Hid (withinB x 0 1000 = false) := by show _ = _; rw [Bool.eq_false_iff]; intro hh; have := withinB_iff.1 hh; omega
    go_enter Tryz.func129, Tryz.ntmps129
    go_wp2
    go_ret
    exact ⟨by rw [H.out]; rfl, by (repeat' (first | exact Below.refl _ _ | assumption | refine below_new ?_ _ | refine below_draw ?_ | refine below_tail (by assumption) ?_ | refine below_set ?_ (by first | omega | (simp <;> omega)) _))⟩
  · by_cases h2 : 1000 < x
    · have H : Hid (withinB x 0 1000 = false) := by show _ = _; rw [Bool.eq_false_iff]; intro hh; have := withinB_iff.1 hh; omega
      go_enter Tryz.func129, Tryz.ntmps129
      go_wp2
      go_ret
      exact ⟨by rw [H.out]; rfl, by (repeat' (first | exact Below.refl _ _ | assumption | refine below_new ?_ _ | refine below_draw ?_ | refine below_tail (by assumption) ?_ | refine below_set ?_ (by first | omega | (simp <;> omega)) _))⟩
    · have H : Hid (withinB x 0 1000 = true) := withinB_iff.2 (by omega)
      go_enter Tryz.func129, Tryz.ntmps129
      go_wp2
      go_ret
      exact ⟨by rw [H.out]; rfl, by (repeat' (first | exact Below.refl _ _ | assumption | refine below_new ?_ _ | refine below_draw ?_ | refine below_tail (by assumption) ?_ | refine below_set ?_ (by first | omega | (simp <;> omega)) _))⟩
set_option maxHeartbeats 400000 in
theorem pay1_calls (x : Int) (w : World) : Gives Tryz.prog 101 #[.int .i64 x] w (.bool (!(withinB x 0 10000))) := by
  unfold Gives
  by_cases h1 : x < 0
  · have H : Hid (withinB x 0 10000 = false) := by show _ = _; rw [Bool.eq_false_iff]; intro hh; have := withinB_iff.1 hh; omega
    go_enter Tryz.func101, Tryz.ntmps101
    go_wp2
    go_ret
    exact ⟨by rw [H.out]; rfl, by (repeat' (first | exact Below.refl _ _ | assumption | refine below_new ?_ _ | refine below_draw ?_ | refine below_tail (by assumption) ?_ | refine below_set ?_ (by first | omega | (simp <;> omega)) _))⟩
  · by_cases h2 : 10000 < x
    · have H : Hid (withinB x 0 10000 = false) := by show _ = _; rw [Bool.eq_false_iff]; intro hh; have := withinB_iff.1 hh; omega
      go_enter Tryz.func101, Tryz.ntmps101
      go_wp2
      go_ret
      exact ⟨by rw [H.out]; rfl, by (repeat' (first | exact Below.refl _ _ | assumption | refine below_new ?_ _ | refine below_draw ?_ | refine below_tail (by assumption) ?_ | refine below_set ?_ (by first | omega | (simp <;> omega)) _))⟩
    · have H : Hid (withinB x 0 10000 = true) := withinB_iff.2 (by omega)
      go_enter Tryz.func101, Tryz.ntmps101
      go_wp2
      go_ret
      exact ⟨by rw [H.out]; rfl, by (repeat' (first | exact Below.refl _ _ | assumption | refine below_new ?_ _ | refine below_draw ?_ | refine below_tail (by assumption) ?_ | refine below_set ?_ (by first | omega | (simp <;> omega)) _))⟩

/-- Which numbers are claims. -/
def claimsB (l : List Int) : Bool := decide (1 ≤ l.length) && (decide (l.length ≤ 8) && !(l.any fun x => !(withinB x 0 1000)))
theorem claimsB_iff {l : List Int} : claimsB l = true ↔ (1 ≤ l.length ∧ l.length ≤ 8) ∧ ∀ x ∈ l, 0 ≤ x ∧ x ≤ 1000 := by
  unfold claimsB
  simp only [Bool.and_eq_true, decide_eq_true_iff, Bool.not_eq_true', List.any_eq_false, Bool.not_eq_true, Bool.not_eq_false, withinB_iff, and_assoc]
set_option maxHeartbeats 400000 in
theorem isClaims_calls (v : Value) (l : List Int) (w : World) (h : IntsAt w v l) : Gives Tryz.prog 99 #[v] w (.bool (claimsB l)) := by
  have HC := Lib.hid (containsFunc_ints v l 129 #[] (fun x => !(withinB x 0 1000)) w h (fun _ _ => by kernel_rfl) (fun x w' _ => isClaims1_calls x w'))
  obtain ⟨a, cap, rfl, -⟩ := h
  obtain ⟨t, ht⟩ : ∃ t, (l.any fun x => !(withinB x 0 1000)) = t := ⟨_, rfl⟩
  rw [ht] at HC
  unfold Gives
  by_cases h1 : 1 ≤ l.length
  · by_cases h2 : l.length ≤ 8
    · have H : Hid (claimsB l = !t) := by show _ = _; unfold claimsB; rw [ht, decide_eq_true h1, decide_eq_true h2]; simp
      have k1 : decide ((1 : Int) ≤ (l.length : Int)) = true := decide_eq_true (by omega)
      have k2 : decide ((l.length : Int) ≤ 8) = true := decide_eq_true (by omega)
      have k1' : (1 : Int) ≤ (l.length : Int) := by omega
      have k2' : (l.length : Int) ≤ 8 := by omega
      clear h1 h2 ht
      go_enter Tryz.func99, Tryz.ntmps99
      go_wp2_with (go_at_call 100; refine HC.out.use ?_; intro w1 hb1 hz1 hc1 hf1; clear hc1 hf1)
      go_ret
      exact ⟨ret_bool H.out.symm, by (repeat' (first | exact Below.refl _ _ | assumption | refine below_new ?_ _ | refine below_draw ?_ | refine below_tail (by assumption) ?_ | refine below_set ?_ (by first | omega | (simp <;> omega)) _))⟩
    · have H : Hid (claimsB l = false) := by show _ = _; unfold claimsB; rw [decide_eq_false h2]; simp
      have k1 : decide ((1 : Int) ≤ (l.length : Int)) = true := decide_eq_true (by omega)
      have k2 : decide ((l.length : Int) ≤ 8) = false := decide_eq_false (by omega)
      have k1' : (1 : Int) ≤ (l.length : Int) := by omega
      have k2' : ¬ (l.length : Int) ≤ 8 := by omega
      clear h1 h2 ht
      go_enter Tryz.func99, Tryz.ntmps99
      go_wp2
      go_ret
      exact ⟨ret_bool H.out.symm, by (repeat' (first | exact Below.refl _ _ | assumption | refine below_new ?_ _ | refine below_draw ?_ | refine below_tail (by assumption) ?_ | refine below_set ?_ (by first | omega | (simp <;> omega)) _))⟩
  · have H : Hid (claimsB l = false) := by show _ = _; unfold claimsB; rw [decide_eq_false h1]; simp
    have k1 : decide ((1 : Int) ≤ (l.length : Int)) = false := decide_eq_false (by omega)
    have k1' : ¬ (1 : Int) ≤ (l.length : Int) := by omega
    clear h1 ht
    go_enter Tryz.func99, Tryz.ntmps99
    go_wp2
    go_ret
    exact ⟨ret_bool H.out.symm, by (repeat' (first | exact Below.refl _ _ | assumption | refine below_new ?_ _ | refine below_draw ?_ | refine below_tail (by assumption) ?_ | refine below_set ?_ (by first | omega | (simp <;> omega)) _))⟩
theorem isClaims_is {v : Value} {l : List Int} {t : Bool} {w : World} (h : IntsAt w v l) (ht : claimsB l = t) : Gives Tryz.prog 99 #[v] w (.bool t) := ht ▸ isClaims_calls v l w h
/-- Two lists are equal from the k-th on. -/
def eqFrom (a b : List Int) (k : Nat) : Bool := decide (∀ i, i < a.length → k ≤ i → gi a 0 i = gi b 0 i)
theorem eqFrom_yes {a b : List Int} {k : Nat} (h : (gi a 0 k != gi b 0 k) = false) : eqFrom a b k = eqFrom a b (k + 1) := by
  unfold eqFrom
  rw [decide_eq_decide]
  refine ⟨fun H i hi hk => H i hi (by omega), fun H i hi hk => ?_⟩
  by_cases e : i = k
  · subst e; simpa using h
  · exact H i hi (by omega)
theorem eqFrom_no {a b : List Int} {k : Nat} (hk : k < a.length) (h : (gi a 0 k != gi b 0 k) = true) : eqFrom a b k = false := by
  unfold eqFrom
  rw [decide_eq_false_iff_not]
  intro H
  have := H k hk (Nat.le_refl _)
  rw [this] at h; simp at h
theorem eqFrom_end {a b : List Int} : eqFrom a b a.length = true := by
  unfold eqFrom
  rw [decide_eq_true_iff]
  intro i h1 h2; omega
theorem eq_from {a b : List Int} (h : a.length = b.length) : decide (a = b) = eqFrom a b 0 := by
  unfold eqFrom
  rw [decide_eq_decide]
  constructor
  · rintro rfl i _ _; rfl
  · intro H
    apply List.ext_getElem h
    intro i h1 h2
    have := H i h1 (Nat.zero_le _)
    rwa [gi_lt h1, gi_lt h2] at this
set_option maxHeartbeats 1000000 in
theorem sameInts8_calls (a b : Value) (l m : List Int) (w : World) (ha : IntsAt w a l) (hb : IntsAt w b m) :
    Gives Tryz.prog 46 #[a, b] w (.bool (decide (l = m))) := by
  have HA := Lib.hid ha
  have HB := Lib.hid hb
  obtain ⟨aa, ac, rfl, hal, ham, _⟩ := ha
  obtain ⟨ba, bc, rfl, hbl, hbm, _⟩ := hb
  unfold Gives
  by_cases hlm : l.length = m.length
  · have H0 := Lib.hid (eq_from hlm)
    have HLM := Lib.hid hlm
    have h1 : ((l.length : Int) != (m.length : Int)) = false := by simp; omega
    clear hlm
    go_enter Tryz.func46, Tryz.ntmps46
    go_wp2
    go_loopw [5] (fun i wr => ∃ k : Nat, k ≤ l.length ∧ i = .int .i64 k ∧ Hid (eqFrom l m 0 = eqFrom l m k) ∧ Below w.heap.size w wr) (fun i _ => l.length - (intOf i).toNat)
    case atStart => exact ⟨0, Nat.zero_le _, rfl, rfl, Below.refl _ _⟩
    case round =>
      obtain ⟨k, hk, rfl, hr, hb⟩ := hrel
      by_cases hlt : k < l.length
      · obtain ⟨ab, ao, rfl, hA, hcella⟩ := (HA.out.below hb).cellAt hlt
        obtain ⟨bb, bo, rfl, hB, hcellb⟩ := (HB.out.below hb).cellAt (m := k) (by rw [← HLM.out]; exact hlt)
        have hkm : k < m.length := by rw [← HLM.out]; exact hlt
        have q0 := fun d os => cell_regrown hcella d os
        have q1 := fun d os => cell_regrown hcellb d os
        cases hs : (gi l 0 k != gi m 0 k)
        · have H1 := Lib.hid (eqFrom_yes hs)
          go_wp2
          refine region_q mixed (by kernel_rfl) ?_
          repeat (go_big_quiet_step (fail))
          refine wpQuiet_nil ?_
          intro wq hbq
          clear q0 q1
          go_wp2
          go_roundw
          case rel => exact ⟨k + 1, by omega, by go_num, by unfold Hid; rw [hr.out, H1.out], by (repeat' (first | exact Below.refl _ _ | assumption | refine below_new ?_ _ | refine below_draw ?_ | refine below_tail (by assumption) ?_ | refine below_set ?_ (by first | omega | (simp <;> omega)) _))⟩
          case measure => simp [intOf]; omega
        · have H1 := Lib.hid (eqFrom_no hlt hs)
          go_wp2
          refine region_q mixed (by kernel_rfl) ?_
          repeat (go_big_quiet_step (fail))
          refine wpQuiet_nil ?_
          intro wq hbq
          clear q0 q1
          go_wp2
          go_ret
          exact ⟨ret_bool (by rw [H0.out, hr.out, H1.out]), by (repeat' (first | exact Below.refl _ _ | assumption | refine below_new ?_ _ | refine below_draw ?_ | refine below_tail (by assumption) ?_ | refine below_set ?_ (by first | omega | (simp <;> omega)) _))⟩
      · obtain rfl : k = l.length := by omega
        have H1 := Lib.hid (eqFrom_end (a := l) (b := m))
        go_wp2
        go_ret
        exact ⟨ret_bool (by rw [H0.out, hr.out, H1.out]), hb⟩
  · have H0 : Hid (decide (l = m) = false) := decide_eq_false (fun e => hlm (by rw [e]))
    have h1 : ((l.length : Int) != (m.length : Int)) = true := by simp; omega
    clear hlm
    go_enter Tryz.func46, Tryz.ntmps46
    go_wp2
    go_ret
    exact ⟨ret_bool H0.out.symm, by (repeat' (first | exact Below.refl _ _ | assumption | refine below_new ?_ _ | refine below_draw ?_ | refine below_tail (by assumption) ?_ | refine below_set ?_ (by first | omega | (simp <;> omega)) _))⟩
set_option maxHeartbeats 1000000 in
theorem equal_calls (a b : Value) (l m : List Int) (w : World) (ha : IntsAt w a l) (hb : IntsAt w b m) :
    Gives Tryz.prog 73 #[a, b] w (.bool (decide (l = m))) := by
  have HA := Lib.hid ha
  have HB := Lib.hid hb
  obtain ⟨aa, ac, rfl, hal, ham, _⟩ := ha
  obtain ⟨ba, bc, rfl, hbl, hbm, _⟩ := hb
  unfold Gives
  by_cases hlm : l.length = m.length
  · have H0 := Lib.hid (eq_from hlm)
    have HLM := Lib.hid hlm
    have h1 : ((l.length : Int) != (m.length : Int)) = false := by simp; omega
    clear hlm
    go_enter Tryz.func73, Tryz.ntmps73
    go_wp2
    go_loopw [13] (fun i wr => ∃ k : Nat, k ≤ l.length ∧ i = .int .i64 k ∧ Hid (eqFrom l m 0 = eqFrom l m k) ∧ Below w.heap.size w wr) (fun i _ => l.length - (intOf i).toNat)
    case atStart => exact ⟨0, Nat.zero_le _, rfl, rfl, Below.refl _ _⟩
    case round =>
      obtain ⟨k, hk, rfl, hr, hb⟩ := hrel
      by_cases hlt : k < l.length
      · obtain ⟨ab, ao, rfl, hA, hcella⟩ := (HA.out.below hb).cellAt hlt
        obtain ⟨bb, bo, rfl, hB, hcellb⟩ := (HB.out.below hb).cellAt (m := k) (by rw [← HLM.out]; exact hlt)
        have hkm : k < m.length := by rw [← HLM.out]; exact hlt
        have q0 := fun d os => cell_regrown hcella d os
        have q1 := fun d os => cell_regrown hcellb d os
        cases hs : (gi l 0 k != gi m 0 k)
        · have H1 := Lib.hid (eqFrom_yes hs)
          go_wp2
          refine region_q mixed (by kernel_rfl) ?_
          repeat (go_big_quiet_step (fail))
          refine wpQuiet_nil ?_
          intro wq hbq
          clear q0 q1
          go_wp2
          go_roundw
          case rel => exact ⟨k + 1, by omega, by go_num, by unfold Hid; rw [hr.out, H1.out], by (repeat' (first | exact Below.refl _ _ | assumption | refine below_new ?_ _ | refine below_draw ?_ | refine below_tail (by assumption) ?_ | refine below_set ?_ (by first | omega | (simp <;> omega)) _))⟩
          case measure => simp [intOf]; omega
        · have H1 := Lib.hid (eqFrom_no hlt hs)
          go_wp2
          refine region_q mixed (by kernel_rfl) ?_
          repeat (go_big_quiet_step (fail))
          refine wpQuiet_nil ?_
          intro wq hbq
          clear q0 q1
          go_wp2
          go_ret
          exact ⟨ret_bool (by rw [H0.out, hr.out, H1.out]), by (repeat' (first | exact Below.refl _ _ | assumption | refine below_new ?_ _ | refine below_draw ?_ | refine below_tail (by assumption) ?_ | refine below_set ?_ (by first | omega | (simp <;> omega)) _))⟩
      · obtain rfl : k = l.length := by omega
        have H1 := Lib.hid (eqFrom_end (a := l) (b := m))
        go_wp2
        go_ret
        exact ⟨ret_bool (by rw [H0.out, hr.out, H1.out]), hb⟩
  · have H0 : Hid (decide (l = m) = false) := decide_eq_false (fun e => hlm (by rw [e]))
    have h1 : ((l.length : Int) != (m.length : Int)) = true := by simp; omega
    clear hlm
    go_enter Tryz.func73, Tryz.ntmps73
    go_wp2
    go_ret
    exact ⟨ret_bool H0.out.symm, by (repeat' (first | exact Below.refl _ _ | assumption | refine below_new ?_ _ | refine below_draw ?_ | refine below_tail (by assumption) ?_ | refine below_set ?_ (by first | omega | (simp <;> omega)) _))⟩
theorem sameInts8_is {a b : Value} {l m : List Int} {t : Bool} {w : World} (ha : IntsAt w a l) (hb : IntsAt w b m) (ht : decide (l = m) = t) :
    Gives Tryz.prog 46 #[a, b] w (.bool t) := ht ▸ sameInts8_calls a b l m w ha hb
theorem equal_is {a b : Value} {l m : List Int} {t : Bool} {w : World} (ha : IntsAt w a l) (hb : IntsAt w b m) (ht : decide (l = m) = t) :
    Gives Tryz.prog 73 #[a, b] w (.bool t) := ht ▸ equal_calls a b l m w ha hb
end Go.Proofs.YthooacpfmjpdmaaGreatDoor
