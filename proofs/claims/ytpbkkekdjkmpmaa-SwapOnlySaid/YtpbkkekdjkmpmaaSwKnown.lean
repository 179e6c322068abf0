/- Pick of package swap; equal lists; what the statements know. Conditions: the lists lie in memory as said. -/
import Derived.Test.YtpbkkekdjkmpmaaSwPick
namespace Go.Proofs.Ytpbkkekdjkmpmaa
open Go.RowKit

def pickR (L : List (List Int)) (l : List Int) : List Int := if oE L l = 0 then pickL L l else []
theorem oE_0 {L : List (List Int)} {l : List Int} (h : oE L l = 0) : vB L = true ∧ ordB l L.length = true := by
  unfold oE at h
  by_cases h1 : vE L = 0
  · rw [if_pos h1] at h
    refine ⟨vE_0 h1, ?_⟩
    cases h2 : ordB l L.length
    · rw [h2] at h; cases h
    · rfl
  · rw [if_neg h1] at h; exact absurd h h1
set_option maxHeartbeats 1000000 in
theorem Pick_calls (v u : Value) (L : List (List Int)) (l : List Int) (w : World) (h : TableAt w v L) (hu : IntsAt w u l) :
    GivesIE Try.prog 28 #[v, u] w (pickR L l) (oE L l) := by
  have HT := Lib.hid h
  have HU := Lib.hid hu
  obtain ⟨sa, cap, rfl, hlc, hcm, -⟩ := h
  obtain ⟨ua, uc, rfl, -⟩ := hu
  unfold GivesIE
  obtain ⟨e, he⟩ : ∃ e, oE L l = e := ⟨_, rfl⟩
  have HE := Lib.hid he
  by_cases h0 : e = 0
  · subst h0
    have H1 : Hid (pickR L l = pickL L l) := if_pos he
    have HV := Lib.hid (oE_0 he)
    clear he
    go_enter Try.func28, Try.ntmps28
    go_wp2_with (first | (go_at_call 42; refine (ordered_is HT.out HU.out HE.out).use ?_; intro w1 hb1 hz1 hc1 hf1; clear hc1 hf1) | (go_at_call 49; refine (pick_calls _ _ L l _ (HT.out.below (by (repeat' (first | exact Below.refl _ _ | assumption | refine below_new ?_ _ | refine below_draw ?_ | refine below_tail (by assumption) ?_ | refine below_set ?_ (by first | omega | (simp <;> omega)) _)))) HV.out.1 (HU.out.below (by (repeat' (first | exact Below.refl _ _ | assumption | refine below_new ?_ _ | refine below_draw ?_ | refine below_tail (by assumption) ?_ | refine below_set ?_ (by first | omega | (simp <;> omega)) _)))) HV.out.2).mono ?_; rintro e2 w2 ⟨v2, rfl, hi2, hb2⟩; have HI := Lib.hid hi2; clear hi2))
    refine bodyPost_ret (v := .tuple #[v2, .int .i64 0]) (by simp [results, Try.f28, go_sem]) rfl ?_
    exact ⟨_, by rw [HE.out], by rw [H1.out]; exact HI.out, by (repeat' (first | exact Below.refl _ _ | assumption | refine below_new ?_ _ | refine below_draw ?_ | refine below_tail (by assumption) ?_ | refine below_set ?_ (by first | omega | (simp <;> omega)) _))⟩
  · have h1 : (e == 0) = false := by simpa using h0
    have h2 : (e != 0) = true := by simpa using h0
    have H1 : Hid (pickR L l = []) := if_neg (by rw [he]; exact h0)
    clear he h0
    go_enter Try.func28, Try.ntmps28
    go_wp2_with (go_at_call 42; refine (ordered_is HT.out HU.out HE.out).use ?_; intro w1 hb1 hz1 hc1 hf1; clear hc1 hf1)
    refine bodyPost_ret (v := .tuple #[.slice none 0 0, .int .i64 e]) (by simp [results, Try.f28, go_sem]) rfl ?_
    exact ⟨_, by rw [HE.out], by rw [H1.out]; exact ints0 _ _ _ (by decide), by (repeat' (first | exact Below.refl _ _ | assumption | refine below_new ?_ _ | refine below_draw ?_ | refine below_tail (by assumption) ?_ | refine below_set ?_ (by first | omega | (simp <;> omega)) _))⟩

/-- Two lists are equal from the k-th on. -/
def eqFrom (a b : List Int) (k : Nat) : Bool := decide (∀ i, i < a.length → k ≤ i → gi a 0 i = gi b 0 i)
theorem eqFrom_yes {a b : List Int} {k : Nat} (h : (gi a 0 k != gi b 0 k) = false) : eqFrom a b k = eqFrom a b (k + 1) := by
  unfold eqFrom
  rw [decide_eq_decide]
  refine ⟨fun H i hi hk => H i hi (by omega), fun H i hi hk => ?_⟩
  by_cases e : i = k
  · subst e; simpa using h
  · exact H i hi (by omega)
theorem eqFrom_no {a b : List Int} {k : Nat} (hk : k < a.length) (h : (gi a 0 k != gi b 0 k) = true) : eqFrom a b k = false := by
  unfold eqFrom
  rw [decide_eq_false_iff_not]
  intro H
  have := H k hk (Nat.le_refl _)
  rw [this] at h; simp at h
theorem eqFrom_end {a b : List Int} : eqFrom a b a.length = true := by
  unfold eqFrom
  rw [decide_eq_true_iff]
  intro i h1 h2; omega
theorem eq_from {a b : List Int} (h : a.length = b.length) : decide (a = b) = eqFrom a b 0 := by
  unfold eqFrom
  rw [decide_eq_decide]
  constructor
  · rintro rfl i _ _; rfl
  · intro H
    apply List.ext_getElem h
    intro i h1 h2
    have := H i h1 (Nat.zero_le _)
    rwa [gi_lt h1, gi_lt h2] at this
set_option maxHeartbeats 1000000 in
theorem sameInts_calls (a b : Value) (l m : List Int) (w : World) (ha : IntsAt w a l) (hb : IntsAt w b m) :
    Gives Try.prog 21 #[a, b] w (.bool (decide (l = m))) := by
  have HA := Lib.hid ha
  have HB := Lib.hid hb
  obtain ⟨aa, ac, rfl, hal, ham, _⟩ := ha
  obtain ⟨ba, bc, rfl, hbl, hbm, _⟩ := hb
  unfold Gives
  by_cases hlm : l.length = m.length
  · have H0 := Lib.hid (eq_from hlm)
    have HLM := Lib.hid hlm
    have h1 : ((l.length : Int) != (m.length : Int)) = false := by simp; omega
    clear hlm
    go_enter Try.func21, Try.ntmps21
    go_wp2
    go_loopw [5] (fun i wr => ∃ k : Nat, k ≤ l.length ∧ i = .int .i64 k ∧ Hid (eqFrom l m 0 = eqFrom l m k) ∧ Below w.heap.size w wr) (fun i _ => l.length - (intOf i).toNat)
    case atStart => exact ⟨0, Nat.zero_le _, rfl, rfl, Below.refl _ _⟩
    case round =>
      obtain ⟨k, hk, rfl, hr, hb⟩ := hrel
      by_cases hlt : k < l.length
      · obtain ⟨ab, ao, rfl, hA, hcella⟩ := (HA.out.below hb).cellAt hlt
        obtain ⟨bb, bo, rfl, hB, hcellb⟩ := (HB.out.below hb).cellAt (m := k) (by rw [← HLM.out]; exact hlt)
        have hkm : k < m.length := by rw [← HLM.out]; exact hlt
        have q0 := fun d os => cell_regrown hcella d os
        have q1 := fun d os => cell_regrown hcellb d os
        cases hs : (gi l 0 k != gi m 0 k)
        · have H1 := Lib.hid (eqFrom_yes hs)
          go_wp2
          refine region_q mixed (by kernel_rfl) ?_
          repeat (go_big_quiet_step (fail))
          refine wpQuiet_nil ?_
          intro wq hbq
          clear q0 q1
          go_wp2
          go_roundw
          case rel => exact ⟨k + 1, by omega, by go_num, by unfold Hid; rw [hr.out, H1.out], by (repeat' (first | exact Below.refl _ _ | assumption | refine below_new ?_ _ | refine below_draw ?_ | refine below_tail (by assumption) ?_ | refine below_set ?_ (by first | omega | (simp <;> omega)) _))⟩
          case measure => simp [intOf]; omega
        · have H1 := Lib.hid (eqFrom_no hlt hs)
          go_wp2
          refine region_q mixed (by kernel_rfl) ?_
          repeat (go_big_quiet_step (fail))
          refine wpQuiet_nil ?_
          intro wq hbq
          clear q0 q1
          go_wp2
          go_ret
          exact ⟨ret_bool (by rw [H0.out, hr.out, H1.out]), by (repeat' (first | exact Below.refl _ _ | assumption | refine below_new ?_ _ | refine below_draw ?_ | refine below_tail (by assumption) ?_ | refine below_set ?_ (by first | omega | (simp <;> omega)) _))⟩
      · obtain rfl : k = l.length := by omega
        have H1 := Lib.hid (eqFrom_end (a := l) (b := m))
        go_wp2
        go_ret
        exact ⟨ret_bool (by rw [H0.out, hr.out, H1.out]), hb⟩
  · have H0 : Hid (decide (l = m) = false) := decide_eq_false (fun e => hlm (by rw [e]))
    have h1 : ((l.length : Int) != (m.length : Int)) = true := by simp; omega
    clear hlm
    go_enter Try.func21, Try.ntmps21
    go_wp2
    go_ret
    exact ⟨ret_bool H0.out.symm, by (repeat' (first | exact Below.refl _ _ | assumption | refine below_new ?_ _ | refine below_draw ?_ | refine below_tail (by assumption) ?_ | refine below_set ?_ (by first | omega | (simp <;> omega)) _))⟩
theorem sameInts_is {a b : Value} {l m : List Int} {t : Bool} {w : World} (ha : IntsAt w a l) (hb : IntsAt w b m) (ht : decide (l = m) = t) :
    Gives Try.prog 21 #[a, b] w (.bool t) := ht ▸ sameInts_calls a b l m w ha hb

/-- The lists of the document's first example. -/
def threeL : List (List Int) := [[1, 0, 2], [0, 1, 2], [0, 1, 2]]
theorem three_v : vE threeL = 0 := by decide +kernel
theorem three_trade : tradeR threeL = [1, 0, 2] := by decide +kernel
theorem three_o : oE threeL [2, 0, 1] = 0 := by decide +kernel
theorem three_pick : pickR threeL [2, 0, 1] = [1, 2, 0] := by decide +kernel
theorem three_at {w : World} {t s : TypeId} {n : Nat} (hn : n = w.heap.size) : TableAt ((((w.alloc (.cells #[.int .i64 1, .int .i64 0, .int .i64 2] t)).alloc (.cells #[.int .i64 0, .int .i64 1, .int .i64 2] t)).alloc (.cells #[.int .i64 0, .int .i64 1, .int .i64 2] t)).alloc (.cells #[.slice (some ⟨n, 0, none⟩) 3 3, .slice (some ⟨n + 1, 0, none⟩) 3 3, .slice (some ⟨n + 1 + 1, 0, none⟩) 3 3] s)) (.slice (some ⟨n + 1 + 1 + 1, 0, none⟩) 3 3) threeL := by
  subst hn
  have h0 := ints3 (w := w) (a := 1) (b := 0) (c := 2) (t := t) rfl
  have h1 := ints3 (w := w.alloc (.cells #[.int .i64 1, .int .i64 0, .int .i64 2] t)) (a := 0) (b := 1) (c := 2) (t := t) rfl
  have h2 := ints3 (w := (w.alloc (.cells #[.int .i64 1, .int .i64 0, .int .i64 2] t)).alloc (.cells #[.int .i64 0, .int .i64 1, .int .i64 2] t)) (a := 0) (b := 1) (c := 2) (t := t) rfl
  simp only [World.size_alloc] at h1 h2
  refine ⟨_, _, rfl, Nat.le_refl _, by decide, fun i hi => ?_⟩
  match i, hi with
  | 0, _ => exact ⟨_, _, .slice (some ⟨w.heap.size, 0, none⟩) 3 3, rfl, by simp, (cell_of_block (alloc_new _ _ (by simp)) 0).trans rfl, h0.below (by (repeat' (first | exact Below.refl _ _ | assumption | refine below_new ?_ _ | refine below_draw ?_ | refine below_tail (by assumption) ?_ | refine below_set ?_ (by first | omega | (simp <;> omega)) _)))⟩
  | 1, _ => exact ⟨_, _, .slice (some ⟨w.heap.size + 1, 0, none⟩) 3 3, rfl, by simp, (cell_of_block (alloc_new _ _ (by simp)) 1).trans rfl, h1.below (by (repeat' (first | exact Below.refl _ _ | assumption | refine below_new ?_ _ | refine below_draw ?_ | refine below_tail (by assumption) ?_ | refine below_set ?_ (by first | omega | (simp <;> omega)) _)))⟩
  | 2, _ => exact ⟨_, _, .slice (some ⟨w.heap.size + 1 + 1, 0, none⟩) 3 3, rfl, by simp, (cell_of_block (alloc_new _ _ (by simp)) 2).trans rfl, h2.below (by (repeat' (first | exact Below.refl _ _ | assumption | refine below_new ?_ _ | refine below_draw ?_ | refine below_tail (by assumption) ?_ | refine below_set ?_ (by first | omega | (simp <;> omega)) _)))⟩
set_option maxHeartbeats 400000 in
theorem three_calls (w : World) : Calls Try.prog 27 #[] w fun e w' => ∃ a, e = .returned (.slice a 3 3) ∧ TableAt w' (.slice a 3 3) threeL ∧ Below w.heap.size w w' := by
  go_enter Try.func27, Try.ntmps27
  go_wp2
  go_ret
  exact ⟨_, rfl, three_at rfl, by (repeat' (first | exact Below.refl _ _ | assumption | refine below_new ?_ _ | refine below_draw ?_ | refine below_tail (by assumption) ?_ | refine below_set ?_ (by first | omega | (simp <;> omega)) _))⟩
theorem Trade_is {v : Value} {L : List (List Int)} {l : List Int} {e : Int} {w : World} (h : TableAt w v L) (hl : tradeR L = l) (he : vE L = e) :
    GivesIE Try.prog 16 #[v] w l e := hl ▸ he ▸ Trade_calls v L w h
theorem Pick_is {v u : Value} {L : List (List Int)} {l r : List Int} {e : Int} {w : World} (h : TableAt w v L) (hu : IntsAt w u l) (hl : pickR L l = r) (he : oE L l = e) :
    GivesIE Try.prog 28 #[v, u] w r e := hl ▸ he ▸ Pick_calls v u L l w h hu
theorem GivesIE.calls {P : Program} {f : FuncId} {args : Array Value} {w : World} {l : List Int} {e : Int} (h : GivesIE P f args w l e) : Calls P f args w fun x w' => ∃ v, x = .returned (.tuple #[v, .int .i64 e]) ∧ IntsAt w' v l ∧ Below w.heap.size w w' := h

set_option maxHeartbeats 2000000 in
theorem known_calls (w : World) : Gives Try.prog 9 #[] w (.bool true) := by
  unfold Gives
  go_enter Try.func9, Try.ntmps9
  go_wp2_with (first
    | (go_at_call 27; refine (three_calls _).mono ?_; rintro e w1 ⟨a1, rfl, hT1, hb1⟩; have HT1 := Lib.hid hT1; clear hT1)
    | (go_at_call 16; (with_reducible refine (Trade_is HT1.out three_trade three_v).calls.mono ?_); rintro e w2 ⟨v2, rfl, hi2, hb2⟩; have HI2 := Lib.hid hi2; clear hi2)
    | (go_at_call 28; (with_reducible refine (Pick_is (HT1.out.below (by (repeat' (first | exact Below.refl _ _ | assumption | refine below_new ?_ _ | refine below_draw ?_ | refine below_tail (by assumption) ?_ | refine below_set ?_ (by first | omega | (simp <;> omega)) _)))) (ints3 rfl) three_pick three_o).calls.mono ?_); rintro e w3 ⟨v3, rfl, hi3, hb3⟩; have HI3 := Lib.hid hi3; clear hi3)
    | (go_at_call 21; (with_reducible refine (sameInts_is (HI2.out.below (by (repeat' (first | exact Below.refl _ _ | assumption | refine below_new ?_ _ | refine below_draw ?_ | refine below_tail (by assumption) ?_ | refine below_set ?_ (by first | omega | (simp <;> omega)) _)))) (ints3 rfl) (decide_eq_true rfl)).use ?_); intro w4 hb4 hz4 hc4 hf4; clear hc4 hf4)
    | (go_at_call 21; (with_reducible refine (sameInts_is (HI3.out.below (by (repeat' (first | exact Below.refl _ _ | assumption | refine below_new ?_ _ | refine below_draw ?_ | refine below_tail (by assumption) ?_ | refine below_set ?_ (by first | omega | (simp <;> omega)) _)))) (ints3 rfl) (decide_eq_true rfl)).use ?_); intro w5 hb5 hz5 hc5 hf5; clear hc5 hf5))
  go_ret
  exact ⟨rfl, by (repeat' (first | exact Below.refl _ _ | assumption | refine below_new ?_ _ | refine below_draw ?_ | refine below_tail (by assumption) ?_ | refine below_set ?_ (by first | omega | (simp <;> omega)) _))⟩
end Go.Proofs.Ytpbkkekdjkmpmaa
