/- What IsConvex of the document gives. Conditions: the list lies in memory as said. -/
import Derived.Test.YthiemglckmociaaPtConv
namespace Go.Proofs.Ythiemglckmociaa
open Go.RowKit

theorem cv_sign {t s : Int} (hs : s ≠ 0) : ((t != 0) && (decide (0 < t) != decide (0 < s))) = decide (t * sg s < 0) := by
  have e : sg s = if s < 0 then -1 else if 0 < s then 1 else 0 := rfl
  rw [e]
  rcases Int.lt_trichotomy t 0 with c | c | c <;> rcases Int.lt_or_lt_of_ne hs with d | d
  · rw [if_pos d, decide_eq_false (show ¬ 0 < t by omega), decide_eq_false (show ¬ 0 < s by omega), decide_eq_false (show ¬ t * -1 < 0 by omega)]; simp
  · rw [if_neg (by omega), if_pos d, decide_eq_false (show ¬ 0 < t by omega), decide_eq_true (show 0 < s by omega), decide_eq_true (show t * 1 < 0 by omega)]
    have : t ≠ 0 := by omega
    simpa using this
  · subst c; simp
  · subst c; simp
  · rw [if_pos d, decide_eq_true (show 0 < t by omega), decide_eq_false (show ¬ 0 < s by omega), decide_eq_true (show t * -1 < 0 by omega)]
    have : t ≠ 0 := by omega
    simpa using this
  · rw [if_neg (by omega), if_pos d, decide_eq_true (show 0 < t by omega), decide_eq_true (show 0 < s by omega), decide_eq_false (show ¬ t * 1 < 0 by omega)]; simp

set_option maxHeartbeats 4000000 in
set_option maxRecDepth 100000 in
theorem rIsConvex_calls (v : Value) (l : List (Int × Int)) (w : World) (h : PairsAt w v l) :
    Gives Try.prog 53 #[v] w (.tuple #[.bool (cvxB l), .int .i64 (validF l)]) := by
  have HP := Lib.hid h
  have HR : Hid (cvxB l = if validF l = 0 then convB l else false) := rfl
  obtain ⟨sa, cap, rfl, hlc, hcm, _⟩ := h
  obtain ⟨e, he⟩ : ∃ e, validF l = e := ⟨_, rfl⟩
  have HE := Lib.hid he
  unfold Gives
  by_cases hz : e = 0
  · subst hz
    have hv := valid_iff.1 he
    have h3 := hv.lo
    have h10 := hv.hi
    have HV := Lib.hid hv
    have HBD := Lib.hid hv.bd
    have hnz := hv.area_ne
    obtain ⟨s, hs⟩ : ∃ s, areaK l l.length = s := ⟨_, rfl⟩
    have HS := Lib.hid hs
    rw [hs] at hnz
    have HNZ : Hid (s ≠ 0) := hnz
    obtain ⟨g, hg⟩ : ∃ g, sg s = g := ⟨_, rfl⟩
    have HG := Lib.hid hg
    have hgb : -1 ≤ g ∧ g ≤ 1 := by
      rw [← hg]
      show -1 ≤ (if s < 0 then -1 else if 0 < s then 1 else 0 : Int) ∧ (if s < 0 then -1 else if 0 < s then 1 else 0 : Int) ≤ 1
      split
      · omega
      · split <;> omega
    clear he hv hnz hs hg
    go_enter Try.func53, Try.ntmps53
    go_wp2_with (go_at_call 28; (with_reducible refine (rvalidate_is _ (HP.out.below (by (repeat' (first | exact Below.refl _ _ | assumption | refine below_new ?_ _ | refine below_draw ?_ | refine below_tail (by assumption) ?_ | refine below_set ?_ (by first | omega | (simp <;> omega)) _)))) HE.out).use ?_); intro w1 hb1 hz1 hc1 hf1; clear hc1 hf1)
    have hB1 : Below w.heap.size w w1 := by (repeat' (first | exact Below.refl _ _ | assumption | refine below_new ?_ _ | refine below_draw ?_ | refine below_tail (by assumption) ?_ | refine below_set ?_ (by first | omega | (simp <;> omega)) _))
    clear hb1 hz1
    go_loopw [6] (fun i wr => ∃ k : Nat, k ≤ l.length ∧ i = .int .i64 k ∧ Hid (∀ j, j < k → cvB l s j = false) ∧ Below w.heap.size w wr) (fun i _ => l.length - (intOf i).toNat)
    case atStart => exact ⟨0, Nat.zero_le _, rfl, fun j hj => absurd hj (by omega), hB1⟩
    case round =>
      clear hB1
      obtain ⟨k, hk, rfl, u0, hB⟩ := hrel
      by_cases hlt : k < l.length
      · have HPW := Lib.hid (HP.out.below hB)
        obtain ⟨m1, hm1, hm1l, hm1c⟩ := cor_at (l := l) k 1 (by omega)
        obtain ⟨m2, hm2, hm2l, hm2c⟩ := cor_at (l := l) k 2 (by omega)
        obtain ⟨b0, o0, hsa, hb20, c0, c1⟩ := HPW.out.cellAt hlt
        obtain ⟨b0', o0', hsa', _, c2, c3⟩ := HPW.out.cellAt hm1l
        subst hsa
        cases hsa'
        obtain ⟨b0', o0', hsa', _, c4, c5⟩ := HPW.out.cellAt hm2l
        cases hsa'
        have hr1 : ((k : Int) + 1).tmod (l.length : Int) = (m1 : Int) := by rw [Int.tmod_eq_emod_of_nonneg (by omega)]; exact hm1
        have hr2 : ((k : Int) + 2).tmod (l.length : Int) = (m2 : Int) := by rw [Int.tmod_eq_emod_of_nonneg (by omega)]; exact hm2
        have hl0 : ¬ l = [] := fun e => by rw [e] at h3; simp at h3
        have hw1 : IntKind.i64.wrap ((k : Int) + 1) = (k : Int) + 1 := IntWalk.i64_in _ (by omega)
        have hw2 : IntKind.i64.wrap ((k : Int) + 2) = (k : Int) + 2 := IntWalk.i64_in _ (by omega)
        rw [← cor_lt hlt] at c0 c1
        rw [← hm1c] at c2 c3
        rw [← hm2c] at c4 c5
        clear hm1 hm2 hm1c hm2c
        have HA := HBD.out k
        have HB := HBD.out (k + 1)
        have HC := HBD.out (k + 2)
        have HCV : Hid (cvB l s k = ((turn (cor l k) (cor l (k + 1)) (cor l (k + 2)) != 0) && (decide (0 < turn (cor l k) (cor l (k + 1)) (cor l (k + 2))) != decide (0 < s)))) := rfl
        have HNO := Lib.hid (conv_no HS.out hlt)
        generalize cor l k = pa at *
        generalize cor l (k + 1) = pb at *
        generalize cor l (k + 2) = pc at *
        have hbt := turn_bd HA HB HC
        obtain ⟨t, ht⟩ : ∃ t, turn pa pb pc = t := ⟨_, rfl⟩
        have HT := Lib.hid ht
        rw [ht] at HCV hbt
        clear ht
        have hcv : cvB l s k = decide (t * g < 0) := by rw [HCV.out, cv_sign HNZ.out, HG.out]
        have hwt : IntKind.i64.wrap (t * g) = t * g := by
          rcases (show g = -1 ∨ g = 0 ∨ g = 1 by omega) with e | e | e <;> rw [e] <;> exact IntWalk.i64_in _ (by omega)
        obtain ⟨q, hq⟩ : ∃ q, t * g = q := ⟨_, rfl⟩
        rw [hq] at hcv hwt
        have hwq : IntKind.i64.wrap (t * g) = q := by rw [hq]; exact hwt
        clear hq hwt
        have HCC := Lib.hid hcv
        clear hcv
        have q0 := fun dr os => cell_regrown c0 dr os
        have q1 := fun dr os => cell_regrown c1 dr os
        have q2 := fun dr os => cell_regrown c2 dr os
        have q3 := fun dr os => cell_regrown c3 dr os
        have q4 := fun dr os => cell_regrown c4 dr os
        have q5 := fun dr os => cell_regrown c5 dr os
        by_cases hneg : q < 0
        · have x1 : decide (q < 0) = true := decide_eq_true hneg
          have HX := Lib.hid x1
          go_wp2_with fail
          refine region_q mixed (by kernel_rfl) ?_
          repeat (go_big_quiet_step (first | (go_at_call 89; exact Calls.regrown_of (rturn_is _ HA HB HC HT.out)) | (go_at_call 61; exact Calls.regrown_of (rtwice_is _ (HPW.out.below (below_regrown _ _ _)) HV.out HS.out)) | (go_at_call 100; exact Calls.regrown_of (rsign_is _ HG.out))))
          refine wpQuiet_nil ?_
          intro wq hbq
          clear q0 q1 q2 q3 q4 q5
          go_wp2_with fail
          refine bodyPost_ret (v := .tuple #[.bool false, .int .i64 0]) (by simp [results, Try.f53, go_sem]) rfl ?_
          exact ⟨by rw [HR.out, if_pos HE.out, HE.out, HNO.out (HCC.out.trans HX.out)], by (repeat' (first | exact Below.refl _ _ | assumption | refine below_new ?_ _ | refine below_draw ?_ | refine below_tail (by assumption) ?_ | refine below_set ?_ (by first | omega | (simp <;> omega)) _))⟩
        · have x1 : decide (q < 0) = false := decide_eq_false hneg
          have HX := Lib.hid x1
          go_wp2_with fail
          refine region_q mixed (by kernel_rfl) ?_
          repeat (go_big_quiet_step (first | (go_at_call 89; exact Calls.regrown_of (rturn_is _ HA HB HC HT.out)) | (go_at_call 61; exact Calls.regrown_of (rtwice_is _ (HPW.out.below (below_regrown _ _ _)) HV.out HS.out)) | (go_at_call 100; exact Calls.regrown_of (rsign_is _ HG.out))))
          refine wpQuiet_nil ?_
          intro wq hbq
          clear q0 q1 q2 q3 q4 q5
          go_wp2_with fail
          go_roundw
          case rel => exact ⟨k + 1, by omega, by go_num, fun j hj => (Nat.lt_succ_iff_lt_or_eq.1 hj).elim (u0.out j) (fun e => by subst e; exact HCC.out.trans HX.out), by (repeat' (first | exact Below.refl _ _ | assumption | refine below_new ?_ _ | refine below_draw ?_ | refine below_tail (by assumption) ?_ | refine below_set ?_ (by first | omega | (simp <;> omega)) _))⟩
          case measure => simp [intOf]; omega
      · obtain rfl : k = l.length := by omega
        have HCV := Lib.hid (conv_yes HS.out u0.out)
        go_wp2_with fail
        refine bodyPost_ret (v := .tuple #[.bool true, .int .i64 0]) (by simp [results, Try.f53, go_sem]) rfl ?_
        exact ⟨by rw [HR.out, if_pos HE.out, HE.out, HCV.out], hB⟩
  · have h1 : (e == 0) = false := by simpa using hz
    have h2 : (e != 0) = true := by simpa using hz
    have HZ := Lib.hid hz
    clear hz he
    go_enter Try.func53, Try.ntmps53
    go_wp2_with (go_at_call 28; (with_reducible refine (rvalidate_is _ (HP.out.below (by (repeat' (first | exact Below.refl _ _ | assumption | refine below_new ?_ _ | refine below_draw ?_ | refine below_tail (by assumption) ?_ | refine below_set ?_ (by first | omega | (simp <;> omega)) _)))) HE.out).use ?_); intro w1 hb1 hz1 hc1 hf1; clear hc1 hf1)
    refine bodyPost_ret (v := .tuple #[.bool false, .int .i64 e]) (by simp [results, Try.f53, go_sem]) rfl ?_
    exact ⟨by rw [HR.out, if_neg (by rw [HE.out]; exact HZ.out), HE.out], by (repeat' (first | exact Below.refl _ _ | assumption | refine below_new ?_ _ | refine below_draw ?_ | refine below_tail (by assumption) ?_ | refine below_set ?_ (by first | omega | (simp <;> omega)) _))⟩

end Go.Proofs.Ythiemglckmociaa
