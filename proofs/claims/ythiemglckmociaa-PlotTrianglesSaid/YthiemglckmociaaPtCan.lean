/- What numbered and CanSplit of package plot give. Conditions: the list lies in memory as said. -/
import Derived.Test.YthiemglckmociaaPtSplitN
import Derived.Test.YthiemglckmociaaPtSplitW
namespace Go.Proofs.Ythiemglckmociaa
open Go.RowKit

set_option maxHeartbeats 1000000 in
theorem numbered_calls (v : Value) (l : List (Int × Int)) (i j : Int) (w : World) (h : PairsAt w v l) : Gives Try.prog 85 #[v, .int .i64 i, .int .i64 j] w (.int .i64 (numF l i j)) := by
  have HP := Lib.hid h
  obtain ⟨sa, cap, rfl, hlc, hcm, -⟩ := h
  have HN : Hid (numF l i j = if validF l = 0 then (if 0 ≤ i ∧ i < l.length ∧ 0 ≤ j ∧ j < l.length then 0 else 4) else validF l) := rfl
  obtain ⟨e, he⟩ : ∃ e, validF l = e := ⟨_, rfl⟩
  have HE := Lib.hid he
  clear he
  unfold Gives
  by_cases hz : e = 0
  · subst hz
    cases d0 : decide (i < 0)
    case true =>
      go_enter Try.func85, Try.ntmps85
      go_wp2_with (go_at_call 27; (with_reducible refine (validate_is _ (HP.out.below (by (repeat' (first | exact Below.refl _ _ | assumption | refine below_new ?_ _ | refine below_draw ?_ | refine below_tail (by assumption) ?_ | refine below_set ?_ (by first | omega | (simp <;> omega)) _)))) HE.out).use ?_); intro w1 hb1 hz1 hc1 hf1; clear hc1 hf1)
      go_ret
      exact ⟨ret_int (by rw [HN.out, if_pos HE.out, if_neg (fun h => by have := of_decide_eq_true d0; omega)]), by (repeat' (first | exact Below.refl _ _ | assumption | refine below_new ?_ _ | refine below_draw ?_ | refine below_tail (by assumption) ?_ | refine below_set ?_ (by first | omega | (simp <;> omega)) _))⟩
    case false =>
      cases d1 : decide ((l.length : Int) ≤ i)
      case true =>
        go_enter Try.func85, Try.ntmps85
        go_wp2_with (go_at_call 27; (with_reducible refine (validate_is _ (HP.out.below (by (repeat' (first | exact Below.refl _ _ | assumption | refine below_new ?_ _ | refine below_draw ?_ | refine below_tail (by assumption) ?_ | refine below_set ?_ (by first | omega | (simp <;> omega)) _)))) HE.out).use ?_); intro w1 hb1 hz1 hc1 hf1; clear hc1 hf1)
        go_ret
        exact ⟨ret_int (by rw [HN.out, if_pos HE.out, if_neg (fun h => by have := of_decide_eq_true d1; omega)]), by (repeat' (first | exact Below.refl _ _ | assumption | refine below_new ?_ _ | refine below_draw ?_ | refine below_tail (by assumption) ?_ | refine below_set ?_ (by first | omega | (simp <;> omega)) _))⟩
      case false =>
        cases d2 : decide (j < 0)
        case true =>
          go_enter Try.func85, Try.ntmps85
          go_wp2_with (go_at_call 27; (with_reducible refine (validate_is _ (HP.out.below (by (repeat' (first | exact Below.refl _ _ | assumption | refine below_new ?_ _ | refine below_draw ?_ | refine below_tail (by assumption) ?_ | refine below_set ?_ (by first | omega | (simp <;> omega)) _)))) HE.out).use ?_); intro w1 hb1 hz1 hc1 hf1; clear hc1 hf1)
          go_ret
          exact ⟨ret_int (by rw [HN.out, if_pos HE.out, if_neg (fun h => by have := of_decide_eq_true d2; omega)]), by (repeat' (first | exact Below.refl _ _ | assumption | refine below_new ?_ _ | refine below_draw ?_ | refine below_tail (by assumption) ?_ | refine below_set ?_ (by first | omega | (simp <;> omega)) _))⟩
        case false =>
          cases d3 : decide ((l.length : Int) ≤ j)
          case true =>
            go_enter Try.func85, Try.ntmps85
            go_wp2_with (go_at_call 27; (with_reducible refine (validate_is _ (HP.out.below (by (repeat' (first | exact Below.refl _ _ | assumption | refine below_new ?_ _ | refine below_draw ?_ | refine below_tail (by assumption) ?_ | refine below_set ?_ (by first | omega | (simp <;> omega)) _)))) HE.out).use ?_); intro w1 hb1 hz1 hc1 hf1; clear hc1 hf1)
            go_ret
            exact ⟨ret_int (by rw [HN.out, if_pos HE.out, if_neg (fun h => by have := of_decide_eq_true d3; omega)]), by (repeat' (first | exact Below.refl _ _ | assumption | refine below_new ?_ _ | refine below_draw ?_ | refine below_tail (by assumption) ?_ | refine below_set ?_ (by first | omega | (simp <;> omega)) _))⟩
          case false =>
            go_enter Try.func85, Try.ntmps85
            go_wp2_with (go_at_call 27; (with_reducible refine (validate_is _ (HP.out.below (by (repeat' (first | exact Below.refl _ _ | assumption | refine below_new ?_ _ | refine below_draw ?_ | refine below_tail (by assumption) ?_ | refine below_set ?_ (by first | omega | (simp <;> omega)) _)))) HE.out).use ?_); intro w1 hb1 hz1 hc1 hf1; clear hc1 hf1)
            go_ret
            exact ⟨ret_int (by rw [HN.out, if_pos HE.out, if_pos (by have := of_decide_eq_false d0; have := of_decide_eq_false d1; have := of_decide_eq_false d2; have := of_decide_eq_false d3; omega)]), by (repeat' (first | exact Below.refl _ _ | assumption | refine below_new ?_ _ | refine below_draw ?_ | refine below_tail (by assumption) ?_ | refine below_set ?_ (by first | omega | (simp <;> omega)) _))⟩
  · have h1 : (e == 0) = false := by simpa using hz
    have h2 : (e != 0) = true := by simpa using hz
    have HZ := Lib.hid hz
    clear hz
    go_enter Try.func85, Try.ntmps85
    go_wp2_with (go_at_call 27; (with_reducible refine (validate_is _ (HP.out.below (by (repeat' (first | exact Below.refl _ _ | assumption | refine below_new ?_ _ | refine below_draw ?_ | refine below_tail (by assumption) ?_ | refine below_set ?_ (by first | omega | (simp <;> omega)) _)))) HE.out).use ?_); intro w1 hb1 hz1 hc1 hf1; clear hc1 hf1)
    go_ret
    exact ⟨ret_int (by rw [HN.out, if_neg (by rw [HE.out]; exact HZ.out), HE.out]), by (repeat' (first | exact Below.refl _ _ | assumption | refine below_new ?_ _ | refine below_draw ?_ | refine below_tail (by assumption) ?_ | refine below_set ?_ (by first | omega | (simp <;> omega)) _))⟩
theorem numbered_is {v : Value} {l : List (Int × Int)} {i j e : Int} (w : World) (h : PairsAt w v l) (he : numF l i j = e) : Gives Try.prog 85 #[v, .int .i64 i, .int .i64 j] w (.int .i64 e) := he ▸ numbered_calls v l i j w h
theorem splits_is {v : Value} {l : List (Int × Int)} {i j : Nat} {t : Bool} (w : World) (h : PairsAt w v l) (hv : Valid l) (hi : i < l.length) (hj : j < l.length) (ht : splitB l i j = t) : Gives Try.prog 86 #[v, .int .i64 i, .int .i64 j] w (.bool t) := by
  subst ht
  cases hn : nextTo l.length i j
  · exact splits_no v l i j w h hv hi hj hn
  · exact splits_yes v l i j w h hv hi hj hn
def canB (l : List (Int × Int)) (i j : Int) : Bool := if numF l i j = 0 then splitB l i.toNat j.toNat else false
set_option maxHeartbeats 1000000 in
theorem CanSplit_calls (v : Value) (l : List (Int × Int)) (i j : Int) (w : World) (h : PairsAt w v l) : Gives Try.prog 39 #[v, .int .i64 i, .int .i64 j] w (.tuple #[.bool (canB l i j), .int .i64 (numF l i j)]) := by
  have HP := Lib.hid h
  obtain ⟨sa, cap, rfl, hlc, hcm, -⟩ := h
  have HC : Hid (canB l i j = if numF l i j = 0 then splitB l i.toNat j.toNat else false) := rfl
  obtain ⟨t, ht⟩ : ∃ e, canB l i j = e := ⟨_, rfl⟩
  rw [ht] at HC ⊢
  clear ht
  obtain ⟨e, he⟩ : ∃ e, numF l i j = e := ⟨_, rfl⟩
  have HE := Lib.hid he
  rw [he]
  clear he
  unfold Gives
  by_cases hz : e = 0
  · subst hz
    obtain ⟨hv, i1, i2, j1, j2⟩ := numF_ok HE.out
    obtain ⟨i', rfl⟩ := Int.eq_ofNat_of_zero_le i1
    obtain ⟨j', rfl⟩ := Int.eq_ofNat_of_zero_le j1
    have hi : i' < l.length := by omega
    have hj : j' < l.length := by omega
    have HT : Hid (splitB l i' j' = t) := by unfold Hid; rw [HC.out, if_pos HE.out]; rfl
    have HV := Lib.hid hv
    clear hv i1 i2 j1 j2
    go_enter Try.func39, Try.ntmps39
    go_wp2_with (first | (go_at_call 85; (with_reducible refine (numbered_is _ (HP.out.below (by (repeat' (first | exact Below.refl _ _ | assumption | refine below_new ?_ _ | refine below_draw ?_ | refine below_tail (by assumption) ?_ | refine below_set ?_ (by first | omega | (simp <;> omega)) _)))) HE.out).use ?_); intro w1 hb1 hz1 hc1 hf1; clear hc1 hf1) | (go_at_call 86; (with_reducible refine (splits_is _ (HP.out.below (by (repeat' (first | exact Below.refl _ _ | assumption | refine below_new ?_ _ | refine below_draw ?_ | refine below_tail (by assumption) ?_ | refine below_set ?_ (by first | omega | (simp <;> omega)) _)))) (valid_iff.1 HV.out) hi hj HT.out).use ?_); intro w2 hb2 hz2 hc2 hf2; clear hc2 hf2))
    go_ret2
    exact ⟨rfl, by (repeat' (first | exact Below.refl _ _ | assumption | refine below_new ?_ _ | refine below_draw ?_ | refine below_tail (by assumption) ?_ | refine below_set ?_ (by first | omega | (simp <;> omega)) _))⟩
  · have h1 : (e == 0) = false := by simpa using hz
    have h2 : (e != 0) = true := by simpa using hz
    have HT : Hid (t = false) := by unfold Hid; rw [HC.out, if_neg (by rw [HE.out]; exact hz)]
    clear hz
    go_enter Try.func39, Try.ntmps39
    go_wp2_with (go_at_call 85; (with_reducible refine (numbered_is _ (HP.out.below (by (repeat' (first | exact Below.refl _ _ | assumption | refine below_new ?_ _ | refine below_draw ?_ | refine below_tail (by assumption) ?_ | refine below_set ?_ (by first | omega | (simp <;> omega)) _)))) HE.out).use ?_); intro w1 hb1 hz1 hc1 hf1; clear hc1 hf1)
    go_ret2
    exact ⟨by rw [HT.out]; rfl, by (repeat' (first | exact Below.refl _ _ | assumption | refine below_new ?_ _ | refine below_draw ?_ | refine below_tail (by assumption) ?_ | refine below_set ?_ (by first | omega | (simp <;> omega)) _))⟩
end Go.Proofs.Ythiemglckmociaa
