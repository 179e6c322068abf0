/- What numbered and CanSplit of package plot give. Conditions: the list lies in memory as said. -/
import Derived.Test.YthiemglckmociaaPtSplitN
import Derived.Test.YthiemglckmociaaPtSplitW
namespace Go.Proofs.Ythiemglckmociaa
open Go.RowKit

set_option maxHeartbeats 1000000 in
theorem numbered_calls (v : Value) (l : List (Int × Int)) (i j : Int) (w : World) (h : PairsAt w v l) : Gives Try.prog 85 #[v, .int .i64 i, .int .i64 j] w (.int .i64 (numF l i j)) := by
  have HP := Lib.hid h
  obtain ⟨sa, cap, rfl, hlc, hcm, -⟩ := h
  have HN : Hid (numF l i j = if validF l = 0 then (if 0 ≤ i ∧ i < l.length ∧ 0 ≤ j ∧ j < l.length then 0 else 4) else validF l) := rfl
  obtain ⟨e, he⟩ : ∃ e, validF l = e := ⟨_, rfl⟩
  have HE := Lib.hid he
  clear he
  unfold Gives
  by_cases hz : e = 0
  · subst hz
    cases d0 : decide (i < 0)
    case true =>
      go_enter Try.func85, Try.ntmps85
      go_wp2_with (go_at_call 27; (with_reducible refine (validate_is _ (HP.out.below (by (repeat' (first | exact Below.refl _ _ | assumption | refine below_new ?_ _ | refine below_draw ?_ | refine below_tail (by assumption) ?_ | refine below_set ?_ (by first | omega | (simp <;> omega)) _)))) HE.out).use ?_); intro w1 hb1 hz1 hc1 hf1; clear hc1 hf1)
      go_ret
      exact ⟨ret_int (by rw [HN.out, if_pos HE.out, if_neg (fun h => by have := of_decide_eq_true d0; omega)]), by (repeat' (first | exact Below.refl _ _ | assumption | refine below_new ?_ _ | refine below_draw ?_ | refine below_tail (by assumption) ?_ | refine below_set ?_ (by first | omega | (simp <;> omega)) _))⟩
    case false =>
      cases d1 : decide ((l.length : Int) ≤ i)
      case true =>
        go_enter Try.func85, Try.ntmps85
        go_wp2_with (go_at_call 27; (with_reducible refine (validate_is _ (HP.out.below (by (repeat' (first | exact Below.refl _ _ | assumption | refine below_new ?_ _ | refine below_draw ?_ | refine below_tail (by assumption) ?_ | refine below_set ?_ (by first | omega | (simp <;> omega)) _)))) HE.out).use ?_); intro w1 hb1 hz1 hc1 hf1; clear hc1 hf1)
        go_ret
        exact ⟨ret_int (by rw [HN.out, if_pos HE.out, if_neg (fun h => by have := of_decide_eq_true d1; omega)]), by (repeat' (first | exact Below.refl _ _ | assumption | refine below_new ?_ _ | refine below_draw ?_ | refine below_tail (by assumption) ?_ | refine below_set ?_ (by first | omega | (simp <;> omega)) _))⟩
      case false =>
        cases d2 : decide (j < 0)
        case true =>
          go_enter Try.func85, Try.ntmps85
          go_wp2_with (go_at_call 27; (with_reducible refine (validate_is _ (HP.out.below (by (repeat' (first | exact Below.refl _ _ | assumption | refine below_new ?_ _ | refine below_draw ?_ | refine below_tail (by assumption) ?_ | refine below_set ?_ (by first | omega | (simp <;> omega)) _)))) HE.out).use ?_); intro w1 hb1 hz1 hc1 hf1; clear hc1 hf1)
          go_ret
          exact ⟨ret_int (by rw [HN.out, if_pos HE.out, if_neg (fun h => by have := of_decide_eq_true d2; omega)]), by (repeat' (first | exact Below.refl _ _ | assumption | refine below_new ?_ _ | refine below_draw ?_ | refine below_tail (by assumption) ?_ | refine below_set ?_ (by first | omega | (simp <;> omega)) _))⟩
        case false =>
          cases d3 : decide ((l.length : Int) ≤ j)
          case true =>
            go_enter Try.func85, Try.ntmps85
            go_wp2_with (go_at_call 27; (with_reducible refine (validate_is _ (HP.out.below (by (repeat' (first | exact Below.refl _ _ | assumption | refine below_new ?_ _ | refine below_draw ?_ | refine below_tail (by assumption) ?_ | refine below_set ?_ (by first | omega | (simp <;> omega)) _)))) HE.out).use ?_); intro w1 hb1 hz1 hc1 hf1; clear hc1 hf1)
            go_ret
            exact ⟨ret_int (by rw [HN.out, if_pos HE.out, if_neg (fun h => by have := of_decide_eq_true d3; omega)]), by (repeat' (first | exact Below.refl _ _ | assumption | refine below_new ?_ _ | refine below_draw ?_ | refine below_tail (by assumption) ?_ | refine below_set ?_ (by first | omega | (simp <;> omega)) _))⟩
          case false =>
            go_enter Try.func85, Try.ntmps85
            go_wp2_with (go_at_call 27; (with_reducible refine (validate_is _ (HP.out.below (by (repeat' (first | exact Below.refl _ _ | assumption | refine below_new ?_ _ | refine below_draw ?_ | refine below_tail (by assumption) ?_ | refine below_set ?_ (by first | omega | (simp <;> omega)) _)))) HE.out).use ?_); intro w1 hb1 hz1 hc1 hf1; clear hc1 hf1)
            go_ret
            exact ⟨ret_int (by rw [HN.out, if_pos HE.out, if_pos (by have := of_decide_eq_false d0; have := of_decide_eq_false d1; have := of_decide_eq_false d2; have := of_decide_eq_false d3; omega)]), by (repeat' (first | exact Below.refl _ _ | assumption | refine below_new ?_ _ | refine below_draw ?_ | refine below_tail (by assumption) ?_ | refine below_set ?_ (by first | omega | (simp <;> omega)) _))⟩
  · have h1 : (e == 0) = false := by simpa using hz
    have h2 : (e != 0) = true := by simpa using hz
    have HZ := Lib.hid hz
    clear hz
    go_enter Try.func85, Try.ntmps85
    go_wp2_with (go_at_call 27; (with_reducible refine (validate_is _ (HP.out.below (by (repeat' (first | exact Below.refl _ _ | assumption | refine below_new ?_ _ | refine below_draw ?_ | refine below_tail (by assumption) ?_ | refine below_set ?_ (by first | omega | (simp <;> omega)) _)))) HE.out).use ?_); intro w1 hb1 hz1 hc1 hf1; clear hc1 hf1)
    go_ret
    exact ⟨ret_int (by rw [HN.out, if_neg (by rw [HE.out]; exact HZ.out), HE.out]), by (repeat' (first | exact Below.refl _ _ | assumption | refine below_new ?_ _ | refine below_draw ?_ | refine below_tail (by assumption) ?_ | refine below_set ?_ (by first | omega | (simp <;> omega)) _))⟩
theorem numbered_is {v : Value} {l : List (Int × Int)} {i j e : Int} (w : World) (h : PairsAt w v l) (he : numF l i j = e) : Gives Try.prog 85 #[v, .int .i64 i, .int .i64 j] w (.int .i64 e) := he ▸ numbered_calls v l i j w h
theorem splits_is {v : Value} {l : List (Int × Int)} {i j : Nat} {t : Bool} (w : World) (h : PairsAt w v l) (hv : Valid l) (hi : i < l.length) (hj : j < l.length) (ht : splitB l i j = t) : Gives Try.prog 86 #[v, .int .i64 i, .int .i64 j] w (.bool t) := by
  subst ht
  cases hn : nextTo l.length i j
  · exact splits_no v l i j w h hv hi hj hn
  · exact splits_yes v l i j w h hv hi hj hn
end Go.Proofs.Ythiemglckmociaa
