/- The law PlotConvex returns true. Conditions: the list lies in memory as said. -/
import Derived.Test.YthiemglckmociaaPtRConv
import Derived.Test.YthiemglckmociaaPtHullA
import Derived.Test.YthiemglckmociaaPlotAreasL
namespace Go.Proofs.Ythiemglckmociaa
open Go.RowKit

theorem Hull_is {v : Value} {l h : List (Int × Int)} {e : Int} (w : World) (hp : PairsAt w v l) (hh : hullL l = h) (he : hullE l = e) : GivesPts Try.prog 35 #[v] w h e := by subst hh he; exact Hull_calls v l w hp
theorem IsConvex_is {v : Value} {l : List (Int × Int)} {c : Bool} {e : Int} (w : World) (hp : PairsAt w v l) (hc : cvxB l = c) (he : validF l = e) : Gives Try.prog 52 #[v] w (.tuple #[.bool c, .int .i64 e]) := by subst hc he; exact IsConvex_calls v l w hp
theorem rIsConvex_is {v : Value} {l : List (Int × Int)} {c : Bool} {e : Int} (w : World) (hp : PairsAt w v l) (hc : cvxB l = c) (he : validF l = e) : Gives Try.prog 53 #[v] w (.tuple #[.bool c, .int .i64 e]) := by subst hc he; exact rIsConvex_calls v l w hp
/-- What the law asks. -/
theorem convex_facts {l : List (Int × Int)} (h : validF l = 0) : hullE l = 0 ∧ validF (hullL l) = 0 ∧ twiceF l ≤ twiceF (hullL l) ∧ (cvxB l = (twiceF (hullL l) == twiceF l)) := by
  have hv := valid_iff.1 h
  obtain ⟨h1, h2, h3⟩ := convex_law hv
  have e : hullL l = hullF (sortC l) := by unfold hullL; rw [if_pos h1]
  rw [e]
  refine ⟨h1, valid_iff.2 (hull_ok h1).val, h2, ?_⟩
  unfold cvxB
  rw [if_pos h, Bool.eq_iff_iff, h3]
  simp
set_option maxHeartbeats 4000000 in
set_option maxRecDepth 100000 in
theorem plotConvex_calls (v : Value) (l : List (Int × Int)) (w : World) (h : PairsAt w v l) : Gives Try.prog 15 #[v] w (.bool true) := by
  have HP := Lib.hid h
  obtain ⟨sa, cap, rfl, hlc, hcm, -⟩ := h
  unfold Gives
  obtain ⟨b, hb⟩ : ∃ b, decide (40 < (l.length : Int)) = b := ⟨_, rfl⟩
  have HLO := Lib.hid hb
  clear hb
  cases b
  · obtain ⟨c, hc⟩ : ∃ c, cvxB l = c := ⟨_, rfl⟩
    obtain ⟨e, he⟩ : ∃ e, validF l = e := ⟨_, rfl⟩
    have HC := Lib.hid hc
    have HE := Lib.hid he
    clear he
    by_cases hz : e = 0
    · subst hz
      obtain ⟨f1, f2, f3, f4⟩ := convex_facts HE.out
      obtain ⟨hh, hhe⟩ : ∃ hh, hullL l = hh := ⟨_, rfl⟩
      obtain ⟨n, hn⟩ : ∃ n, twiceF hh = n := ⟨_, rfl⟩
      obtain ⟨m, hm⟩ : ∃ m, twiceF l = m := ⟨_, rfl⟩
      rw [hhe, hn, hm] at f3
      rw [hc, hhe, hn, hm] at f4
      rw [hhe] at f2
      have HH := Lib.hid hhe
      have HN := Lib.hid hn
      have HM := Lib.hid hm
      have HHE := Lib.hid f1
      have HHV := Lib.hid f2
      have x1 : decide (m ≤ n) = true := decide_eq_true f3
      have x2 : (n == m) = c := f4.symm
      clear hc hhe hn hm f1 f2 f3 f4
      cases c
      all_goals
        go_enter Try.func15, Try.ntmps15
        go_wp2_with (first
          | (go_at_call 17; refine (Long_is _ (HP.out.below (by (repeat' (first | exact Below.refl _ _ | assumption | refine below_new ?_ _ | refine below_draw ?_ | refine below_tail (by assumption) ?_ | refine below_set ?_ (by first | omega | (simp <;> omega)) _)))) HLO.out).use ?_; intro wl hbl hzl hcl hfl; clear hcl hfl)
          | (go_at_call 18; refine (known_calls _).use ?_; intro wk hbk hzk hck hfk; clear hck hfk)
          | (go_at_call 52; (with_reducible refine (IsConvex_is _ (HP.out.below (by (repeat' (first | exact Below.refl _ _ | assumption | refine below_new ?_ _ | refine below_draw ?_ | refine below_tail (by assumption) ?_ | refine below_set ?_ (by first | omega | (simp <;> omega)) _)))) HC.out HE.out).use ?_); intro w1 hb1 hz1 hc1 hf1; clear hc1 hf1)
          | (go_at_call 53; (with_reducible refine (rIsConvex_is _ (HP.out.below (by (repeat' (first | exact Below.refl _ _ | assumption | refine below_new ?_ _ | refine below_draw ?_ | refine below_tail (by assumption) ?_ | refine below_set ?_ (by first | omega | (simp <;> omega)) _)))) HC.out HE.out).use ?_); intro w2 hb2 hz2 hc2 hf2; clear hc2 hf2)
          | (go_at_call 35; (with_reducible refine (Hull_is _ (HP.out.below (by (repeat' (first | exact Below.refl _ _ | assumption | refine below_new ?_ _ | refine below_draw ?_ | refine below_tail (by assumption) ?_ | refine below_set ?_ (by first | omega | (simp <;> omega)) _)))) HH.out HHE.out).use ?_); intro a3 c3 w3 hb3 hz3 hc3 hf3 HO3; have HP3 := Lib.hid (own_pairs HO3.out); clear hc3 hf3 HO3)
          | (go_at_call 23; (with_reducible refine (Twice_is _ (HP3.out.below (by (repeat' (first | exact Below.refl _ _ | assumption | refine below_new ?_ _ | refine below_draw ?_ | refine below_tail (by assumption) ?_ | refine below_set ?_ (by first | omega | (simp <;> omega)) _)))) HN.out HHV.out).use ?_); intro w4 hb4 hz4 hc4 hf4; clear hc4 hf4)
          | (go_at_call 23; (with_reducible refine (Twice_is _ (HP.out.below (by (repeat' (first | exact Below.refl _ _ | assumption | refine below_new ?_ _ | refine below_draw ?_ | refine below_tail (by assumption) ?_ | refine below_set ?_ (by first | omega | (simp <;> omega)) _)))) HM.out HE.out).use ?_); intro w5 hb5 hz5 hc5 hf5; clear hc5 hf5))
        go_ret
        exact ⟨rfl, by (repeat' (first | exact Below.refl _ _ | assumption | refine below_new ?_ _ | refine below_draw ?_ | refine below_tail (by assumption) ?_ | refine below_set ?_ (by first | omega | (simp <;> omega)) _))⟩
    · have h1 : (e == 0) = false := by simpa using hz
      have h2 : (e != 0) = true := by simpa using hz
      clear hz hc
      go_enter Try.func15, Try.ntmps15
      go_wp2_with (first
        | (go_at_call 17; refine (Long_is _ (HP.out.below (by (repeat' (first | exact Below.refl _ _ | assumption | refine below_new ?_ _ | refine below_draw ?_ | refine below_tail (by assumption) ?_ | refine below_set ?_ (by first | omega | (simp <;> omega)) _)))) HLO.out).use ?_; intro wl hbl hzl hcl hfl; clear hcl hfl)
        | (go_at_call 18; refine (known_calls _).use ?_; intro wk hbk hzk hck hfk; clear hck hfk)
        | (go_at_call 52; (with_reducible refine (IsConvex_is _ (HP.out.below (by (repeat' (first | exact Below.refl _ _ | assumption | refine below_new ?_ _ | refine below_draw ?_ | refine below_tail (by assumption) ?_ | refine below_set ?_ (by first | omega | (simp <;> omega)) _)))) HC.out HE.out).use ?_); intro w1 hb1 hz1 hc1 hf1; clear hc1 hf1)
        | (go_at_call 53; (with_reducible refine (rIsConvex_is _ (HP.out.below (by (repeat' (first | exact Below.refl _ _ | assumption | refine below_new ?_ _ | refine below_draw ?_ | refine below_tail (by assumption) ?_ | refine below_set ?_ (by first | omega | (simp <;> omega)) _)))) HC.out HE.out).use ?_); intro w2 hb2 hz2 hc2 hf2; clear hc2 hf2))
      go_ret
      exact ⟨rfl, by (repeat' (first | exact Below.refl _ _ | assumption | refine below_new ?_ _ | refine below_draw ?_ | refine below_tail (by assumption) ?_ | refine below_set ?_ (by first | omega | (simp <;> omega)) _))⟩
  · go_enter Try.func15, Try.ntmps15
    go_wp2_with (first | (go_at_call 17; refine (Long_is _ (HP.out.below (by (repeat' (first | exact Below.refl _ _ | assumption | refine below_new ?_ _ | refine below_draw ?_ | refine below_tail (by assumption) ?_ | refine below_set ?_ (by first | omega | (simp <;> omega)) _)))) HLO.out).use ?_; intro wl hbl hzl hcl hfl; clear hcl hfl) | (go_at_call 18; refine (known_calls _).use ?_; intro wk hbk hzk hck hfk; clear hck hfk))
    go_ret
    exact ⟨rfl, by (repeat' (first | exact Below.refl _ _ | assumption | refine below_new ?_ _ | refine below_draw ?_ | refine below_tail (by assumption) ?_ | refine below_set ?_ (by first | omega | (simp <;> omega)) _))⟩
end Go.Proofs.Ythiemglckmociaa
