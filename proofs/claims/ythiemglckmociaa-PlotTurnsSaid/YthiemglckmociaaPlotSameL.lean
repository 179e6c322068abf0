/- The law PlotSame returns true. Conditions: the lists lie in memory as said. -/
import Derived.Test.YthiemglckmociaaPlotAreasL
import Derived.Test.YthiemglckmociaaPtSameG
namespace Go.Proofs.Ythiemglckmociaa
open Go.RowKit

theorem Same_is {v1 v2 : Value} {p q : List (Int × Int)} {t : Bool} {e : Int} (w : World) (h1 : PairsAt w v1 p) (h2 : PairsAt w v2 q) (ht : sameB p q = t) (he : sameE p q = e) : Gives Try.prog 44 #[v1, v2] w (.tuple #[.bool t, .int .i64 e]) := by subst ht he; exact Same_calls v1 v2 p q w h1 h2
theorem rSame_is {v1 v2 : Value} {p q : List (Int × Int)} {t : Bool} {e : Int} (w : World) (h1 : PairsAt w v1 p) (h2 : PairsAt w v2 q) (ht : sameB p q = t) (he : sameE p q = e) : Gives Try.prog 45 #[v1, v2] w (.tuple #[.bool t, .int .i64 e]) := by subst ht he; exact rSame_calls v1 v2 p q w h1 h2
theorem sameB_symm (p q : List (Int × Int)) : sameB p q = sameB q p := by
  unfold sameB
  by_cases h : validF p = 0 ∧ validF q = 0
  · rw [if_pos h, if_pos ⟨h.2, h.1⟩]; exact decide_eq_decide.2 ⟨Eq.symm, Eq.symm⟩
  · rw [if_neg h, if_neg fun e => h ⟨e.2, e.1⟩]
theorem sameE_zero {p q : List (Int × Int)} (h : sameE p q = 0) : sameE q p = 0 := by
  unfold sameE at *
  split at h
  · rename_i h1; rw [if_pos h]; exact h1
  · rename_i h1; exact absurd h h1
set_option maxHeartbeats 2000000 in
theorem plotSame_calls (v1 v2 : Value) (p q : List (Int × Int)) (w : World) (h1 : PairsAt w v1 p) (h2 : PairsAt w v2 q) : Gives Try.prog 12 #[v1, v2] w (.bool true) := by
  have HP := Lib.hid h1
  have HQ := Lib.hid h2
  obtain ⟨sa, cap, rfl, hlc, hcm, _⟩ := h1
  obtain ⟨sb, cbp, rfl, hlb, hbm, _⟩ := h2
  unfold Gives
  obtain ⟨b, hb⟩ : ∃ b, decide (40 < (p.length : Int)) = b := ⟨_, rfl⟩
  obtain ⟨d, hd⟩ : ∃ b, decide (40 < (q.length : Int)) = b := ⟨_, rfl⟩
  have HLO := Lib.hid hb
  have HLQ := Lib.hid hd
  clear hb hd
  cases b
  · cases d
    · obtain ⟨t, ht⟩ : ∃ e, sameB p q = e := ⟨_, rfl⟩
      obtain ⟨E, hE⟩ : ∃ e, sameE p q = e := ⟨_, rfl⟩
      have HB := Lib.hid ht
      have HE := Lib.hid hE
      have HB2 := Lib.hid ((sameB_symm q p).trans ht)
      clear ht hE
      by_cases hz : E = 0
      · subst hz
        have HE2 := Lib.hid (sameE_zero HE.out)
        go_enter Try.func12, Try.ntmps12
        go_wp2_with (first | (go_at_call 17; first | ((with_reducible refine (Long_is _ (HP.out.below (by (repeat' (first | exact Below.refl _ _ | assumption | refine below_new ?_ _ | refine below_draw ?_ | refine below_tail (by assumption) ?_ | refine below_set ?_ (by first | omega | (simp <;> omega)) _)))) HLO.out).use ?_); intro wl hbl hzl hcl hfl; clear hcl hfl hzl) | ((with_reducible refine (Long_is _ (HQ.out.below (by (repeat' (first | exact Below.refl _ _ | assumption | refine below_new ?_ _ | refine below_draw ?_ | refine below_tail (by assumption) ?_ | refine below_set ?_ (by first | omega | (simp <;> omega)) _)))) HLQ.out).use ?_); intro wm hbm2 hzm hcm2 hfm; clear hcm2 hfm hzm)) | (go_at_call 18; refine (known_calls _).use ?_; intro wk hbk hzk hck hfk; clear hck hfk) | (go_at_call 44; first | ((with_reducible refine (Same_is _ (HP.out.below (by (repeat' (first | exact Below.refl _ _ | assumption | refine below_new ?_ _ | refine below_draw ?_ | refine below_tail (by assumption) ?_ | refine below_set ?_ (by first | omega | (simp <;> omega)) _)))) (HQ.out.below (by (repeat' (first | exact Below.refl _ _ | assumption | refine below_new ?_ _ | refine below_draw ?_ | refine below_tail (by assumption) ?_ | refine below_set ?_ (by first | omega | (simp <;> omega)) _)))) HB.out HE.out).use ?_); intro w1 hb1 hz1 hc1 hf1; clear hz1 hc1 hf1) | ((with_reducible refine (Same_is _ (HQ.out.below (by (repeat' (first | exact Below.refl _ _ | assumption | refine below_new ?_ _ | refine below_draw ?_ | refine below_tail (by assumption) ?_ | refine below_set ?_ (by first | omega | (simp <;> omega)) _)))) (HP.out.below (by (repeat' (first | exact Below.refl _ _ | assumption | refine below_new ?_ _ | refine below_draw ?_ | refine below_tail (by assumption) ?_ | refine below_set ?_ (by first | omega | (simp <;> omega)) _)))) HB2.out HE2.out).use ?_); intro w3 hb3 hz3 hc3 hf3; clear hz3 hc3 hf3)) | (go_at_call 45; (with_reducible refine (rSame_is _ (HP.out.below (by (repeat' (first | exact Below.refl _ _ | assumption | refine below_new ?_ _ | refine below_draw ?_ | refine below_tail (by assumption) ?_ | refine below_set ?_ (by first | omega | (simp <;> omega)) _)))) (HQ.out.below (by (repeat' (first | exact Below.refl _ _ | assumption | refine below_new ?_ _ | refine below_draw ?_ | refine below_tail (by assumption) ?_ | refine below_set ?_ (by first | omega | (simp <;> omega)) _)))) HB.out HE.out).use ?_); intro w2 hb2 hz2 hc2 hf2; clear hz2 hc2 hf2))
        go_ret
        exact ⟨rfl, by (repeat' (first | exact Below.refl _ _ | assumption | refine below_new ?_ _ | refine below_draw ?_ | refine below_tail (by assumption) ?_ | refine below_set ?_ (by first | omega | (simp <;> omega)) _))⟩
      · have h1 : (E == 0) = false := by simpa using hz
        have h2 : (E != 0) = true := by simpa using hz
        clear hz
        go_enter Try.func12, Try.ntmps12
        go_wp2_with (first | (go_at_call 17; first | ((with_reducible refine (Long_is _ (HP.out.below (by (repeat' (first | exact Below.refl _ _ | assumption | refine below_new ?_ _ | refine below_draw ?_ | refine below_tail (by assumption) ?_ | refine below_set ?_ (by first | omega | (simp <;> omega)) _)))) HLO.out).use ?_); intro wl hbl hzl hcl hfl; clear hcl hfl hzl) | ((with_reducible refine (Long_is _ (HQ.out.below (by (repeat' (first | exact Below.refl _ _ | assumption | refine below_new ?_ _ | refine below_draw ?_ | refine below_tail (by assumption) ?_ | refine below_set ?_ (by first | omega | (simp <;> omega)) _)))) HLQ.out).use ?_); intro wm hbm2 hzm hcm2 hfm; clear hcm2 hfm hzm)) | (go_at_call 18; refine (known_calls _).use ?_; intro wk hbk hzk hck hfk; clear hck hfk) | (go_at_call 44; first | ((with_reducible refine (Same_is _ (HP.out.below (by (repeat' (first | exact Below.refl _ _ | assumption | refine below_new ?_ _ | refine below_draw ?_ | refine below_tail (by assumption) ?_ | refine below_set ?_ (by first | omega | (simp <;> omega)) _)))) (HQ.out.below (by (repeat' (first | exact Below.refl _ _ | assumption | refine below_new ?_ _ | refine below_draw ?_ | refine below_tail (by assumption) ?_ | refine below_set ?_ (by first | omega | (simp <;> omega)) _)))) HB.out HE.out).use ?_); intro w1 hb1 hz1 hc1 hf1; clear hz1 hc1 hf1)) | (go_at_call 45; (with_reducible refine (rSame_is _ (HP.out.below (by (repeat' (first | exact Below.refl _ _ | assumption | refine below_new ?_ _ | refine below_draw ?_ | refine below_tail (by assumption) ?_ | refine below_set ?_ (by first | omega | (simp <;> omega)) _)))) (HQ.out.below (by (repeat' (first | exact Below.refl _ _ | assumption | refine below_new ?_ _ | refine below_draw ?_ | refine below_tail (by assumption) ?_ | refine below_set ?_ (by first | omega | (simp <;> omega)) _)))) HB.out HE.out).use ?_); intro w2 hb2 hz2 hc2 hf2; clear hz2 hc2 hf2))
        go_ret
        exact ⟨rfl, by (repeat' (first | exact Below.refl _ _ | assumption | refine below_new ?_ _ | refine below_draw ?_ | refine below_tail (by assumption) ?_ | refine below_set ?_ (by first | omega | (simp <;> omega)) _))⟩
    · skip
      go_enter Try.func12, Try.ntmps12
      go_wp2_with (first | (go_at_call 17; first | ((with_reducible refine (Long_is _ (HP.out.below (by (repeat' (first | exact Below.refl _ _ | assumption | refine below_new ?_ _ | refine below_draw ?_ | refine below_tail (by assumption) ?_ | refine below_set ?_ (by first | omega | (simp <;> omega)) _)))) HLO.out).use ?_); intro wl hbl hzl hcl hfl; clear hcl hfl hzl) | ((with_reducible refine (Long_is _ (HQ.out.below (by (repeat' (first | exact Below.refl _ _ | assumption | refine below_new ?_ _ | refine below_draw ?_ | refine below_tail (by assumption) ?_ | refine below_set ?_ (by first | omega | (simp <;> omega)) _)))) HLQ.out).use ?_); intro wm hbm2 hzm hcm2 hfm; clear hcm2 hfm hzm)) | (go_at_call 18; refine (known_calls _).use ?_; intro wk hbk hzk hck hfk; clear hck hfk))
      go_ret
      exact ⟨rfl, by (repeat' (first | exact Below.refl _ _ | assumption | refine below_new ?_ _ | refine below_draw ?_ | refine below_tail (by assumption) ?_ | refine below_set ?_ (by first | omega | (simp <;> omega)) _))⟩
  · skip
    go_enter Try.func12, Try.ntmps12
    go_wp2_with (first | (go_at_call 17; first | ((with_reducible refine (Long_is _ (HP.out.below (by (repeat' (first | exact Below.refl _ _ | assumption | refine below_new ?_ _ | refine below_draw ?_ | refine below_tail (by assumption) ?_ | refine below_set ?_ (by first | omega | (simp <;> omega)) _)))) HLO.out).use ?_); intro wl hbl hzl hcl hfl; clear hcl hfl hzl) | ((with_reducible refine (Long_is _ (HQ.out.below (by (repeat' (first | exact Below.refl _ _ | assumption | refine below_new ?_ _ | refine below_draw ?_ | refine below_tail (by assumption) ?_ | refine below_set ?_ (by first | omega | (simp <;> omega)) _)))) HLQ.out).use ?_); intro wm hbm2 hzm hcm2 hfm; clear hcm2 hfm hzm)) | (go_at_call 18; refine (known_calls _).use ?_; intro wk hbk hzk hck hfk; clear hck hfk))
    go_ret
    exact ⟨rfl, by (repeat' (first | exact Below.refl _ _ | assumption | refine below_new ?_ _ | refine below_draw ?_ | refine below_tail (by assumption) ?_ | refine below_set ?_ (by first | omega | (simp <;> omega)) _))⟩
end Go.Proofs.Ythiemglckmociaa
