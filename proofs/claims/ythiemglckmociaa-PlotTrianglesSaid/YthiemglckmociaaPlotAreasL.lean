/- The law PlotAreas returns true. Conditions: the lists lie in memory as said. -/
import Derived.Test.YthiemglckmociaaPtKnown
namespace Go.Proofs.Ythiemglckmociaa
open Go.RowKit

set_option maxHeartbeats 400000 in
theorem Long_calls (v : Value) (l : List (Int × Int)) (w : World) (h : PairsAt w v l) : Gives Try.prog 17 #[v] w (.bool (decide (40 < (l.length : Int)))) := by
  obtain ⟨sa, cap, rfl, hlc, hcm, _⟩ := h
  unfold Gives
  go_enter Try.func17, Try.ntmps17
  go_wp2
  go_ret
  exact ⟨rfl, by (repeat' (first | exact Below.refl _ _ | assumption | refine below_new ?_ _ | refine below_draw ?_ | refine below_tail (by assumption) ?_ | refine below_set ?_ (by first | omega | (simp <;> omega)) _))⟩
theorem Long_is {v : Value} {l : List (Int × Int)} {t : Bool} (w : World) (h : PairsAt w v l) (ht : decide (40 < (l.length : Int)) = t) : Gives Try.prog 17 #[v] w (.bool t) := ht ▸ Long_calls v l w h

set_option maxHeartbeats 1000000 in
theorem plotAreas_calls (v : Value) (l : List (Int × Int)) (w : World) (h : PairsAt w v l) : Gives Try.prog 4 #[v] w (.bool true) := by
  have HP := Lib.hid h
  obtain ⟨sa, cap, rfl, hlc, hcm, _⟩ := h
  unfold Gives
  obtain ⟨b, hb⟩ : ∃ b, decide (40 < (l.length : Int)) = b := ⟨_, rfl⟩
  have HLO := Lib.hid hb
  clear hb
  cases b
  · obtain ⟨e, he⟩ : ∃ e, validF l = e := ⟨_, rfl⟩
    obtain ⟨t, ht⟩ : ∃ e, twiceF l = e := ⟨_, rfl⟩
    obtain ⟨lf, hl⟩ : ∃ e, leftF l = e := ⟨_, rfl⟩
    have HE := Lib.hid he
    have HT := Lib.hid ht
    have HL := Lib.hid hl
    clear he ht hl
    go_enter Try.func4, Try.ntmps4
    go_wp2_with (first | (go_at_call 17; refine (Long_is _ (HP.out.below (by (repeat' (first | exact Below.refl _ _ | assumption | refine below_new ?_ _ | refine below_draw ?_ | refine below_tail (by assumption) ?_ | refine below_set ?_ (by first | omega | (simp <;> omega)) _)))) HLO.out).use ?_; intro wl hbl hzl hcl hfl; clear hcl hfl) | (go_at_call 18; refine (known_calls _).use ?_; intro wk hbk hzk hck hfk; clear hck hfk) | (go_at_call 23; (with_reducible refine (Twice_is _ (HP.out.below (by (repeat' (first | exact Below.refl _ _ | assumption | refine below_new ?_ _ | refine below_draw ?_ | refine below_tail (by assumption) ?_ | refine below_set ?_ (by first | omega | (simp <;> omega)) _)))) HT.out HE.out).use ?_); intro w1 hb1 hz1 hc1 hf1; (try simp at hz1); clear hc1 hf1) | (go_at_call 24; (with_reducible refine (rTwice_is _ (HP.out.below (by (repeat' (first | exact Below.refl _ _ | assumption | refine below_new ?_ _ | refine below_draw ?_ | refine below_tail (by assumption) ?_ | refine below_set ?_ (by first | omega | (simp <;> omega)) _)))) HT.out HE.out).use ?_); intro w2 hb2 hz2 hc2 hf2; (try simp at hz2); clear hc2 hf2) | (go_at_call 25; (with_reducible refine (Left_is _ (HP.out.below (by (repeat' (first | exact Below.refl _ _ | assumption | refine below_new ?_ _ | refine below_draw ?_ | refine below_tail (by assumption) ?_ | refine below_set ?_ (by first | omega | (simp <;> omega)) _)))) HL.out HE.out).use ?_); intro w3 hb3 hz3 hc3 hf3; (try simp at hz3); clear hc3 hf3) | (go_at_call 26; (with_reducible refine (rLeft_is _ (HP.out.below (by (repeat' (first | exact Below.refl _ _ | assumption | refine below_new ?_ _ | refine below_draw ?_ | refine below_tail (by assumption) ?_ | refine below_set ?_ (by first | omega | (simp <;> omega)) _)))) HL.out HE.out).use ?_); intro w4 hb4 hz4 hc4 hf4; (try simp at hz4); clear hc4 hf4) | (go_at_call 27; (with_reducible refine (validate_is _ (HP.out.below (by (repeat' (first | exact Below.refl _ _ | assumption | refine below_new ?_ _ | refine below_draw ?_ | refine below_tail (by assumption) ?_ | refine below_set ?_ (by first | omega | (simp <;> omega)) _)))) HE.out).use ?_); intro w5 hb5 hz5 hc5 hf5; (try simp at hz5); clear hc5 hf5) | (go_at_call 28; (with_reducible refine (rvalidate_is _ (HP.out.below (by (repeat' (first | exact Below.refl _ _ | assumption | refine below_new ?_ _ | refine below_draw ?_ | refine below_tail (by assumption) ?_ | refine below_set ?_ (by first | omega | (simp <;> omega)) _)))) HE.out).use ?_); intro w6 hb6 hz6 hc6 hf6; (try simp at hz6); clear hc6 hf6))
    go_ret
    exact ⟨rfl, by (repeat' (first | exact Below.refl _ _ | assumption | refine below_new ?_ _ | refine below_draw ?_ | refine below_tail (by assumption) ?_ | refine below_set ?_ (by first | omega | (simp <;> omega)) _))⟩
  · go_enter Try.func4, Try.ntmps4
    go_wp2_with (first | (go_at_call 17; refine (Long_is _ (HP.out.below (by (repeat' (first | exact Below.refl _ _ | assumption | refine below_new ?_ _ | refine below_draw ?_ | refine below_tail (by assumption) ?_ | refine below_set ?_ (by first | omega | (simp <;> omega)) _)))) HLO.out).use ?_; intro wl hbl hzl hcl hfl; clear hcl hfl) | (go_at_call 18; refine (known_calls _).use ?_; intro wk hbk hzk hck hfk; clear hck hfk))
    go_ret
    exact ⟨rfl, by (repeat' (first | exact Below.refl _ _ | assumption | refine below_new ?_ _ | refine below_draw ?_ | refine below_tail (by assumption) ?_ | refine below_set ?_ (by first | omega | (simp <;> omega)) _))⟩

end Go.Proofs.Ythiemglckmociaa
