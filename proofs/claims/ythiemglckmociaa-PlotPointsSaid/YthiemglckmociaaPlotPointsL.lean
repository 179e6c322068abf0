/- The law PlotPoints returns true. Conditions: the lists lie in memory as said. -/
import Derived.Test.YthiemglckmociaaPlotAreasL
import Derived.Test.YthiemglckmociaaPtPick
namespace Go.Proofs.Ythiemglckmociaa
open Go.RowKit


set_option maxHeartbeats 1000000 in
theorem plotPoints_calls (v : Value) (l : List (Int × Int)) (w : World) (h : PairsAt w v l) : Gives Try.prog 3 #[v] w (.bool true) := by
  have HP := Lib.hid h
  obtain ⟨sa, cap, rfl, hlc, hcm, _⟩ := h
  unfold Gives
  obtain ⟨b, hb⟩ : ∃ b, decide (40 < (l.length : Int)) = b := ⟨_, rfl⟩
  have HLO := Lib.hid hb
  clear hb
  cases b
  · have hib := inside_bd l
    have hbb := border_bd l
    have HBR := Lib.hid (border_eq l).symm
    have HIR := Lib.hid (inside_eq l).symm
    obtain ⟨t, ht⟩ : ∃ e, twiceF l = e := ⟨_, rfl⟩
    have HPK : Hid (validF l = 0 → t = 2 * insideF l + bordF l - 2) := fun h => by rw [← ht]; exact pick_eq h
    obtain ⟨bo, hbo⟩ : ∃ e, bordF l = e := ⟨_, rfl⟩
    obtain ⟨ins, hin⟩ : ∃ e, insideF l = e := ⟨_, rfl⟩
    rw [hbo] at hbb HBR HPK
    rw [hin] at hib HIR HPK
    obtain ⟨e, he⟩ : ∃ e, validF l = e := ⟨_, rfl⟩
    have HE := Lib.hid he
    have HT := Lib.hid ht
    have HB := Lib.hid hbo
    have HI := Lib.hid hin
    clear he ht hbo hin
    by_cases hz : e = 0
    · subst hz
      have x1 : (t == 2 * ins + bo - 2) = true := by rw [HPK.out HE.out]; simp
      go_enter Try.func3, Try.ntmps3
      go_wp2_with (first | (go_at_call 17; refine (Long_is _ (HP.out.below (by (repeat' (first | exact Below.refl _ _ | assumption | refine below_new ?_ _ | refine below_draw ?_ | refine below_tail (by assumption) ?_ | refine below_set ?_ (by first | omega | (simp <;> omega)) _)))) HLO.out).use ?_; intro wl hbl hzl hcl hfl; clear hcl hfl) | (go_at_call 18; refine (known_calls _).use ?_; intro wk hbk hzk hck hfk; clear hck hfk) | (go_at_call 19; (with_reducible refine (OnBorder_is _ (HP.out.below (by (repeat' (first | exact Below.refl _ _ | assumption | refine below_new ?_ _ | refine below_draw ?_ | refine below_tail (by assumption) ?_ | refine below_set ?_ (by first | omega | (simp <;> omega)) _)))) HB.out HE.out).use ?_); intro w1 hb1 hz1 hc1 hf1; (try simp at hz1); clear hc1 hf1) | (go_at_call 20; (with_reducible refine (rOnBorder_is _ (HP.out.below (by (repeat' (first | exact Below.refl _ _ | assumption | refine below_new ?_ _ | refine below_draw ?_ | refine below_tail (by assumption) ?_ | refine below_set ?_ (by first | omega | (simp <;> omega)) _)))) HBR.out HE.out).use ?_); intro w2 hb2 hz2 hc2 hf2; (try simp at hz2); clear hc2 hf2) | (go_at_call 21; (with_reducible refine (Inside_is _ (HP.out.below (by (repeat' (first | exact Below.refl _ _ | assumption | refine below_new ?_ _ | refine below_draw ?_ | refine below_tail (by assumption) ?_ | refine below_set ?_ (by first | omega | (simp <;> omega)) _)))) HI.out HE.out).use ?_); intro w3 hb3 hz3 hc3 hf3; (try simp at hz3); clear hc3 hf3) | (go_at_call 22; (with_reducible refine (rInside_is _ (HP.out.below (by (repeat' (first | exact Below.refl _ _ | assumption | refine below_new ?_ _ | refine below_draw ?_ | refine below_tail (by assumption) ?_ | refine below_set ?_ (by first | omega | (simp <;> omega)) _)))) HIR.out HE.out).use ?_); intro w4 hb4 hz4 hc4 hf4; (try simp at hz4); clear hc4 hf4) | (go_at_call 23; (with_reducible refine (Twice_is _ (HP.out.below (by (repeat' (first | exact Below.refl _ _ | assumption | refine below_new ?_ _ | refine below_draw ?_ | refine below_tail (by assumption) ?_ | refine below_set ?_ (by first | omega | (simp <;> omega)) _)))) HT.out HE.out).use ?_); intro w5 hb5 hz5 hc5 hf5; (try simp at hz5); clear hc5 hf5))
      go_ret
      exact ⟨rfl, by (repeat' (first | exact Below.refl _ _ | assumption | refine below_new ?_ _ | refine below_draw ?_ | refine below_tail (by assumption) ?_ | refine below_set ?_ (by first | omega | (simp <;> omega)) _))⟩
    · have h1 : (e == 0) = false := by simpa using hz
      have h2 : (e != 0) = true := by simpa using hz
      clear hz
      go_enter Try.func3, Try.ntmps3
      go_wp2_with (first | (go_at_call 17; refine (Long_is _ (HP.out.below (by (repeat' (first | exact Below.refl _ _ | assumption | refine below_new ?_ _ | refine below_draw ?_ | refine below_tail (by assumption) ?_ | refine below_set ?_ (by first | omega | (simp <;> omega)) _)))) HLO.out).use ?_; intro wl hbl hzl hcl hfl; clear hcl hfl) | (go_at_call 18; refine (known_calls _).use ?_; intro wk hbk hzk hck hfk; clear hck hfk) | (go_at_call 19; (with_reducible refine (OnBorder_is _ (HP.out.below (by (repeat' (first | exact Below.refl _ _ | assumption | refine below_new ?_ _ | refine below_draw ?_ | refine below_tail (by assumption) ?_ | refine below_set ?_ (by first | omega | (simp <;> omega)) _)))) HB.out HE.out).use ?_); intro w1 hb1 hz1 hc1 hf1; (try simp at hz1); clear hc1 hf1) | (go_at_call 20; (with_reducible refine (rOnBorder_is _ (HP.out.below (by (repeat' (first | exact Below.refl _ _ | assumption | refine below_new ?_ _ | refine below_draw ?_ | refine below_tail (by assumption) ?_ | refine below_set ?_ (by first | omega | (simp <;> omega)) _)))) HBR.out HE.out).use ?_); intro w2 hb2 hz2 hc2 hf2; (try simp at hz2); clear hc2 hf2) | (go_at_call 21; (with_reducible refine (Inside_is _ (HP.out.below (by (repeat' (first | exact Below.refl _ _ | assumption | refine below_new ?_ _ | refine below_draw ?_ | refine below_tail (by assumption) ?_ | refine below_set ?_ (by first | omega | (simp <;> omega)) _)))) HI.out HE.out).use ?_); intro w3 hb3 hz3 hc3 hf3; (try simp at hz3); clear hc3 hf3) | (go_at_call 22; (with_reducible refine (rInside_is _ (HP.out.below (by (repeat' (first | exact Below.refl _ _ | assumption | refine below_new ?_ _ | refine below_draw ?_ | refine below_tail (by assumption) ?_ | refine below_set ?_ (by first | omega | (simp <;> omega)) _)))) HIR.out HE.out).use ?_); intro w4 hb4 hz4 hc4 hf4; (try simp at hz4); clear hc4 hf4))
      go_ret
      exact ⟨rfl, by (repeat' (first | exact Below.refl _ _ | assumption | refine below_new ?_ _ | refine below_draw ?_ | refine below_tail (by assumption) ?_ | refine below_set ?_ (by first | omega | (simp <;> omega)) _))⟩
  · go_enter Try.func3, Try.ntmps3
    go_wp2_with (first | (go_at_call 17; refine (Long_is _ (HP.out.below (by (repeat' (first | exact Below.refl _ _ | assumption | refine below_new ?_ _ | refine below_draw ?_ | refine below_tail (by assumption) ?_ | refine below_set ?_ (by first | omega | (simp <;> omega)) _)))) HLO.out).use ?_; intro wl hbl hzl hcl hfl; clear hcl hfl) | (go_at_call 18; refine (known_calls _).use ?_; intro wk hbk hzk hck hfk; clear hck hfk))
    go_ret
    exact ⟨rfl, by (repeat' (first | exact Below.refl _ _ | assumption | refine below_new ?_ _ | refine below_draw ?_ | refine below_tail (by assumption) ?_ | refine below_set ?_ (by first | omega | (simp <;> omega)) _))⟩

end Go.Proofs.Ythiemglckmociaa
