/- The law PlotSides returns true. Conditions: the lists lie in memory as said. -/
import Derived.Test.YthiemglckmociaaPlotAreasL
namespace Go.Proofs.Ythiemglckmociaa
open Go.RowKit


set_option maxHeartbeats 1000000 in
theorem plotSides_calls (v : Value) (l : List (Int × Int)) (x : Int × Int) (w : World) (h : PairsAt w v l) : Gives Try.prog 5 #[v, .agg #[.int .i64 x.1, .int .i64 x.2]] w (.bool true) := by
  have HP := Lib.hid h
  obtain ⟨sa, cap, rfl, hlc, hcm, _⟩ := h
  unfold Gives
  obtain ⟨b, hb⟩ : ∃ b, decide (40 < (l.length : Int)) = b := ⟨_, rfl⟩
  have HLO := Lib.hid hb
  clear hb
  cases b
  · obtain ⟨e, he⟩ : ∃ e, sideE l x = e := ⟨_, rfl⟩
    obtain ⟨t, ht⟩ : ∃ e, sideP l x = e := ⟨_, rfl⟩
    have HE := Lib.hid he
    have HT := Lib.hid ht
    have HTR := Lib.hid ((sides_eq l x).symm.trans ht)
    clear he ht
    go_enter Try.func5, Try.ntmps5
    go_wp2_with (first | (go_at_call 17; refine (Long_is _ (HP.out.below (by (repeat' (first | exact Below.refl _ _ | assumption | refine below_new ?_ _ | refine below_draw ?_ | refine below_tail (by assumption) ?_ | refine below_set ?_ (by first | omega | (simp <;> omega)) _)))) HLO.out).use ?_; intro wl hbl hzl hcl hfl; (try simp at hzl); have hyl : w.heap.size < wl.heap.size := (by omega); have hxl0 := fun o => hcl w.heap.size o (by first | omega | (simp <;> omega)); clear hcl hfl) | (go_at_call 18; refine (known_calls _).use ?_; intro wk hbk hzk hck hfk; clear hck hfk) | (go_at_call 29; (with_reducible refine (Side_is _ (HP.out.below (by (repeat' (first | exact Below.refl _ _ | assumption | refine below_new ?_ _ | refine below_draw ?_ | refine below_tail (by assumption) ?_ | refine below_set ?_ (by first | omega | (simp <;> omega)) _)))) HT.out HE.out).use ?_); intro w1 hb1 hz1 hc1 hf1; (try simp at hz1); have hy1 : w.heap.size < w1.heap.size := (by omega); have hx10 := fun o => hc1 (w.heap.size) o (by first | omega | (simp <;> omega)); clear hc1 hf1) | (go_at_call 30; (with_reducible refine (rSide_is _ (HP.out.below (by (repeat' (first | exact Below.refl _ _ | assumption | refine below_new ?_ _ | refine below_draw ?_ | refine below_tail (by assumption) ?_ | refine below_set ?_ (by first | omega | (simp <;> omega)) _)))) HTR.out HE.out).use ?_); intro w2 hb2 hz2 hc2 hf2; (try simp at hz2); have hy2 : w.heap.size < w2.heap.size := (by omega); have hx20 := fun o => hc2 (w.heap.size) o (by first | omega | (simp <;> omega)); clear hc2 hf2))
    go_ret
    exact ⟨rfl, by (repeat' (first | exact Below.refl _ _ | assumption | refine below_new ?_ _ | refine below_draw ?_ | refine below_tail (by assumption) ?_ | refine below_set ?_ (by first | omega | (simp <;> omega)) _))⟩
  · go_enter Try.func5, Try.ntmps5
    go_wp2_with (first | (go_at_call 17; refine (Long_is _ (HP.out.below (by (repeat' (first | exact Below.refl _ _ | assumption | refine below_new ?_ _ | refine below_draw ?_ | refine below_tail (by assumption) ?_ | refine below_set ?_ (by first | omega | (simp <;> omega)) _)))) HLO.out).use ?_; intro wl hbl hzl hcl hfl; (try simp at hzl); have hyl : w.heap.size < wl.heap.size := (by omega); have hxl0 := fun o => hcl w.heap.size o (by first | omega | (simp <;> omega)); clear hcl hfl) | (go_at_call 18; refine (known_calls _).use ?_; intro wk hbk hzk hck hfk; clear hck hfk))
    go_ret
    exact ⟨rfl, by (repeat' (first | exact Below.refl _ _ | assumption | refine below_new ?_ _ | refine below_draw ?_ | refine below_tail (by assumption) ?_ | refine below_set ?_ (by first | omega | (simp <;> omega)) _))⟩

end Go.Proofs.Ythiemglckmociaa
