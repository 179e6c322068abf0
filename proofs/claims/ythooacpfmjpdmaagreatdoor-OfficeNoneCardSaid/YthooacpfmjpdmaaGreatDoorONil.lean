/- A missing office. No conditions. -/
import Derived.Test.YthooacpfmjpdmaaGreatDoorOKnown
namespace Go.Proofs.YthooacpfmjpdmaaGreatDoor
open Go.RowKit
set_option maxRecDepth 100000 in
set_option maxHeartbeats 1000000 in
theorem look_nil (w : World) : Gives Tryz.prog 58 #[.pointer none] w (.tuple #[.agg #[.int .i64 0, .slice none 0 0, .slice none 0 0, .int .i64 0, .bool false, .int .i64 0, .bool false, .slice none 0 0, .bool false], .string ⟨#[]⟩]) := by
  unfold Gives
  go_enter Tryz.func58, Tryz.ntmps58
  go_wp2
  refine bodyPost_ret (v := .tuple #[.agg #[.int .i64 0, .slice none 0 0, .slice none 0 0, .int .i64 0, .bool false, .int .i64 0, .bool false, .slice none 0 0, .bool false], .string ⟨#[]⟩]) (by simp [results, Tryz.f58, go_sem]) rfl ?_
  exact ⟨rfl, by (repeat' (first | exact Below.refl _ _ | assumption | refine below_new ?_ _ | refine below_draw ?_ | refine below_tail (by assumption) ?_ | refine below_set ?_ (by first | omega | (simp <;> omega)) _))⟩
set_option maxHeartbeats 1000000 in
theorem claims_zero (w : World) : Gives Tryz.prog 66 #[.agg #[.int .i64 0, .slice none 0 0, .slice none 0 0, .int .i64 0, .bool false, .int .i64 0, .bool false, .slice none 0 0, .bool false]] w (.slice none 0 0) := by
  unfold Gives
  go_enter Tryz.func66, Tryz.ntmps66
  go_wp2
  go_ret
  exact ⟨rfl, by (repeat' (first | exact Below.refl _ _ | assumption | refine below_new ?_ _ | refine below_draw ?_ | refine below_tail (by assumption) ?_ | refine below_set ?_ (by first | omega | (simp <;> omega)) _))⟩
set_option maxHeartbeats 1000000 in
theorem opened_zero (w : World) : Gives Tryz.prog 67 #[.agg #[.int .i64 0, .slice none 0 0, .slice none 0 0, .int .i64 0, .bool false, .int .i64 0, .bool false, .slice none 0 0, .bool false]] w (.slice none 0 0) := by
  unfold Gives
  go_enter Tryz.func67, Tryz.ntmps67
  go_wp2
  go_loopw [3, 9] (fun v i wr => v = .slice none 0 0 ∧ i = .int .i64 0 ∧ Below w.heap.size w wr) (fun _ _ _ => 0)
  case atStart => exact ⟨rfl, rfl, by (repeat' (first | exact Below.refl _ _ | assumption | refine below_new ?_ _ | refine below_draw ?_ | refine below_tail (by assumption) ?_ | refine below_set ?_ (by first | omega | (simp <;> omega)) _))⟩
  case round =>
    obtain ⟨rfl, rfl, hb⟩ := hrel
    go_wp2
    go_ret
    exact ⟨rfl, hb⟩
set_option maxRecDepth 100000 in
set_option maxHeartbeats 1000000 in
theorem nil_part (w : World) : Gives Tryz.prog 32 #[.pointer none] w (.tuple #[.int .i64 0, .bool false]) := by
  unfold Gives
  go_enter Tryz.func32, Tryz.ntmps32
  have hmx := mixed
  go_upto_region 2 with (go_at_call 58; refine (look_nil _).use ?_; intro w1 hb1 hz1 hc1 hf1; clear hc1 hf1)
  go_big_region_o
  go_wp2
  go_ret2
  exact ⟨rfl, by (repeat' (first | exact Below.refl _ _ | assumption | refine below_new ?_ _ | refine below_draw ?_ | refine below_tail (by assumption) ?_ | refine below_set ?_ (by first | omega | (simp <;> omega)) _))⟩
set_option maxRecDepth 100000 in
set_option maxHeartbeats 1000000 in
theorem nil_stop (w : World) : Gives Tryz.prog 33 #[.pointer none] w (.tuple #[.int .i64 0, .bool false]) := by
  unfold Gives
  go_enter Tryz.func33, Tryz.ntmps33
  have hmx := mixed
  go_upto_region 2 with (go_at_call 58; refine (look_nil _).use ?_; intro w1 hb1 hz1 hc1 hf1; clear hc1 hf1)
  go_big_region_o
  go_wp2
  go_ret2
  exact ⟨rfl, by (repeat' (first | exact Below.refl _ _ | assumption | refine below_new ?_ _ | refine below_draw ?_ | refine below_tail (by assumption) ?_ | refine below_set ?_ (by first | omega | (simp <;> omega)) _))⟩
set_option maxRecDepth 100000 in
set_option maxHeartbeats 1000000 in
theorem nil_pay (p : Int) (w : World) : Gives Tryz.prog 37 #[.pointer none, .int .i64 p] w (.tuple #[.slice none 0 0, .int .i64 1]) := by
  unfold Gives
  go_enter Tryz.func37, Tryz.ntmps37
  go_wp2_with (first | (go_at_call 58; refine (look_nil _).use ?_; intro w1 hb1 hz1 hc1 hf1; clear hc1 hf1) | (fail))
  go_ret2
  exact ⟨rfl, by (repeat' (first | exact Below.refl _ _ | assumption | refine below_new ?_ _ | refine below_draw ?_ | refine below_tail (by assumption) ?_ | refine below_set ?_ (by first | omega | (simp <;> omega)) _))⟩
set_option maxRecDepth 100000 in
set_option maxHeartbeats 1000000 in
theorem nil_do (d : ByteArray) (w : World) : Gives Tryz.prog 21 #[.pointer none, .string d] w (.int .i64 1) := by
  unfold Gives
  go_enter Tryz.func21, Tryz.ntmps21
  go_wp2_with (first | (go_at_call 58; refine (look_nil _).use ?_; intro w1 hb1 hz1 hc1 hf1; clear hc1 hf1) | (fail))
  go_ret
  exact ⟨rfl, by (repeat' (first | exact Below.refl _ _ | assumption | refine below_new ?_ _ | refine below_draw ?_ | refine below_tail (by assumption) ?_ | refine below_set ?_ (by first | omega | (simp <;> omega)) _))⟩
set_option maxRecDepth 100000 in
set_option maxHeartbeats 1000000 in
theorem nil_day (w : World) : Gives Tryz.prog 42 #[.pointer none] w (.int .i64 0) := by
  unfold Gives
  go_enter Tryz.func42, Tryz.ntmps42
  go_wp2_with (go_at_call 58; refine (look_nil _).use ?_; intro w1 hb1 hz1 hc1 hf1; clear hc1 hf1)
  go_ret
  exact ⟨rfl, by (repeat' (first | exact Below.refl _ _ | assumption | refine below_new ?_ _ | refine below_draw ?_ | refine below_tail (by assumption) ?_ | refine below_set ?_ (by first | omega | (simp <;> omega)) _))⟩
set_option maxRecDepth 100000 in
set_option maxHeartbeats 1000000 in
theorem nil_ent (w : World) : Gives Tryz.prog 36 #[.pointer none] w (.bool false) := by
  unfold Gives
  go_enter Tryz.func36, Tryz.ntmps36
  go_wp2_with (go_at_call 58; refine (look_nil _).use ?_; intro w1 hb1 hz1 hc1 hf1; clear hc1 hf1)
  go_ret
  exact ⟨rfl, by (repeat' (first | exact Below.refl _ _ | assumption | refine below_new ?_ _ | refine below_draw ?_ | refine below_tail (by assumption) ?_ | refine below_set ?_ (by first | omega | (simp <;> omega)) _))⟩
set_option maxRecDepth 100000 in
set_option maxHeartbeats 1000000 in
theorem nil_min (w : World) : Gives Tryz.prog 20 #[.pointer none] w (.string ⟨#[]⟩) := by
  unfold Gives
  go_enter Tryz.func20, Tryz.ntmps20
  go_wp2_with (go_at_call 58; refine (look_nil _).use ?_; intro w1 hb1 hz1 hc1 hf1; clear hc1 hf1)
  go_ret
  exact ⟨rfl, by (repeat' (first | exact Below.refl _ _ | assumption | refine below_new ?_ _ | refine below_draw ?_ | refine below_tail (by assumption) ?_ | refine below_set ?_ (by first | omega | (simp <;> omega)) _))⟩
set_option maxRecDepth 100000 in
set_option maxHeartbeats 1000000 in
theorem nil_audit (w : World) : Gives Tryz.prog 43 #[.pointer none] w (.bool false) := by
  unfold Gives
  go_enter Tryz.func43, Tryz.ntmps43
  go_wp2_with (first | (go_at_call 58; refine (look_nil _).use ?_; intro w1 hb1 hz1 hc1 hf1; clear hc1 hf1) | (fail))
  go_ret
  exact ⟨rfl, by (repeat' (first | exact Below.refl _ _ | assumption | refine below_new ?_ _ | refine below_draw ?_ | refine below_tail (by assumption) ?_ | refine below_set ?_ (by first | omega | (simp <;> omega)) _))⟩
set_option maxRecDepth 100000 in
set_option maxHeartbeats 1000000 in
theorem nil_strips (w : World) : Gives Tryz.prog 44 #[.pointer none] w (.slice none 0 0) := by
  unfold Gives
  go_enter Tryz.func44, Tryz.ntmps44
  go_wp2_with (go_at_call 58; refine (look_nil _).use ?_; intro w1 hb1 hz1 hc1 hf1; clear hc1 hf1)
  go_ret
  exact ⟨rfl, by (repeat' (first | exact Below.refl _ _ | assumption | refine below_new ?_ _ | refine below_draw ?_ | refine below_tail (by assumption) ?_ | refine below_set ?_ (by first | omega | (simp <;> omega)) _))⟩
set_option maxRecDepth 100000 in
set_option maxHeartbeats 1000000 in
theorem nil_laid (w : World) : Gives Tryz.prog 31 #[.pointer none] w (.slice none 0 0) := by
  unfold Gives
  go_enter Tryz.func31, Tryz.ntmps31
  go_wp2_with (go_at_call 58; refine (look_nil _).use ?_; intro w1 hb1 hz1 hc1 hf1; clear hc1 hf1)
  go_ret
  exact ⟨rfl, by (repeat' (first | exact Below.refl _ _ | assumption | refine below_new ?_ _ | refine below_draw ?_ | refine below_tail (by assumption) ?_ | refine below_set ?_ (by first | omega | (simp <;> omega)) _))⟩
set_option maxRecDepth 100000 in
set_option maxHeartbeats 1000000 in
theorem nil_claims (w : World) : Gives Tryz.prog 30 #[.pointer none] w (.slice none 0 0) := by
  unfold Gives
  go_enter Tryz.func30, Tryz.ntmps30
  go_wp2_with (first | (go_at_call 58; refine (look_nil _).use ?_; intro w1 hb1 hz1 hc1 hf1; clear hc1 hf1) | (go_at_call 66; refine (claims_zero _).use ?_; intro w2 hb2 hz2 hc2 hf2; clear hc2 hf2))
  go_ret
  exact ⟨rfl, by (repeat' (first | exact Below.refl _ _ | assumption | refine below_new ?_ _ | refine below_draw ?_ | refine below_tail (by assumption) ?_ | refine below_set ?_ (by first | omega | (simp <;> omega)) _))⟩
set_option maxRecDepth 100000 in
set_option maxHeartbeats 1000000 in
theorem nil_open (w : World) : Gives Tryz.prog 35 #[.pointer none] w (.slice none 0 0) := by
  unfold Gives
  go_enter Tryz.func35, Tryz.ntmps35
  go_wp2_with (first | (go_at_call 58; refine (look_nil _).use ?_; intro w1 hb1 hz1 hc1 hf1; clear hc1 hf1) | (go_at_call 67; refine (opened_zero _).use ?_; intro w2 hb2 hz2 hc2 hf2; clear hc2 hf2))
  go_ret
  exact ⟨rfl, by (repeat' (first | exact Below.refl _ _ | assumption | refine below_new ?_ _ | refine below_draw ?_ | refine below_tail (by assumption) ?_ | refine below_set ?_ (by first | omega | (simp <;> omega)) _))⟩
set_option maxRecDepth 100000 in
set_option maxHeartbeats 4000000 in
theorem officeNone_calls (d : ByteArray) (p : Int) (w : World) (hb : Base w) : Gives Tryz.prog 13 #[.string d, .int .i64 p] w (.bool true) := by
  have HB := Lib.hid hb
  have KN : Hid (∀ y, Below w.heap.size w y → Gives Tryz.prog 26 #[] y (.bool true)) := fun y hy => known_calls y (HB.out.below hy)
  clear hb
  unfold Gives
  have BW : Hid (Below w.heap.size w w) := Below.refl _ _
  go_enter Tryz.func13, Tryz.ntmps13
  go_wp2_with (first
    | (go_at_call 32; refine (nil_part _).use ?_; intro w1 hb1 hz1 hc1 hf1; clear hc1 hf1 hz1; replace BW := Lib.hid (Below.trans BW.out (hb1.mono BW.out.size)); clear hb1)
    | (go_at_call 33; refine (nil_stop _).use ?_; intro w2 hb2 hz2 hc2 hf2; clear hc2 hf2 hz2; replace BW := Lib.hid (Below.trans BW.out (hb2.mono BW.out.size)); clear hb2)
    | (go_at_call 37; refine (nil_pay p _).use ?_; intro w3 hb3 hz3 hc3 hf3; clear hc3 hf3 hz3; replace BW := Lib.hid (Below.trans BW.out (hb3.mono BW.out.size)); clear hb3)
    | (go_at_call 21; refine (nil_do d _).use ?_; intro w4 hb4 hz4 hc4 hf4; clear hc4 hf4 hz4; replace BW := Lib.hid (Below.trans BW.out (hb4.mono BW.out.size)); clear hb4)
    | (go_at_call 42; refine (nil_day _).use ?_; intro w5 hb5 hz5 hc5 hf5; clear hc5 hf5 hz5; replace BW := Lib.hid (Below.trans BW.out (hb5.mono BW.out.size)); clear hb5)
    | (go_at_call 44; refine (nil_strips _).use ?_; intro w6 hb6 hz6 hc6 hf6; clear hc6 hf6 hz6; replace BW := Lib.hid (Below.trans BW.out (hb6.mono BW.out.size)); clear hb6)
    | (go_at_call 30; refine (nil_claims _).use ?_; intro w7 hb7 hz7 hc7 hf7; clear hc7 hf7 hz7; replace BW := Lib.hid (Below.trans BW.out (hb7.mono BW.out.size)); clear hb7)
    | (go_at_call 31; refine (nil_laid _).use ?_; intro w8 hb8 hz8 hc8 hf8; clear hc8 hf8 hz8; replace BW := Lib.hid (Below.trans BW.out (hb8.mono BW.out.size)); clear hb8)
    | (go_at_call 35; refine (nil_open _).use ?_; intro w9 hb9 hz9 hc9 hf9; clear hc9 hf9 hz9; replace BW := Lib.hid (Below.trans BW.out (hb9.mono BW.out.size)); clear hb9)
    | (go_at_call 36; refine (nil_ent _).use ?_; intro w10 hb10 hz10 hc10 hf10; clear hc10 hf10 hz10; replace BW := Lib.hid (Below.trans BW.out (hb10.mono BW.out.size)); clear hb10)
    | (go_at_call 20; refine (nil_min _).use ?_; intro w11 hb11 hz11 hc11 hf11; clear hc11 hf11 hz11; replace BW := Lib.hid (Below.trans BW.out (hb11.mono BW.out.size)); clear hb11)
    | (go_at_call 43; refine (nil_audit _).use ?_; intro w12 hb12 hz12 hc12 hf12; clear hc12 hf12 hz12; replace BW := Lib.hid (Below.trans BW.out (hb12.mono BW.out.size)); clear hb12)
    | (go_at_call 26; refine (KN.out _ BW.out).use ?_; intro wk hbk hzk hck hfk; clear hck hfk))
  go_ret
  exact ⟨rfl, Below.trans BW.out (hbk.mono BW.out.size)⟩
end Go.Proofs.YthooacpfmjpdmaaGreatDoor
