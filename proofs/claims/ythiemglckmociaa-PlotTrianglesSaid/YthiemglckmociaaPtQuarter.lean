/- What Quarter and Mirror of package plot give. Conditions: the list lies in memory as said. -/
import Derived.Test.YthiemglckmociaaPtChanged
import Derived.Test.YthiemglckmociaaPtMovedA
namespace Go.Proofs.Ythiemglckmociaa
open Go.RowKit
theorem quarter1_enters : ∀ args w, (callFunc 77 args).run Try.prog w = .ok (.enter 77 args) w := fun args w => enters_of Try.func77 (by kernel_rfl) rfl args w
theorem mirror1_enters : ∀ args w, (callFunc 96 args).run Try.prog w = .ok (.enter 96 args) w := fun args w => enters_of Try.func96 (by kernel_rfl) rfl args w
theorem gi_bd {l : List (Int × Int)} (hv : Valid l) {i : Nat} (hi : i < l.length) : bdP (gi l (0, 0) i) := by
  have := hv.bd i
  rwa [cor_lt hi] at this
set_option maxHeartbeats 1000000 in
theorem Quarter_calls (v : Value) (l : List (Int × Int)) (w : World) (h : PairsAt w v l) : GivesPts Try.prog 34 #[v] w (chL rot l) (chE rot l) := by
  have HP := Lib.hid h
  obtain ⟨sa, cap, rfl, hlc, hcm, _⟩ := h
  unfold GivesPts
  go_enter Try.func34, Try.ntmps34
  go_wp2_with (go_at_call 74; refine (changed_calls _ l rot _ #[] _ HP.out quarter1_enters (fun i w' hi hv _ => quarter1_calls _ w' (gi_bd hv hi))).use ?_; intro a1 c1 w1 hb1 hz1 hc1 hf1 HO)
  go_ret2
  exact ⟨_, rfl, HO.out, by (repeat' (first | exact Below.refl _ _ | assumption | refine below_new ?_ _ | refine below_draw ?_ | refine below_tail (by assumption) ?_ | refine below_set ?_ (by first | omega | (simp <;> omega)) _))⟩
set_option maxHeartbeats 1000000 in
theorem Mirror_calls (v : Value) (l : List (Int × Int)) (w : World) (h : PairsAt w v l) : GivesPts Try.prog 47 #[v] w (chL mir l) (chE mir l) := by
  have HP := Lib.hid h
  obtain ⟨sa, cap, rfl, hlc, hcm, _⟩ := h
  unfold GivesPts
  go_enter Try.func47, Try.ntmps47
  go_wp2_with (go_at_call 74; refine (changed_calls _ l mir _ #[] _ HP.out mirror1_enters (fun _ w' _ _ _ => mirror1_calls _ w')).use ?_; intro a1 c1 w1 hb1 hz1 hc1 hf1 HO)
  go_ret2
  exact ⟨_, rfl, HO.out, by (repeat' (first | exact Below.refl _ _ | assumption | refine below_new ?_ _ | refine below_draw ?_ | refine below_tail (by assumption) ?_ | refine below_set ?_ (by first | omega | (simp <;> omega)) _))⟩
end Go.Proofs.Ythiemglckmociaa
