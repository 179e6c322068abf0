/- What Shift of package plot gives. Conditions: the list lies in memory as said. -/
import Derived.Test.YthiemglckmociaaPtShift
import Derived.Test.YthiemglckmociaaPtQuarter
namespace Go.Proofs.Ythiemglckmociaa
open Go.RowKit
theorem shift1_enters : ∀ args w, (callFunc 75 args).run Try.prog w = .ok (.enter 75 args) w := fun args w => enters_of Try.func75 (by kernel_rfl) rfl args w
/-- A point moved by another one, or as far as makes no plot. -/
def nearP (d : Int × Int) : Int × Int := (nearF d.1, nearF d.2)
set_option maxHeartbeats 1000000 in
theorem Shift_calls (v : Value) (l : List (Int × Int)) (d : Int × Int) (w : World) (h : PairsAt w v l) : GivesPts Try.prog 31 #[v, .agg #[.int .i64 d.1, .int .i64 d.2]] w (chL (mov (nearP d)) l) (chE (mov (nearP d)) l) := by
  have HP := Lib.hid h
  obtain ⟨sa, cap, rfl, hlc, hcm, _⟩ := h
  unfold GivesPts
  go_enter Try.func31, Try.ntmps31
  go_wp2_with (go_at_call 74; refine (changed_calls _ l (mov (nearP d)) _ #[.pointer (some ⟨w.heap.size, 0, none⟩)] _ (HP.out.below (by (repeat' (first | exact Below.refl _ _ | assumption | refine below_new ?_ _ | refine below_draw ?_ | refine below_tail (by assumption) ?_ | refine below_set ?_ (by first | omega | (simp <;> omega)) _)))) shift1_enters (fun i w' hi hv hb => shift1_calls w.heap.size d _ w' (by have := hb.size; simp at this; omega) ((hb.cell (p := ⟨w.heap.size, 0, none⟩) (by simp)).trans (by simp)) ((hb.cell (p := ⟨w.heap.size, 1, none⟩) (by simp)).trans (by simp)) (gi_bd hv hi))).use ?_; intro a1 c1 w1 hb1 hz1 hc1 hf1 HO)
  go_ret2
  exact ⟨_, rfl, own_base HO.out (by simp), by (repeat' (first | exact Below.refl _ _ | assumption | refine below_new ?_ _ | refine below_draw ?_ | refine below_tail (by assumption) ?_ | refine below_set ?_ (by first | omega | (simp <;> omega)) _))⟩
end Go.Proofs.Ythiemglckmociaa
