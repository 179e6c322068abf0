/- The law PlotAreas returns true. Conditions: the lists lie in memory as said. -/
import Derived.Test.YthiemglckmociaaPtKnown
namespace Go.Proofs.Ythiemglckmociaa
open Go.RowKit

set_option maxHeartbeats 400000 in
theorem Long_calls (v : Value) (l : List (Int × Int)) (w : World) (h : PairsAt w v l) : Gives Try.prog 17 #[v] w (.bool (decide (40 < (l.length : Int)))) := by
  obtain ⟨sa, cap, rfl, hlc, hcm, _⟩ := h
  unfold Gives
  go_enter Try.func17, Try.ntmps17
  go_wp2
  go_ret
  exact ⟨rfl, by (repeat' (first | exact Below.refl _ _ | assumption | refine below_new ?_ _ | refine below_draw ?_ | refine below_tail (by assumption) ?_ | refine below_set ?_ (by first | omega | (simp <;> omega)) _))⟩
theorem Long_is {v : Value} {l : List (Int × Int)} {t : Bool} (w : World) (h : PairsAt w v l) (ht : decide (40 < (l.length : Int)) = t) : Gives Try.prog 17 #[v] w (.bool t) := ht ▸ Long_calls v l w h

end Go.Proofs.Ythiemglckmociaa
