/- What the small functions of package plot, and of its reference, give. Conditions: coordinates are small. -/
import Derived.Test.YthiemglckmociaaProg
import Derived.Test.YthiemglckmociaaKit
import Derived.Test.YthiemglckmociaaGeoA
import Derived.WalkSpells
import Derived.WalkLawsBesides
import Derived.BigGuardPart
import Derived.BigQuiet
import Derived.Deep.QuietTactic
namespace Go.Proofs.Ythiemglckmociaa
open Go.RowKit

/-- Small coordinates. -/
def bdP (a : Int × Int) : Prop := (-2000 ≤ a.1 ∧ a.1 ≤ 2000) ∧ -2000 ≤ a.2 ∧ a.2 ≤ 2000
theorem prod_bd {u v : Int} (hu : -4000 ≤ u ∧ u ≤ 4000) (hv : -4000 ≤ v ∧ v ≤ 4000) : -16000000 ≤ u * v ∧ u * v ≤ 16000000 := by
  have h1 := Int.mul_le_mul_of_nonneg_left (show v ≤ 4000 by omega) (show 0 ≤ u + 4000 by omega)
  have h2 := Int.mul_le_mul_of_nonneg_left (show -4000 ≤ v by omega) (show 0 ≤ u + 4000 by omega)
  have h3 := Int.mul_le_mul_of_nonneg_left (show v ≤ 4000 by omega) (show 0 ≤ 4000 - u by omega)
  have h4 := Int.mul_le_mul_of_nonneg_left (show -4000 ≤ v by omega) (show 0 ≤ 4000 - u by omega)
  rw [Int.add_mul] at h1 h2
  rw [Int.sub_mul] at h3 h4
  rw [Int.add_mul] at h1 h2
  rw [Int.sub_mul] at h3 h4
  omega


set_option maxHeartbeats 1000000 in
theorem turn_calls (a b c : Int × Int) (w : World) (ha : bdP a) (hb : bdP b) (hc : bdP c) :
    Gives Try.prog 66 #[.agg #[.int .i64 a.1, .int .i64 a.2], .agg #[.int .i64 b.1, .int .i64 b.2], .agg #[.int .i64 c.1, .int .i64 c.2]] w (.int .i64 (turn a b c)) := by
  obtain ⟨⟨a1, a2⟩, a3, a4⟩ := id ha
  obtain ⟨⟨b1, b2⟩, b3, b4⟩ := id hb
  obtain ⟨⟨c1, c2⟩, c3, c4⟩ := id hc
  obtain ⟨p1, p2⟩ := prod_bd (u := b.1 - a.1) (v := c.2 - a.2) (by omega) (by omega)
  obtain ⟨q1, q2⟩ := prod_bd (u := b.2 - a.2) (v := c.1 - a.1) (by omega) (by omega)
  unfold Gives
  go_enter Try.func66, Try.ntmps66
  go_wp2
  go_ret
  exact ⟨rfl, by (repeat' (first | exact Below.refl _ _ | assumption | refine below_new ?_ _ | refine below_draw ?_ | refine below_tail (by assumption) ?_ | refine below_set ?_ (by first | omega | (simp <;> omega)) _))⟩

set_option maxHeartbeats 1000000 in
theorem rturn_calls (a b c : Int × Int) (w : World) (ha : bdP a) (hb : bdP b) (hc : bdP c) :
    Gives Try.prog 89 #[.agg #[.int .i64 a.1, .int .i64 a.2], .agg #[.int .i64 b.1, .int .i64 b.2], .agg #[.int .i64 c.1, .int .i64 c.2]] w (.int .i64 (turn a b c)) := by
  obtain ⟨⟨a1, a2⟩, a3, a4⟩ := id ha
  obtain ⟨⟨b1, b2⟩, b3, b4⟩ := id hb
  obtain ⟨⟨c1, c2⟩, c3, c4⟩ := id hc
  obtain ⟨p1, p2⟩ := prod_bd (u := b.1 - a.1) (v := c.2 - a.2) (by omega) (by omega)
  obtain ⟨q1, q2⟩ := prod_bd (u := b.2 - a.2) (v := c.1 - a.1) (by omega) (by omega)
  unfold Gives
  go_enter Try.func89, Try.ntmps89
  go_wp2
  go_ret
  exact ⟨rfl, by (repeat' (first | exact Below.refl _ _ | assumption | refine below_new ?_ _ | refine below_draw ?_ | refine below_tail (by assumption) ?_ | refine below_set ?_ (by first | omega | (simp <;> omega)) _))⟩

set_option maxHeartbeats 1000000 in
theorem ahead_calls (a b c : Int × Int) (w : World) (ha : bdP a) (hb : bdP b) (hc : bdP c) :
    Gives Try.prog 67 #[.agg #[.int .i64 a.1, .int .i64 a.2], .agg #[.int .i64 b.1, .int .i64 b.2], .agg #[.int .i64 c.1, .int .i64 c.2]] w (.int .i64 (dot a b c)) := by
  obtain ⟨⟨a1, a2⟩, a3, a4⟩ := id ha
  obtain ⟨⟨b1, b2⟩, b3, b4⟩ := id hb
  obtain ⟨⟨c1, c2⟩, c3, c4⟩ := id hc
  obtain ⟨p1, p2⟩ := prod_bd (u := b.1 - a.1) (v := c.1 - a.1) (by omega) (by omega)
  obtain ⟨q1, q2⟩ := prod_bd (u := b.2 - a.2) (v := c.2 - a.2) (by omega) (by omega)
  unfold Gives
  go_enter Try.func67, Try.ntmps67
  go_wp2
  go_ret
  exact ⟨rfl, by (repeat' (first | exact Below.refl _ _ | assumption | refine below_new ?_ _ | refine below_draw ?_ | refine below_tail (by assumption) ?_ | refine below_set ?_ (by first | omega | (simp <;> omega)) _))⟩

set_option maxHeartbeats 1000000 in
theorem on_calls (a b x : Int × Int) (w : World) (ha : bdP a) (hb : bdP b) (hx : bdP x) :
    Gives Try.prog 104 #[.agg #[.int .i64 a.1, .int .i64 a.2, .int .i64 b.1, .int .i64 b.2], .agg #[.int .i64 x.1, .int .i64 x.2]] w (.bool (onB a b x)) := by
  have H : Hid (onB a b x = (turn a b x == 0 && decide (dot x a b ≤ 0))) := rfl
  unfold Gives
  cases ht : (turn a b x == 0)
  all_goals
    go_enter Try.func104, Try.ntmps104
    go_wp2_with (first | (go_at_call 66; (with_reducible refine (turn_calls a b x _ ha hb hx).use ?_); intro w1 hb1 hz1 hc1 hf1; (try simp at hz1); have hy1 : w.heap.size + 1 < w1.heap.size := (by omega); have hx10 := fun o => hc1 (w.heap.size) o (by first | omega | (simp <;> omega)); have hx11 := fun o => hc1 (w.heap.size + 1) o (by first | omega | (simp <;> omega)); clear hc1 hf1) | (go_at_call 67; (with_reducible refine (ahead_calls x a b _ hx ha hb).use ?_); intro w2 hb2 hz2 hc2 hf2; (try simp at hz2); clear hc2 hf2))
    go_ret
    exact ⟨ret_bool (by rw [H.out, ht]; rfl), by (repeat' (first | exact Below.refl _ _ | assumption | refine below_new ?_ _ | refine below_draw ?_ | refine below_tail (by assumption) ?_ | refine below_set ?_ (by first | omega | (simp <;> omega)) _))⟩

end Go.Proofs.Ythiemglckmociaa
