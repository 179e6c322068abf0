/- What within, touch and sides of package plot give. Conditions: coordinates are small; the list lies in memory as said. -/
import Derived.Test.YthiemglckmociaaPtLow
import Derived.Test.YthiemglckmociaaPtIdx
import Derived.Test.YthiemglckmociaaKit
namespace Go.Proofs.Ythiemglckmociaa
open Go.RowKit Go.Shelf

theorem mixed : Try.prog.follows .mixedOrders = true := by kernel_rfl

set_option maxHeartbeats 400000 in
theorem withinC_calls (b : Nat) (m n : Int) (w : World) (hc : w.cell? ⟨b, 0, none⟩ = some (.int .i64 m)) (h1 : 0 ≤ m) (h2 : m ≤ 4000) :
    Gives Try.prog 107 #[.int .i64 n, .pointer (some ⟨b, 0, none⟩)] w (.bool (decide (n < -m) || decide (m < n))) := by
  unfold Gives
  by_cases h : n < -m
  · have h3 : decide (n < -m) = true := by simpa using h
    have H3 := Lib.hid h3
    go_enter Try.func107, Try.ntmps107
    go_wp2
    go_ret
    exact ⟨ret_bool (by first | rfl | (rw [H3.out]; rfl)), by (repeat' (first | exact Below.refl _ _ | assumption | refine below_new ?_ _ | refine below_draw ?_ | refine below_tail (by assumption) ?_ | refine below_set ?_ (by first | omega | (simp <;> omega)) _))⟩
  · have h3 : decide (n < -m) = false := by simpa using h
    have H3 := Lib.hid h3
    go_enter Try.func107, Try.ntmps107
    go_wp2
    go_ret
    exact ⟨ret_bool (by first | rfl | (rw [H3.out]; rfl)), by (repeat' (first | exact Below.refl _ _ | assumption | refine below_new ?_ _ | refine below_draw ?_ | refine below_tail (by assumption) ?_ | refine below_set ?_ (by first | omega | (simp <;> omega)) _))⟩

theorem within1_enters : ∀ args w, (callFunc 107 args).run Try.prog w = .ok (.enter 107 args) w := fun args w => enters_of Try.func107 (by kernel_rfl) rfl args w
/-- Are all numbers from -m to m? -/
def withinL (m : Int) (l : List Int) : Bool := !(l.any fun n => decide (n < -m) || decide (m < n))

set_option maxHeartbeats 400000 in
theorem within_calls (v : Value) (m : Int) (l : List Int) (w : World) (h : IntsAt w v l) (h1 : 0 ≤ m) (h2 : m ≤ 4000) :
    Gives Try.prog 64 #[.int .i64 m, v] w (.bool (withinL m l)) := by
  have HP := Lib.hid h
  have H : Hid (withinL m l = !(l.any fun n => decide (n < -m) || decide (m < n))) := rfl
  have hcl : ∀ w', Below (w.alloc (.cells #[.int .i64 m] 3)).heap.size (w.alloc (.cells #[.int .i64 m] 3)) w' → w'.cell? ⟨w.heap.size, 0, none⟩ = some (.int .i64 m) := fun w' hb =>
    (hb.cell (p := ⟨w.heap.size, 0, none⟩) (by simp)).trans (by simp [go_sem])
  have HC := Lib.hid hcl
  clear h hcl
  unfold Gives
  go_enter Try.func64, Try.ntmps64
  go_wp2_with (go_at_call 106; refine (containsFunc_ints _ l 107 #[.pointer (some ⟨w.heap.size, 0, none⟩)] (fun n => decide (n < -m) || decide (m < n)) _ (HP.out.below (by (repeat' (first | exact Below.refl _ _ | assumption | refine below_new ?_ _ | refine below_draw ?_ | refine below_tail (by assumption) ?_ | refine below_set ?_ (by first | omega | (simp <;> omega)) _)))) within1_enters (fun x w' hb => withinC_calls w.heap.size m x w' (HC.out w' hb) h1 h2)).use ?_; intro w1 hb1 hz1 hc1 hf1)
  go_ret
  exact ⟨ret_bool (by rw [H.out]), by (repeat' (first | exact Below.refl _ _ | assumption | refine below_new ?_ _ | refine below_draw ?_ | refine below_tail (by assumption) ?_ | refine below_set ?_ (by first | omega | (simp <;> omega)) _))⟩

/-- Is the point in range? -/
def inR (x : Int × Int) : Bool := withinL 30 [x.1, x.2]
theorem inR_iff {x : Int × Int} : inR x = true ↔ (-30 ≤ x.1 ∧ x.1 ≤ 30) ∧ -30 ≤ x.2 ∧ x.2 ≤ 30 := by
  unfold inR withinL
  simp

set_option maxHeartbeats 400000 in
theorem rangeC_calls (x : Int × Int) (w : World) :
    Gives Try.prog 63 #[.agg #[.int .i64 x.1, .int .i64 x.2]] w (.bool (!(inR x))) := by
  have H : Hid (inR x = withinL 30 [x.1, x.2]) := rfl
  unfold Gives
  go_enter Try.func63, Try.ntmps63
  go_wp2_with (go_at_call 64; refine (within_calls _ 30 [x.1, x.2] _ (ints2 (by simp)) (by omega) (by omega)).use ?_; intro w1 hb1 hz1 hc1 hf1)
  go_ret
  exact ⟨ret_bool (by rw [H.out]), by (repeat' (first | exact Below.refl _ _ | assumption | refine below_new ?_ _ | refine below_draw ?_ | refine below_tail (by assumption) ?_ | refine below_set ?_ (by first | omega | (simp <;> omega)) _))⟩

set_option maxHeartbeats 400000 in
theorem rangeH_calls (x : Int × Int) (w : World) :
    Gives Try.prog 78 #[.agg #[.int .i64 x.1, .int .i64 x.2]] w (.bool (!(inR x))) := by
  have H : Hid (inR x = withinL 30 [x.1, x.2]) := rfl
  unfold Gives
  go_enter Try.func78, Try.ntmps78
  go_wp2_with (go_at_call 64; refine (within_calls _ 30 [x.1, x.2] _ (ints2 (by simp)) (by omega) (by omega)).use ?_; intro w1 hb1 hz1 hc1 hf1)
  go_ret
  exact ⟨ret_bool (by rw [H.out]), by (repeat' (first | exact Below.refl _ _ | assumption | refine below_new ?_ _ | refine below_draw ?_ | refine below_tail (by assumption) ?_ | refine below_set ?_ (by first | omega | (simp <;> omega)) _))⟩
end Go.Proofs.Ythiemglckmociaa
