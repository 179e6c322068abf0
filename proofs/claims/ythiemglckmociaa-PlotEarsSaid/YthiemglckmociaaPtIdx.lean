/- slices.Index at points. -/
import Derived.Test.YthiemglckmociaaPtEq
import Derived.WalkSmall
namespace Go.Proofs.Ythiemglckmociaa
open Go.RowKit
attribute [local go_sem high] eql_pt eqg_pt
set_option maxHeartbeats 400000 in
theorem index_pts (v : Value) (l : List (Int × Int)) (x : Int × Int) (w : World) (h : PairsAt w v l) :
    Gives Try.prog 108 #[v, .agg #[.int .i64 x.1, .int .i64 x.2]] w (.int .i64 (idxFrom l (fun y => x == y) (0, 0) 0)) := by
  obtain ⟨a, cap, rfl, hlc, hcm, hc⟩ := h
  have HC := Lib.hid hc
  clear hc
  unfold Gives
  go_enter Try.func108, Try.ntmps108
  go_wp2
  go_loopw [8] (fun i wr => ∃ k : Nat, k ≤ l.length ∧ i = .int .i64 k ∧ Hid (idxFrom l (fun y => x == y) (0, 0) 0 = idxFrom l (fun y => x == y) (0, 0) k) ∧ wr.heap.size = w.heap.size + 1 ∧ wr.cell? ⟨w.heap.size, 0, none⟩ = some (.int .i64 x.1) ∧ wr.cell? ⟨w.heap.size, 1, none⟩ = some (.int .i64 x.2) ∧ Below w.heap.size w wr) (fun i _ => l.length - (intOf i).toNat)
  case atStart => exact ⟨0, Nat.zero_le _, rfl, rfl, by simp, by simp, by simp, by (repeat' (first | exact Below.refl _ _ | assumption | refine below_new ?_ _ | refine below_draw ?_ | refine below_tail (by assumption) ?_ | refine below_set ?_ (by first | omega | (simp <;> omega)) _))⟩
  case round =>
    obtain ⟨k, hk, rfl, hr, hsz, hx1, hx2, hb⟩ := hrel
    by_cases hlt : k < l.length
    · obtain ⟨b, o, rfl, hB, hcell0, hdell0⟩ := HC.out k hlt
      have hcell : wr.cell? ⟨b, o + k * 2, none⟩ = some (.int .i64 (gi l (0, 0) k).1) := (hb.cell (p := ⟨b, o + k * 2, none⟩) hB).trans hcell0
      have hdell : wr.cell? ⟨b, o + k * 2 + 1, none⟩ = some (.int .i64 (gi l (0, 0) k).2) := (hb.cell (p := ⟨b, o + k * 2 + 1, none⟩) hB).trans hdell0
      clear hcell0 hdell0
      cases hx : (x == gi l (0, 0) k)
      · have H1 := Lib.hid (idxFrom_no (d := ((0, 0) : Int × Int)) (p := fun y => x == y) hlt hx)
        go_wp2
        go_quiet (fail)
        go_wp2
        go_roundw
        case rel => exact ⟨k + 1, by omega, by go_num, by unfold Hid; rw [hr.out, H1.out], by simpa using hsz, by simpa using hx1, by simpa using hx2, below_drewN hb _⟩
        case measure => simp [intOf]; omega
      · have H1 := Lib.hid (idxFrom_yes (d := ((0, 0) : Int × Int)) (p := fun y => x == y) hlt hx)
        go_wp2
        go_quiet (fail)
        go_wp2
        go_ret
        exact ⟨ret_int (by rw [hr.out, H1.out]), below_drewN hb _⟩
    · have H1 := Lib.hid (idxFrom_end (d := ((0, 0) : Int × Int)) (p := fun y => x == y) hlt)
      go_wp2
      go_ret
      exact ⟨ret_int (by rw [hr.out, H1.out]), hb⟩

set_option maxHeartbeats 400000 in
theorem contains_pts (v : Value) (l : List (Int × Int)) (x : Int × Int) (w : World) (h : PairsAt w v l) :
    Gives Try.prog 65 #[v, .agg #[.int .i64 x.1, .int .i64 x.2]] w (.bool (l.contains x)) := by
  have H := Lib.hid (idxFrom_contains l x)
  have HP := Lib.hid h
  clear h
  unfold Gives
  go_enter Try.func65, Try.ntmps65
  go_wp2_with (refine (index_pts _ l x _ (HP.out.below (by (repeat' (first | exact Below.refl _ _ | assumption | refine below_new ?_ _ | refine below_draw ?_ | refine below_tail (by assumption) ?_ | refine below_set ?_ (by first | omega | (simp <;> omega)) _))))).use ?_; intro w1 hb1 hz1 hc1 hf1)
  go_ret
  exact ⟨ret_bool (by rw [← H.out]), by (repeat' (first | exact Below.refl _ _ | assumption | refine below_new ?_ _ | refine below_draw ?_ | refine below_tail (by assumption) ?_ | refine below_set ?_ (by first | omega | (simp <;> omega)) _))⟩
end Go.Proofs.Ythiemglckmociaa
