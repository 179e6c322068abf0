/- What the small functions of package plot, and of its reference, give. Conditions: coordinates are small. -/
import Derived.Test.YthiemglckmociaaProg
import Derived.Test.YthiemglckmociaaKit
import Derived.Test.YthiemglckmociaaGeoA
import Derived.WalkSpells
import Derived.WalkLawsBesides
import Derived.BigGuardPart
import Derived.BigQuiet
import Derived.Deep.QuietTactic
import Derived.Test.YthiemglckmociaaPtSlices
import Derived.WalkSmall
import Derived.Laws.Rows
namespace Go.Proofs.Ythiemglckmociaa
open Go.RowKit

/-- Small coordinates. -/
def bdP (a : Int × Int) : Prop := (-2000 ≤ a.1 ∧ a.1 ≤ 2000) ∧ -2000 ≤ a.2 ∧ a.2 ≤ 2000
theorem prod_bd {u v : Int} (hu : -4000 ≤ u ∧ u ≤ 4000) (hv : -4000 ≤ v ∧ v ≤ 4000) : -16000000 ≤ u * v ∧ u * v ≤ 16000000 := by
  have h1 := Int.mul_le_mul_of_nonneg_left (show v ≤ 4000 by omega) (show 0 ≤ u + 4000 by omega)
  have h2 := Int.mul_le_mul_of_nonneg_left (show -4000 ≤ v by omega) (show 0 ≤ u + 4000 by omega)
  have h3 := Int.mul_le_mul_of_nonneg_left (show v ≤ 4000 by omega) (show 0 ≤ 4000 - u by omega)
  have h4 := Int.mul_le_mul_of_nonneg_left (show -4000 ≤ v by omega) (show 0 ≤ 4000 - u by omega)
  rw [Int.add_mul] at h1 h2
  rw [Int.sub_mul] at h3 h4
  rw [Int.add_mul] at h1 h2
  rw [Int.sub_mul] at h3 h4
  omega


set_option maxHeartbeats 1000000 in
theorem turn_calls (a b c : Int × Int) (w : World) (ha : bdP a) (hb : bdP b) (hc : bdP c) :
    Gives Try.prog 66 #[.agg #[.int .i64 a.1, .int .i64 a.2], .agg #[.int .i64 b.1, .int .i64 b.2], .agg #[.int .i64 c.1, .int .i64 c.2]] w (.int .i64 (turn a b c)) := by
  obtain ⟨⟨a1, a2⟩, a3, a4⟩ := id ha
  obtain ⟨⟨b1, b2⟩, b3, b4⟩ := id hb
  obtain ⟨⟨c1, c2⟩, c3, c4⟩ := id hc
  obtain ⟨p1, p2⟩ := prod_bd (u := b.1 - a.1) (v := c.2 - a.2) (by omega) (by omega)
  obtain ⟨q1, q2⟩ := prod_bd (u := b.2 - a.2) (v := c.1 - a.1) (by omega) (by omega)
  unfold Gives
  go_enter Try.func66, Try.ntmps66
  go_wp2
  go_ret
  exact ⟨rfl, by (repeat' (first | exact Below.refl _ _ | assumption | refine below_new ?_ _ | refine below_draw ?_ | refine below_tail (by assumption) ?_ | refine below_set ?_ (by first | omega | (simp <;> omega)) _))⟩

set_option maxHeartbeats 1000000 in
theorem ahead_calls (a b c : Int × Int) (w : World) (ha : bdP a) (hb : bdP b) (hc : bdP c) :
    Gives Try.prog 67 #[.agg #[.int .i64 a.1, .int .i64 a.2], .agg #[.int .i64 b.1, .int .i64 b.2], .agg #[.int .i64 c.1, .int .i64 c.2]] w (.int .i64 (dot a b c)) := by
  obtain ⟨⟨a1, a2⟩, a3, a4⟩ := id ha
  obtain ⟨⟨b1, b2⟩, b3, b4⟩ := id hb
  obtain ⟨⟨c1, c2⟩, c3, c4⟩ := id hc
  obtain ⟨p1, p2⟩ := prod_bd (u := b.1 - a.1) (v := c.1 - a.1) (by omega) (by omega)
  obtain ⟨q1, q2⟩ := prod_bd (u := b.2 - a.2) (v := c.2 - a.2) (by omega) (by omega)
  unfold Gives
  go_enter Try.func67, Try.ntmps67
  go_wp2
  go_ret
  exact ⟨rfl, by (repeat' (first | exact Below.refl _ _ | assumption | refine below_new ?_ _ | refine below_draw ?_ | refine below_tail (by assumption) ?_ | refine below_set ?_ (by first | omega | (simp <;> omega)) _))⟩

set_option maxHeartbeats 1000000 in
theorem on_calls (a b x : Int × Int) (w : World) (ha : bdP a) (hb : bdP b) (hx : bdP x) :
    Gives Try.prog 104 #[.agg #[.int .i64 a.1, .int .i64 a.2, .int .i64 b.1, .int .i64 b.2], .agg #[.int .i64 x.1, .int .i64 x.2]] w (.bool (onB a b x)) := by
  have H : Hid (onB a b x = (turn a b x == 0 && decide (dot x a b ≤ 0))) := rfl
  unfold Gives
  cases ht : (turn a b x == 0)
  all_goals
    go_enter Try.func104, Try.ntmps104
    go_wp2_with (first | (go_at_call 66; (with_reducible refine (turn_calls a b x _ ha hb hx).use ?_); intro w1 hb1 hz1 hc1 hf1; (try simp at hz1); have hy1 : w.heap.size + 1 < w1.heap.size := (by omega); have hx10 := fun o => hc1 (w.heap.size) o (by first | omega | (simp <;> omega)); have hx11 := fun o => hc1 (w.heap.size + 1) o (by first | omega | (simp <;> omega)); clear hc1 hf1) | (go_at_call 67; (with_reducible refine (ahead_calls x a b _ hx ha hb).use ?_); intro w2 hb2 hz2 hc2 hf2; (try simp at hz2); clear hc2 hf2))
    go_ret
    exact ⟨ret_bool (by rw [H.out, ht]; rfl), by (repeat' (first | exact Below.refl _ _ | assumption | refine below_new ?_ _ | refine below_draw ?_ | refine below_tail (by assumption) ?_ | refine below_set ?_ (by first | omega | (simp <;> omega)) _))⟩

end Go.Proofs.Ythiemglckmociaa
/- Two points compared. -/
namespace Go.Proofs.Ythiemglckmociaa
open Go.RowKit
theorem eqi_pt (d : Nat) (a b c f : Int) (w : World) : (Op.equalIn (d + 1 + 1) 32 (.agg #[.int .i64 a, .int .i64 b]) (.agg #[.int .i64 c, .int .i64 f])).run Try.prog w = .ok ((a, b) == (c, f)) w := by
  have h2 : Try.prog.stoodInHeld 32 = false := by kernel_rfl
  have e : ((a, b) == (c, f)) = (decide (a = c) && decide (b = f)) := by rw [Bool.eq_iff_iff]; simp
  rw [e]
  simp only [Op.equalIn, Sem.run_bind, run_underlying Try.underlying32, Result.andThen_ok, run_program, h2, Bool.false_eq_true, if_false]
  simp [go_sem]
  by_cases k1 : a = c <;> by_cases k2 : b = f <;> simp [k1, k2]
theorem eql_pt (a b c d : Int) (w : World) : (binOp .eql 32 (.agg #[.int .i64 a, .int .i64 b]) (.agg #[.int .i64 c, .int .i64 d])).run Try.prog w = .ok (.bool ((a, b) == (c, d))) w := by
  simp only [binOp, Op.equal, Op.maxDepth, Sem.run_bind]
  rw [eqi_pt 9998]; rfl
theorem neq_pt (a b c d : Int) (w : World) : (binOp .neq 32 (.agg #[.int .i64 a, .int .i64 b]) (.agg #[.int .i64 c, .int .i64 d])).run Try.prog w = .ok (.bool (!((a, b) == (c, d)))) w := by
  simp only [binOp, Op.equal, Op.maxDepth, Sem.run_bind]
  rw [eqi_pt 9998]; rfl
theorem eqg_pt (op : BinOp) (x y : Operand) (xs ys : Array Value) (w : World) : (eqGuard op 32 x y (.agg xs) (.agg ys)).run Try.prog w = .ok () w := by
  have h : Try.prog.eqGuardType Try.prog.depth 32 = false := by kernel_rfl
  cases op <;> simp [eqGuard, run_program, h]
end Go.Proofs.Ythiemglckmociaa
/- slices.Index at points. -/
namespace Go.Proofs.Ythiemglckmociaa
open Go.RowKit
attribute [local go_sem high] eql_pt eqg_pt
set_option maxHeartbeats 400000 in
theorem index_pts (v : Value) (l : List (Int × Int)) (x : Int × Int) (w : World) (h : PairsAt w v l) :
    Gives Try.prog 108 #[v, .agg #[.int .i64 x.1, .int .i64 x.2]] w (.int .i64 (idxFrom l (fun y => x == y) (0, 0) 0)) := by
  obtain ⟨a, cap, rfl, hlc, hcm, hc⟩ := h
  have HC := Lib.hid hc
  clear hc
  unfold Gives
  go_enter Try.func108, Try.ntmps108
  go_wp2
  go_loopw [8] (fun i wr => ∃ k : Nat, k ≤ l.length ∧ i = .int .i64 k ∧ Hid (idxFrom l (fun y => x == y) (0, 0) 0 = idxFrom l (fun y => x == y) (0, 0) k) ∧ wr.heap.size = w.heap.size + 1 ∧ wr.cell? ⟨w.heap.size, 0, none⟩ = some (.int .i64 x.1) ∧ wr.cell? ⟨w.heap.size, 1, none⟩ = some (.int .i64 x.2) ∧ Below w.heap.size w wr) (fun i _ => l.length - (intOf i).toNat)
  case atStart => exact ⟨0, Nat.zero_le _, rfl, rfl, by simp, by simp, by simp, by (repeat' (first | exact Below.refl _ _ | assumption | refine below_new ?_ _ | refine below_draw ?_ | refine below_tail (by assumption) ?_ | refine below_set ?_ (by first | omega | (simp <;> omega)) _))⟩
  case round =>
    obtain ⟨k, hk, rfl, hr, hsz, hx1, hx2, hb⟩ := hrel
    by_cases hlt : k < l.length
    · obtain ⟨b, o, rfl, hB, hcell0, hdell0⟩ := HC.out k hlt
      have hcell : wr.cell? ⟨b, o + k * 2, none⟩ = some (.int .i64 (gi l (0, 0) k).1) := (hb.cell (p := ⟨b, o + k * 2, none⟩) hB).trans hcell0
      have hdell : wr.cell? ⟨b, o + k * 2 + 1, none⟩ = some (.int .i64 (gi l (0, 0) k).2) := (hb.cell (p := ⟨b, o + k * 2 + 1, none⟩) hB).trans hdell0
      clear hcell0 hdell0
      cases hx : (x == gi l (0, 0) k)
      · have H1 := Lib.hid (idxFrom_no (d := ((0, 0) : Int × Int)) (p := fun y => x == y) hlt hx)
        go_wp2
        go_quiet (fail)
        go_wp2
        go_roundw
        case rel => exact ⟨k + 1, by omega, by go_num, by unfold Hid; rw [hr.out, H1.out], by simpa using hsz, by simpa using hx1, by simpa using hx2, below_drewN hb _⟩
        case measure => simp [intOf]; omega
      · have H1 := Lib.hid (idxFrom_yes (d := ((0, 0) : Int × Int)) (p := fun y => x == y) hlt hx)
        go_wp2
        go_quiet (fail)
        go_wp2
        go_ret
        exact ⟨ret_int (by rw [hr.out, H1.out]), below_drewN hb _⟩
    · have H1 := Lib.hid (idxFrom_end (d := ((0, 0) : Int × Int)) (p := fun y => x == y) hlt)
      go_wp2
      go_ret
      exact ⟨ret_int (by rw [hr.out, H1.out]), hb⟩

set_option maxHeartbeats 400000 in
theorem contains_pts (v : Value) (l : List (Int × Int)) (x : Int × Int) (w : World) (h : PairsAt w v l) :
    Gives Try.prog 65 #[v, .agg #[.int .i64 x.1, .int .i64 x.2]] w (.bool (l.contains x)) := by
  have H := Lib.hid (idxFrom_contains l x)
  have HP := Lib.hid h
  clear h
  unfold Gives
  go_enter Try.func65, Try.ntmps65
  go_wp2_with (refine (index_pts _ l x _ (HP.out.below (by (repeat' (first | exact Below.refl _ _ | assumption | refine below_new ?_ _ | refine below_draw ?_ | refine below_tail (by assumption) ?_ | refine below_set ?_ (by first | omega | (simp <;> omega)) _))))).use ?_; intro w1 hb1 hz1 hc1 hf1)
  go_ret
  exact ⟨ret_bool (by rw [← H.out]), by (repeat' (first | exact Below.refl _ _ | assumption | refine below_new ?_ _ | refine below_draw ?_ | refine below_tail (by assumption) ?_ | refine below_set ?_ (by first | omega | (simp <;> omega)) _))⟩
end Go.Proofs.Ythiemglckmociaa
/- What within, touch and sides of package plot give. Conditions: coordinates are small; the list lies in memory as said. -/
namespace Go.Proofs.Ythiemglckmociaa
open Go.RowKit Go.Shelf

theorem mixed : Try.prog.follows .mixedOrders = true := by kernel_rfl

set_option maxHeartbeats 400000 in
theorem withinC_calls (b : Nat) (m n : Int) (w : World) (hc : w.cell? ⟨b, 0, none⟩ = some (.int .i64 m)) (h1 : 0 ≤ m) (h2 : m ≤ 4000) :
    Gives Try.prog 107 #[.int .i64 n, .pointer (some ⟨b, 0, none⟩)] w (.bool (decide (n < -m) || decide (m < n))) := by
  unfold Gives
  by_cases h : n < -m
  · have h3 : decide (n < -m) = true := by simpa using h
    have H3 := Lib.hid h3
    go_enter Try.func107, Try.ntmps107
    go_wp2
    go_ret
    exact ⟨ret_bool (by first | rfl | (rw [H3.out]; rfl)), by (repeat' (first | exact Below.refl _ _ | assumption | refine below_new ?_ _ | refine below_draw ?_ | refine below_tail (by assumption) ?_ | refine below_set ?_ (by first | omega | (simp <;> omega)) _))⟩
  · have h3 : decide (n < -m) = false := by simpa using h
    have H3 := Lib.hid h3
    go_enter Try.func107, Try.ntmps107
    go_wp2
    go_ret
    exact ⟨ret_bool (by first | rfl | (rw [H3.out]; rfl)), by (repeat' (first | exact Below.refl _ _ | assumption | refine below_new ?_ _ | refine below_draw ?_ | refine below_tail (by assumption) ?_ | refine below_set ?_ (by first | omega | (simp <;> omega)) _))⟩

theorem within1_enters : ∀ args w, (callFunc 107 args).run Try.prog w = .ok (.enter 107 args) w := fun args w => enters_of Try.func107 (by kernel_rfl) rfl args w
/-- Are all numbers from -m to m? -/
def withinL (m : Int) (l : List Int) : Bool := !(l.any fun n => decide (n < -m) || decide (m < n))

set_option maxHeartbeats 400000 in
theorem within_calls (v : Value) (m : Int) (l : List Int) (w : World) (h : IntsAt w v l) (h1 : 0 ≤ m) (h2 : m ≤ 4000) :
    Gives Try.prog 64 #[.int .i64 m, v] w (.bool (withinL m l)) := by
  have HP := Lib.hid h
  have H : Hid (withinL m l = !(l.any fun n => decide (n < -m) || decide (m < n))) := rfl
  have hcl : ∀ w', Below (w.alloc (.cells #[.int .i64 m] 3)).heap.size (w.alloc (.cells #[.int .i64 m] 3)) w' → w'.cell? ⟨w.heap.size, 0, none⟩ = some (.int .i64 m) := fun w' hb =>
    (hb.cell (p := ⟨w.heap.size, 0, none⟩) (by simp)).trans (by simp [go_sem])
  have HC := Lib.hid hcl
  clear h hcl
  unfold Gives
  go_enter Try.func64, Try.ntmps64
  go_wp2_with (go_at_call 106; refine (containsFunc_ints _ l 107 #[.pointer (some ⟨w.heap.size, 0, none⟩)] (fun n => decide (n < -m) || decide (m < n)) _ (HP.out.below (by (repeat' (first | exact Below.refl _ _ | assumption | refine below_new ?_ _ | refine below_draw ?_ | refine below_tail (by assumption) ?_ | refine below_set ?_ (by first | omega | (simp <;> omega)) _)))) within1_enters (fun x w' hb => withinC_calls w.heap.size m x w' (HC.out w' hb) h1 h2)).use ?_; intro w1 hb1 hz1 hc1 hf1)
  go_ret
  exact ⟨ret_bool (by rw [H.out]), by (repeat' (first | exact Below.refl _ _ | assumption | refine below_new ?_ _ | refine below_draw ?_ | refine below_tail (by assumption) ?_ | refine below_set ?_ (by first | omega | (simp <;> omega)) _))⟩

/-- Is the point in range? -/
def inR (x : Int × Int) : Bool := withinL 30 [x.1, x.2]
theorem inR_iff {x : Int × Int} : inR x = true ↔ (-30 ≤ x.1 ∧ x.1 ≤ 30) ∧ -30 ≤ x.2 ∧ x.2 ≤ 30 := by
  unfold inR withinL
  simp

set_option maxHeartbeats 400000 in
theorem rangeC_calls (x : Int × Int) (w : World) :
    Gives Try.prog 63 #[.agg #[.int .i64 x.1, .int .i64 x.2]] w (.bool (!(inR x))) := by
  have H : Hid (inR x = withinL 30 [x.1, x.2]) := rfl
  unfold Gives
  go_enter Try.func63, Try.ntmps63
  go_wp2_with (go_at_call 64; refine (within_calls _ 30 [x.1, x.2] _ (ints2 (by simp)) (by omega) (by omega)).use ?_; intro w1 hb1 hz1 hc1 hf1)
  go_ret
  exact ⟨ret_bool (by rw [H.out]), by (repeat' (first | exact Below.refl _ _ | assumption | refine below_new ?_ _ | refine below_draw ?_ | refine below_tail (by assumption) ?_ | refine below_set ?_ (by first | omega | (simp <;> omega)) _))⟩

set_option maxHeartbeats 400000 in
theorem rangeH_calls (x : Int × Int) (w : World) :
    Gives Try.prog 78 #[.agg #[.int .i64 x.1, .int .i64 x.2]] w (.bool (!(inR x))) := by
  have H : Hid (inR x = withinL 30 [x.1, x.2]) := rfl
  unfold Gives
  go_enter Try.func78, Try.ntmps78
  go_wp2_with (go_at_call 64; refine (within_calls _ 30 [x.1, x.2] _ (ints2 (by simp)) (by omega) (by omega)).use ?_; intro w1 hb1 hz1 hc1 hf1)
  go_ret
  exact ⟨ret_bool (by rw [H.out]), by (repeat' (first | exact Below.refl _ _ | assumption | refine below_new ?_ _ | refine below_draw ?_ | refine below_tail (by assumption) ?_ | refine below_set ?_ (by first | omega | (simp <;> omega)) _))⟩
end Go.Proofs.Ythiemglckmociaa
/- What near and the changes of single points give. Conditions: as said in each. -/
namespace Go.Proofs.Ythiemglckmociaa
open Go.RowKit
end Go.Proofs.Ythiemglckmociaa
/- Two equal lists of points are the same. Conditions: both lie in memory as said. -/
namespace Go.Proofs.Ythiemglckmociaa
open Go.RowKit
attribute [local go_sem high] neq_pt eqg_pt
end Go.Proofs.Ythiemglckmociaa
