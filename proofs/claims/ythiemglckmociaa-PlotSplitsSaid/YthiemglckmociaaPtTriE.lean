/- What TrianglesError of the document gives. Conditions: the list lies in memory as said. -/
import Derived.Test.YthiemglckmociaaPtRQuarter
import Derived.Test.YthiemglckmociaaPtCutA
namespace Go.Proofs.Ythiemglckmociaa
open Go.RowKit

/-- Three corners on one line. -/
def col3 (l : List (Int × Int)) (i k m : Nat) : Bool := turn (gi l (0, 0) i) (gi l (0, 0) k) (gi l (0, 0) m) == 0
def colB (l : List (Int × Int)) : Bool := anyN (fun i => anyN (fun k => anyN (col3 l i k) k) i) l.length
def triE (l : List (Int × Int)) : Int := if validF l = 0 then (if colB l = true then 8 else 0) else validF l
set_option maxHeartbeats 2000000 in
theorem triErr_calls (v : Value) (l : List (Int × Int)) (w : World) (h : PairsAt w v l) : Gives Try.prog 38 #[v] w (.int .i64 (triE l)) := by
  have HP := Lib.hid h
  obtain ⟨sa, cap, rfl, hlc, hcm, -⟩ := h
  have HT : Hid (triE l = if validF l = 0 then (if colB l = true then 8 else 0) else validF l) := rfl
  obtain ⟨e, he⟩ : ∃ e, validF l = e := ⟨_, rfl⟩
  have HE := Lib.hid he
  clear he
  unfold Gives
  by_cases hz : e = 0
  · subst hz
    have hv := valid_iff.1 HE.out
    have h3 := hv.lo
    have h10 := hv.hi
    have HV := Lib.hid hv
    obtain ⟨b, o, rfl, hB, _, _⟩ := HP.out.cellAt (show 0 < l.length by omega)
    clear hv
    go_enter Try.func38, Try.ntmps38
    go_wp2_with (go_at_call 28; (with_reducible refine (rvalidate_is _ (HP.out.below (by (repeat' (first | exact Below.refl _ _ | assumption | refine below_new ?_ _ | refine below_draw ?_ | refine below_tail (by assumption) ?_ | refine below_set ?_ (by first | omega | (simp <;> omega)) _)))) HE.out).use ?_); intro w1 hb1 hz1 hc1 hf1; clear hc1 hf1)
    go_loopw [4] (fun a wr => ∃ k : Nat, k ≤ l.length ∧ a = .int .i64 k ∧ Hid (∀ q, q < k → anyN (fun r => anyN (col3 l q r) r) q = false) ∧ Below w.heap.size w wr) (fun a _ => l.length - (intOf a).toNat)
    case atStart => exact ⟨0, Nat.zero_le _, rfl, fun q hq => absurd hq (by omega), by (repeat' (first | exact Below.refl _ _ | assumption | refine below_new ?_ _ | refine below_draw ?_ | refine below_tail (by assumption) ?_ | refine below_set ?_ (by first | omega | (simp <;> omega)) _))⟩
    case round =>
      obtain ⟨k, hk, rfl, h1, hbw⟩ := hrel
      by_cases hlt : k < l.length
      · have hg : decide ((k : Int) < (l.length : Int)) = true := decide_eq_true (by omega)
        have HK := Lib.hid hbw
        go_wp2_with fail
        go_loopw [5] (fun a wr2 => ∃ r : Nat, r ≤ k ∧ a = .int .i64 r ∧ Hid (∀ q, q < r → anyN (col3 l k q) q = false) ∧ Below w.heap.size w wr2) (fun a _ => k - (intOf a).toNat)
        case atStart => exact ⟨0, Nat.zero_le _, rfl, fun q hq => absurd hq (by omega), hbw⟩
        case round =>
          obtain ⟨r, hr, rfl, h2, hbw2⟩ := hrel
          by_cases hlt2 : r < k
          · have hg2 : decide ((r : Int) < (k : Int)) = true := decide_eq_true (by omega)
            go_wp2_with fail
            go_loopw [6] (fun a wr3 => ∃ m : Nat, m ≤ r ∧ a = .int .i64 m ∧ Hid (∀ q, q < m → col3 l k r q = false) ∧ Below w.heap.size w wr3) (fun a _ => r - (intOf a).toNat)
            case atStart => exact ⟨0, Nat.zero_le _, rfl, fun q hq => absurd hq (by omega), hbw2⟩
            case round =>
              obtain ⟨m, hm, rfl, h4, hbw3⟩ := hrel
              by_cases hlt3 : m < r
              · have hg3 : decide ((m : Int) < (r : Int)) = true := decide_eq_true (by omega)
                obtain ⟨b1, o1, e1, _, a0, a1⟩ := HP.out.cellB hbw3 hlt
                cases e1
                obtain ⟨b1, o1, e1, _, a2, a3⟩ := HP.out.cellB hbw3 (show r < l.length by omega)
                cases e1
                obtain ⟨b1, o1, e1, _, a4, a5⟩ := HP.out.cellB hbw3 (show m < l.length by omega)
                cases e1
                have q0 := fun d os => cell_regrown a0 d os
                have q1 := fun d os => cell_regrown a1 d os
                have q2 := fun d os => cell_regrown a2 d os
                have q3 := fun d os => cell_regrown a3 d os
                have q4 := fun d os => cell_regrown a4 d os
                have q5 := fun d os => cell_regrown a5 d os
                have hi1 : (r : Int) < (l.length : Int) := by omega
                have hi2 : (m : Int) < (l.length : Int) := by omega
                have HA := gi_bd HV.out hlt
                have HB := gi_bd HV.out (show r < l.length by omega)
                have HC := gi_bd HV.out (show m < l.length by omega)
                obtain ⟨t, ht⟩ : ∃ t, turn (gi l (0, 0) k) (gi l (0, 0) r) (gi l (0, 0) m) = t := ⟨_, rfl⟩
                have HTT := Lib.hid ht
                clear ht a0 a1 a2 a3 a4 a5
                cases hd : (t == 0)
                · have HD : Hid (col3 l k r m = false) := by unfold Hid col3; rw [HTT.out]; exact hd
                  go_wp2_with fail
                  refine region_q mixed (by kernel_rfl) ?_
                  repeat (go_big_quiet_step ((go_at_call 89; exact Calls.regrown_of (rturn_is _ HA HB HC HTT.out))))
                  refine wpQuiet_nil ?_
                  intro wq hbq
                  clear q0 q1 q2 q3 q4 q5
                  go_wp2_with fail
                  go_roundw
                  case rel => exact ⟨m + 1, by omega, by go_num, fun q hq => (Nat.lt_succ_iff_lt_or_eq.1 hq).elim (h4.out q) (fun e => by subst e; exact HD.out), by (repeat' (first | exact Below.refl _ _ | assumption | refine below_new ?_ _ | refine below_draw ?_ | refine below_tail (by assumption) ?_ | refine below_set ?_ (by first | omega | (simp <;> omega)) _))⟩
                  case measure => simp [intOf]; omega
                · have HD : Hid (colB l = true) := anyN_true hlt (anyN_true hlt2 (anyN_true hlt3 (by unfold col3; rw [HTT.out]; exact hd)))
                  go_wp2_with fail
                  refine region_q mixed (by kernel_rfl) ?_
                  repeat (go_big_quiet_step ((go_at_call 89; exact Calls.regrown_of (rturn_is _ HA HB HC HTT.out))))
                  refine wpQuiet_nil ?_
                  intro wq hbq
                  clear q0 q1 q2 q3 q4 q5
                  go_wp2_with fail
                  go_ret
                  exact ⟨ret_int (by rw [HT.out, if_pos HE.out, if_pos HD.out]), by (repeat' (first | exact Below.refl _ _ | assumption | refine below_new ?_ _ | refine below_draw ?_ | refine below_tail (by assumption) ?_ | refine below_set ?_ (by first | omega | (simp <;> omega)) _))⟩
              · have hg3 : decide ((m : Int) < (r : Int)) = false := decide_eq_false (by omega)
                obtain rfl : m = r := by omega
                have HD := Lib.hid (anyN_false h4.out)
                go_wp2_with fail
                go_roundw
                case rel => exact ⟨m + 1, by omega, by go_num, fun q hq => (Nat.lt_succ_iff_lt_or_eq.1 hq).elim (h2.out q) (fun e => by subst e; exact HD.out), hbw3⟩
                case measure => simp [intOf]; omega
          · have hg2 : decide ((r : Int) < (k : Int)) = false := decide_eq_false (by omega)
            obtain rfl : r = k := by omega
            have HD := Lib.hid (anyN_false h2.out)
            go_wp2_with fail
            go_roundw
            case rel => exact ⟨r + 1, by omega, by go_num, fun q hq => (Nat.lt_succ_iff_lt_or_eq.1 hq).elim (h1.out q) (fun e => by subst e; exact HD.out), hbw2⟩
            case measure => simp [intOf]; omega
      · have hg : decide ((k : Int) < (l.length : Int)) = false := decide_eq_false (by omega)
        obtain rfl : k = l.length := by omega
        have HD : Hid (colB l = false) := anyN_false h1.out
        go_wp2_with fail
        go_ret
        exact ⟨ret_int (by rw [HT.out, if_pos HE.out, if_neg (by rw [HD.out]; decide)]), hbw⟩
  · have h1 : (e == 0) = false := by simpa using hz
    have h2 : (e != 0) = true := by simpa using hz
    have HZ := Lib.hid hz
    clear hz
    go_enter Try.func38, Try.ntmps38
    go_wp2_with (go_at_call 28; (with_reducible refine (rvalidate_is _ (HP.out.below (by (repeat' (first | exact Below.refl _ _ | assumption | refine below_new ?_ _ | refine below_draw ?_ | refine below_tail (by assumption) ?_ | refine below_set ?_ (by first | omega | (simp <;> omega)) _)))) HE.out).use ?_); intro w1 hb1 hz1 hc1 hf1; clear hc1 hf1)
    go_ret
    exact ⟨ret_int (by rw [HT.out, if_neg (by rw [HE.out]; exact HZ.out), HE.out]), by (repeat' (first | exact Below.refl _ _ | assumption | refine below_new ?_ _ | refine below_draw ?_ | refine below_tail (by assumption) ?_ | refine below_set ?_ (by first | omega | (simp <;> omega)) _))⟩
theorem triErr_is {v : Value} {l : List (Int × Int)} {e : Int} (w : World) (h : PairsAt w v l) (he : triE l = e) : Gives Try.prog 38 #[v] w (.int .i64 e) := he ▸ triErr_calls v l w h
end Go.Proofs.Ythiemglckmociaa
