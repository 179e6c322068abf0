/- What ranged and twice of the reference of package plot give. Conditions: coordinates are small; the list lies in memory as said. -/
import Derived.Test.YthiemglckmociaaPtSide
namespace Go.Proofs.Ythiemglckmociaa
open Go.RowKit Go.Shelf

theorem inR_betw (x : Int × Int) : inR x = (betw (-30) x.1 30 && betw (-30) x.2 30) := by
  rw [Bool.eq_iff_iff, inR_iff]; unfold betw; simp
/-- All corners before k are in range. -/
def rngTo (l : List (Int × Int)) (k : Nat) : Prop := ∀ j, j < k → inR (gi l (0, 0) j) = true
theorem rngTo_all {l : List (Int × Int)} (h : rngTo l l.length) : rangedB l = true := by
  refine List.all_eq_true.2 fun x hx => ?_
  obtain ⟨i, hi, rfl⟩ := List.getElem_of_mem hx
  rw [← gi_lt (d := (0, 0)) hi]; exact h i hi
theorem rngTo_no {l : List (Int × Int)} {k : Nat} (hk : k < l.length) (h : inR (gi l (0, 0) k) = false) : rangedB l = false := by
  unfold rangedB
  rw [List.all_eq_false]
  exact ⟨gi l (0, 0) k, by rw [gi_lt hk]; exact List.getElem_mem _, by simp [h]⟩

set_option maxHeartbeats 1000000 in
theorem ranged_calls (v : Value) (l : List (Int × Int)) (w : World) (h : PairsAt w v l) :
    Gives Try.prog 70 #[v] w (.bool (rangedB l)) := by
  have HP := Lib.hid h
  obtain ⟨sa, cap, rfl, hlc, hcm, _⟩ := h
  unfold Gives
  go_enter Try.func70, Try.ntmps70
  go_wp2
  go_loopw [3] (fun i wr => ∃ k : Nat, k ≤ l.length ∧ i = .int .i64 k ∧ Hid (rngTo l k) ∧ Below w.heap.size w wr) (fun i _ => l.length - (intOf i).toNat)
  case atStart => exact ⟨0, Nat.zero_le _, rfl, fun j hj => absurd hj (by omega), Below.refl _ _⟩
  case round =>
    obtain ⟨k, hk, rfl, u0, hB⟩ := hrel
    by_cases hlt : k < l.length
    · have HP2 := HP.out.below hB
      obtain ⟨b0, o0, rfl, hb2, c0, c1⟩ := HP2.cellAt hlt
      clear HP2
      have HI := Lib.hid (inR_betw (gi l (0, 0) k))
      have HN := Lib.hid (rngTo_no hlt)
      obtain ⟨b1, hb1⟩ : ∃ b, betw (-30) (gi l (0, 0) k).1 30 = b := ⟨_, rfl⟩
      obtain ⟨b2, hb2⟩ : ∃ b, betw (-30) (gi l (0, 0) k).2 30 = b := ⟨_, rfl⟩
      have H1 := Lib.hid hb1
      have H2 := Lib.hid hb2
      clear hb1 hb2
      cases b1
      · go_wp2_with (go_at_call 69; (with_reducible refine (rWithin_is _ H1.out).use ?_); intro w1 hb1 hz1 hc1 hf1)
        go_ret
        exact ⟨ret_bool (by rw [HN.out (by rw [HI.out, H1.out]; rfl)]), by (repeat' (first | exact Below.refl _ _ | assumption | refine below_new ?_ _ | refine below_draw ?_ | refine below_tail (by assumption) ?_ | refine below_set ?_ (by first | omega | (simp <;> omega)) _))⟩
      · cases b2
        · go_wp2_with (first | (go_at_call 69; (with_reducible refine (rWithin_is _ H1.out).use ?_); intro w1 hb1 hz1 hc1 hf1; have c2 := (hc1 b0 (o0 + k * 2 + 1) (by omega)).trans c1) | (go_at_call 69; (with_reducible refine (rWithin_is _ H2.out).use ?_); intro w2 hb2 hz2 hc2 hf2))
          go_ret
          exact ⟨ret_bool (by rw [HN.out (by rw [HI.out, H1.out, H2.out]; rfl)]), by (repeat' (first | exact Below.refl _ _ | assumption | refine below_new ?_ _ | refine below_draw ?_ | refine below_tail (by assumption) ?_ | refine below_set ?_ (by first | omega | (simp <;> omega)) _))⟩
        · go_wp2_with (first | (go_at_call 69; (with_reducible refine (rWithin_is _ H1.out).use ?_); intro w1 hb1 hz1 hc1 hf1; have c2 := (hc1 b0 (o0 + k * 2 + 1) (by omega)).trans c1) | (go_at_call 69; (with_reducible refine (rWithin_is _ H2.out).use ?_); intro w2 hb2 hz2 hc2 hf2))
          go_roundw
          case rel => exact ⟨k + 1, by omega, by go_num, fun j hj => (Nat.lt_succ_iff_lt_or_eq.1 hj).elim (u0.out j) (fun e => by subst e; rw [HI.out, H1.out, H2.out]; rfl), by (repeat' (first | exact Below.refl _ _ | assumption | refine below_new ?_ _ | refine below_draw ?_ | refine below_tail (by assumption) ?_ | refine below_set ?_ (by first | omega | (simp <;> omega)) _))⟩
          case measure => simp [intOf]; omega
    · obtain rfl : k = l.length := by omega
      have HA := Lib.hid (rngTo_all u0.out)
      go_wp2
      go_ret
      exact ⟨ret_bool (by rw [HA.out]), hB⟩

/-- The area of the first k triangles at the first corner. -/
def fanK (l : List (Int × Int)) (k : Nat) : Int := sumN (fun j => turn (cor l 0) (cor l (j + 1)) (cor l (j + 2))) k
theorem fanK_succ (l : List (Int × Int)) (k : Nat) : fanK l (k + 1) = fanK l k + turn (cor l 0) (cor l (k + 1)) (cor l (k + 2)) := rfl
theorem fanK_bd {l : List (Int × Int)} (h : ∀ i, bdP (cor l i)) : ∀ k : Nat, -32000000 * k ≤ fanK l k ∧ fanK l k ≤ 32000000 * k
  | 0 => by simp [fanK, sumN]
  | k + 1 => by
    have := fanK_bd h k
    have := turn_bd (h 0) (h (k + 1)) (h (k + 2))
    unfold fanK sumN
    unfold fanK at *
    omega
theorem fan_area (l : List (Int × Int)) : ∀ k : Nat, fanK l k = areaK l (k + 1) + cross2 (cor l (k + 1)) (cor l 0)
  | 0 => by unfold fanK areaK sumN sumN cross2; grind
  | k + 1 => by
    rw [fanK_succ, fan_area l k, areaK_succ l (k + 1)]
    unfold cross2 turn; grind
theorem fan_eq {l : List (Int × Int)} (h : 2 ≤ l.length) : fanK l (l.length - 2) = areaK l l.length := by
  rw [fan_area]
  have e : l.length - 2 + 1 = l.length - 1 := by omega
  rw [e]
  have e2 := areaK_succ l (l.length - 1)
  rw [show l.length - 1 + 1 = l.length by omega] at e2
  have e3 := cor_per l 0
  rw [Nat.zero_add] at e3
  rw [e2, e3]

set_option maxHeartbeats 1000000 in
theorem rtwice_calls (v : Value) (l : List (Int × Int)) (w : World) (h : PairsAt w v l) (h0 : 2 ≤ l.length) (h1 : l.length ≤ 1000) (hbd : ∀ i, bdP (cor l i)) :
    Gives Try.prog 61 #[v] w (.int .i64 (areaK l l.length)) := by
  have HP := Lib.hid h
  have HBD := Lib.hid hbd
  have HF := Lib.hid (fan_eq h0)
  obtain ⟨sa, cap, rfl, hlc, hcm, _⟩ := h
  clear hbd
  unfold Gives
  go_enter Try.func61, Try.ntmps61
  go_wp2
  go_loopw [3, 4] (fun s i wr => ∃ k : Nat, 1 ≤ k ∧ k + 1 ≤ l.length ∧ i = .int .i64 k ∧ s = .int .i64 (fanK l (k - 1)) ∧ Below w.heap.size w wr) (fun _ i _ => l.length - (intOf i).toNat)
  case atStart => exact ⟨1, by omega, by omega, rfl, rfl, Below.refl _ _⟩
  case round =>
    obtain ⟨k, hk1, hk, rfl, rfl, hB⟩ := hrel
    have hfb := fanK_bd HBD.out (k - 1)
    have hs := fanK_succ l (k - 1)
    rw [show k - 1 + 1 = k by omega, show k - 1 + 2 = k + 1 by omega] at hs
    obtain ⟨fv, hfv⟩ : ∃ f, fanK l (k - 1) = f := ⟨_, rfl⟩
    rw [hfv] at hfb hs
    rw [hfv]
    have HFV := Lib.hid hfv
    have HS := Lib.hid hs
    clear hfv hs
    by_cases hlt : k + 1 < l.length
    · have HP2 := HP.out.below hB
      obtain ⟨b0, o0, e0, hb2, c0, c1⟩ := HP2.cellAt (m := 0) (by omega)
      obtain ⟨b0', o0', e1, _, c2, c3⟩ := HP2.cellAt (m := k) (by omega)
      subst e0
      cases e1
      obtain ⟨b0', o0', e1, _, c4, c5⟩ := HP2.cellAt (m := k + 1) (by omega)
      cases e1
      clear HP2
      have E0 := cor_lt (l := l) (i := 0) (by omega)
      have E1 := cor_lt (l := l) (i := k) (by omega)
      have E2 := cor_lt (l := l) (i := k + 1) (by omega)
      rw [← E0] at c0 c1
      rw [← E1] at c2 c3
      rw [← E2] at c4 c5
      clear E0 E1 E2
      have HA := HBD.out 0
      have HB := HBD.out k
      have HC := HBD.out (k + 1)
      have htb := turn_bd HA HB HC
      generalize hpa : cor l 0 = pa at *
      generalize hpb : cor l k = pb at *
      generalize hpc : cor l (k + 1) = pc at *
      obtain ⟨t, ht⟩ : ∃ t, turn pa pb pc = t := ⟨_, rfl⟩
      rw [ht] at htb
      have HT := Lib.hid ht
      clear ht hpa hpb hpc
      simp only [Nat.zero_mul, Nat.add_zero] at c0 c1
      have q0 := fun dr os => cell_regrown c0 dr os
      have q1 := fun dr os => cell_regrown c1 dr os
      have q2 := fun dr os => cell_regrown c2 dr os
      have q3 := fun dr os => cell_regrown c3 dr os
      have q4 := fun dr os => cell_regrown c4 dr os
      have q5 := fun dr os => cell_regrown c5 dr os
      go_wp2
      have hw1 : IntKind.i64.wrap ((k : Int) + 1) = (k : Int) + 1 := IntWalk.i64_in _ (by omega)
      have hw2 : IntKind.i64.wrap (fv + t) = fv + t := IntWalk.i64_in _ (by omega)
      refine region_q mixed (by kernel_rfl) ?_
      repeat (go_big_quiet_step ((go_at_call 89; exact Calls.regrown_of (rturn_is _ HA HB HC HT.out))))
      refine wpQuiet_nil ?_
      intro wq hbq
      clear hw1 hw2 q0 q1 q2 q3 q4 q5
      go_wp2
      go_roundw
      case rel => exact ⟨k + 1, by omega, by omega, by go_num, by rw [show k + 1 - 1 = k by omega, HS.out, HT.out], by (repeat' (first | exact Below.refl _ _ | assumption | refine below_new ?_ _ | refine below_draw ?_ | refine below_tail (by assumption) ?_ | refine below_set ?_ (by first | omega | (simp <;> omega)) _))⟩
      case measure => simp [intOf]; omega
    · have hk2 : k - 1 = l.length - 2 := by omega
      have HK2 := Lib.hid hk2
      clear hk2
      go_wp2
      go_ret
      exact ⟨ret_int (by rw [← HFV.out, HK2.out, HF.out]), hB⟩
end Go.Proofs.Ythiemglckmociaa
