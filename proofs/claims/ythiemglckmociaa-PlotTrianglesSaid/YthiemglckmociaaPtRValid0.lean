/- What Validate of the reference of package plot gives. Conditions: the list lies in memory as said. -/
import Derived.Test.YthiemglckmociaaPtValid0
namespace Go.Proofs.Ythiemglckmociaa
open Go.RowKit Go.Shelf

attribute [local go_sem high] eql_pt eqg_pt

theorem ranged_is {v : Value} {l : List (Int × Int)} {t : Bool} (w : World) (h : PairsAt w v l) (ht : rangedB l = t) : Gives Try.prog 70 #[v] w (.bool t) := ht ▸ ranged_calls v l w h

set_option maxHeartbeats 4000000 in
set_option maxRecDepth 100000 in
theorem rvalid_len (v : Value) (l : List (Int × Int)) (w : World) (h : PairsAt w v l) (hl : l.length < 3 ∨ 10 < l.length) :
    Gives Try.prog 28 #[v] w (.int .i64 3) := by
  have HP := Lib.hid h
  obtain ⟨sa, cap, rfl, hlc, hcm, _⟩ := h
  unfold Gives
  have hb : betw 3 (l.length : Int) 10 = false := by
    unfold betw
    rcases hl with h1 | h1
    · rw [decide_eq_false (p := (3 : Int) ≤ l.length) (by omega), Bool.false_and]
    · rw [decide_eq_false (p := (l.length : Int) ≤ 10) (by omega), Bool.and_false]
  have HB := Lib.hid hb
  clear hb
  go_enter Try.func28, Try.ntmps28
  go_wp2_with (go_at_call 69; (with_reducible refine (rWithin_is _ HB.out).use ?_); intro w1 hb1 hz1 hc1 hf1)
  go_ret
  exact ⟨rfl, by (repeat' (first | exact Below.refl _ _ | assumption | refine below_new ?_ _ | refine below_draw ?_ | refine below_tail (by assumption) ?_ | refine below_set ?_ (by first | omega | (simp <;> omega)) _))⟩

set_option maxHeartbeats 4000000 in
set_option maxRecDepth 100000 in
theorem rvalid_rng (v : Value) (l : List (Int × Int)) (w : World) (h : PairsAt w v l) (h1 : 3 ≤ l.length) (h2 : l.length ≤ 10) (hr : rangedB l = false) :
    Gives Try.prog 28 #[v] w (.int .i64 1) := by
  have HP := Lib.hid h
  obtain ⟨sa, cap, rfl, hlc, hcm, _⟩ := h
  unfold Gives
  have hb : betw 3 (l.length : Int) 10 = true := by
    unfold betw
    rw [decide_eq_true (p := (3 : Int) ≤ l.length) (by omega), decide_eq_true (p := (l.length : Int) ≤ 10) (by omega)]; rfl
  have HB := Lib.hid hb
  clear hb
  have HR := Lib.hid hr
  clear hr
  go_enter Try.func28, Try.ntmps28
  go_wp2_with (first | (go_at_call 69; (with_reducible refine (rWithin_is _ HB.out).use ?_); intro w1 hb1 hz1 hc1 hf1) | (go_at_call 70; refine (ranged_is _ (HP.out.below (by (repeat' (first | exact Below.refl _ _ | assumption | refine below_new ?_ _ | refine below_draw ?_ | refine below_tail (by assumption) ?_ | refine below_set ?_ (by first | omega | (simp <;> omega)) _)))) HR.out).use ?_; intro w2 hb2 hz2 hc2 hf2))
  go_ret
  exact ⟨rfl, by (repeat' (first | exact Below.refl _ _ | assumption | refine below_new ?_ _ | refine below_draw ?_ | refine below_tail (by assumption) ?_ | refine below_set ?_ (by first | omega | (simp <;> omega)) _))⟩

set_option maxHeartbeats 4000000 in
set_option maxRecDepth 100000 in
theorem rvalid_dup (v : Value) (l : List (Int × Int)) (w : World) (h : PairsAt w v l) (h1 : 3 ≤ l.length) (h2 : l.length ≤ 10) (hr : rangedB l = true) (hd : dupB l = true) :
    Gives Try.prog 28 #[v] w (.int .i64 6) := by
  have HP := Lib.hid h
  obtain ⟨sa, cap, rfl, hlc, hcm, _⟩ := h
  unfold Gives
  have HD := Lib.hid hd
  clear hd
  have hb : betw 3 (l.length : Int) 10 = true := by
    unfold betw
    rw [decide_eq_true (p := (3 : Int) ≤ l.length) (by omega), decide_eq_true (p := (l.length : Int) ≤ 10) (by omega)]; rfl
  have HB := Lib.hid hb
  clear hb
  have HR := Lib.hid hr
  clear hr
  go_enter Try.func28, Try.ntmps28
  go_wp2_with (first | (go_at_call 69; (with_reducible refine (rWithin_is _ HB.out).use ?_); intro w1 hb1 hz1 hc1 hf1) | (go_at_call 70; refine (ranged_is _ (HP.out.below (by (repeat' (first | exact Below.refl _ _ | assumption | refine below_new ?_ _ | refine below_draw ?_ | refine below_tail (by assumption) ?_ | refine below_set ?_ (by first | omega | (simp <;> omega)) _)))) HR.out).use ?_; intro w2 hb2 hz2 hc2 hf2))
  have hB2 : Below w.heap.size w w2 := by (repeat' (first | exact Below.refl _ _ | assumption | refine below_new ?_ _ | refine below_draw ?_ | refine below_tail (by assumption) ?_ | refine below_set ?_ (by first | omega | (simp <;> omega)) _))
  clear hb1 hz1 hc1 hf1 hb2 hz2 hc2 hf2
  go_loopw [4] (fun i wr => ∃ k : Nat, k ≤ l.length ∧ i = .int .i64 k ∧ Hid (noDup l k) ∧ Below w.heap.size w wr) (fun i _ => l.length - (intOf i).toNat)
  case atStart => exact ⟨0, Nat.zero_le _, rfl, fun i hi => absurd hi (by omega), hB2⟩
  case round =>
    clear hB2
    obtain ⟨k, hk, rfl, u0, hB⟩ := hrel
    by_cases hlt : k < l.length
    · go_wp2
      obtain ⟨wo, rfl⟩ : ∃ wo : World, wo = wr := ⟨_, rfl⟩
      have HDN := Lib.hid (anyN_true (f := fun i => anyN (fun j => cor l i == cor l j) i) hlt)
      go_loopw [5] (fun i wr => ∃ j : Nat, j ≤ k ∧ i = .int .i64 j ∧ Hid (∀ q, q < j → (cor l k == cor l q) = false) ∧ Below w.heap.size w wr) (fun i _ => k - (intOf i).toNat)
      case atStart => exact ⟨0, Nat.zero_le _, rfl, fun i hi => absurd hi (by omega), hB⟩
      case round =>
        clear hB
        obtain ⟨j, hj, rfl, u1, hB⟩ := hrel
        by_cases hlt2 : j < k
        · have HP2 := HP.out.below hB
          obtain ⟨b0, o0, hsa, hb2, c0, c1⟩ := HP2.cellAt hlt
          obtain ⟨b0', o0', hsa', _, c2, c3⟩ := HP2.cellAt (m := j) (by omega)
          subst hsa
          cases hsa'
          clear HP2
          have E0 := cor_lt hlt
          have E1 := cor_lt (l := l) (i := j) (by omega)
          rw [← E0] at c0 c1
          rw [← E1] at c2 c3
          clear E0 E1
          have HAJ := Lib.hid (anyN_true (f := fun q => cor l k == cor l q) hlt2)
          obtain ⟨pa, hpa⟩ : ∃ p, cor l k = p := ⟨_, rfl⟩
          obtain ⟨pb, hpb⟩ : ∃ p, cor l j = p := ⟨_, rfl⟩
          rw [hpa] at c0 c1
          rw [hpb] at c2 c3
          have HPA := Lib.hid hpa
          have HPB := Lib.hid hpb
          clear hpa hpb
          have q0 := fun dr os => cell_regrown c0 dr os
          have q1 := fun dr os => cell_regrown c1 dr os
          have q2 := fun dr os => cell_regrown c2 dr os
          have q3 := fun dr os => cell_regrown c3 dr os
          cases hx : (pa == pb)
          · have HX := Lib.hid hx
            go_wp2
            refine region_q mixed (by kernel_rfl) ?_
            repeat (go_big_quiet_step (fail))
            refine wpQuiet_nil ?_
            intro wq hbq
            clear q0 q1 q2 q3
            go_wp2
            go_roundw
            case rel => exact ⟨j + 1, by omega, by go_num, fun q hq => (Nat.lt_succ_iff_lt_or_eq.1 hq).elim (u1.out q) (fun e => by subst e; rw [HPA.out, HPB.out]; exact HX.out), below_tail hbq hB⟩
            case measure => simp [intOf]; omega
          · have HX := Lib.hid hx
            go_wp2
            refine region_q mixed (by kernel_rfl) ?_
            repeat (go_big_quiet_step (fail))
            refine wpQuiet_nil ?_
            intro wq hbq
            clear q0 q1 q2 q3
            go_wp2
            go_ret
            exact ⟨rfl, below_tail hbq hB⟩
        · obtain rfl : j = k := by omega
          go_wp2
          go_roundw
          case rel => exact ⟨j + 1, by omega, by go_num, fun i hi => (Nat.lt_succ_iff_lt_or_eq.1 hi).elim (u0.out i) (fun e => by subst e; exact anyN_false u1.out), hB⟩
          case measure => simp [intOf]; omega
    · obtain rfl : k = l.length := by omega
      exfalso
      have := HD.out
      unfold dupB at this
      rw [anyN_false u0.out] at this
      cases this

end Go.Proofs.Ythiemglckmociaa
