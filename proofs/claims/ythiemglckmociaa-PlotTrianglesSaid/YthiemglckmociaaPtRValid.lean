/- What Validate of the reference of package plot gives where no corner lies twice. Conditions: the list lies in memory as said. -/
import Derived.Test.YthiemglckmociaaPtRValid0
namespace Go.Proofs.Ythiemglckmociaa
open Go.RowKit Go.Shelf
attribute [local go_sem high] eql_pt eqg_pt


set_option maxHeartbeats 4000000 in
set_option maxRecDepth 100000 in
theorem rvalid_rest (v : Value) (l : List (Int × Int)) (w : World) (h : PairsAt w v l) (h1 : 3 ≤ l.length) (h2 : l.length ≤ 10) (hr : rangedB l = true) (hd : dupB l = false) :
    Gives Try.prog 28 #[v] w (.int .i64 (vcode (crossB l))) := by
  have HP := Lib.hid h
  obtain ⟨sa, cap, rfl, hlc, hcm, _⟩ := h
  unfold Gives
  have HD0 := Lib.hid hd
  clear hd
  have HBD := Lib.hid (show ∀ i, bdP (cor l i) from fun i => rng_bd hr i (by omega))
  have hb : betw 3 (l.length : Int) 10 = true := by
    unfold betw
    rw [decide_eq_true (p := (3 : Int) ≤ l.length) (by omega), decide_eq_true (p := (l.length : Int) ≤ 10) (by omega)]; rfl
  have HB := Lib.hid hb
  clear hb
  have HR := Lib.hid hr
  clear hr
  go_enter Try.func28, Try.ntmps28
  go_wp2_with (first | (go_at_call 69; (with_reducible refine (rWithin_is _ HB.out).use ?_); intro w1 hb1 hz1 hc1 hf1) | (go_at_call 70; refine (ranged_is _ (HP.out.below (by (repeat' (first | exact Below.refl _ _ | assumption | refine below_new ?_ _ | refine below_draw ?_ | refine below_tail (by assumption) ?_ | refine below_set ?_ (by first | omega | (simp <;> omega)) _)))) HR.out).use ?_; intro w2 hb2 hz2 hc2 hf2))
  have hB2 : Below w.heap.size w w2 := by (repeat' (first | exact Below.refl _ _ | assumption | refine below_new ?_ _ | refine below_draw ?_ | refine below_tail (by assumption) ?_ | refine below_set ?_ (by first | omega | (simp <;> omega)) _))
  clear hb1 hz1 hc1 hf1 hb2 hz2 hc2 hf2
  go_loopw [4] (fun i wr => ∃ k : Nat, k ≤ l.length ∧ i = .int .i64 k ∧ Hid (noDup l k) ∧ Below w.heap.size w wr) (fun i _ => l.length - (intOf i).toNat)
  case atStart => exact ⟨0, Nat.zero_le _, rfl, fun i hi => absurd hi (by omega), hB2⟩
  case round =>
    clear hB2
    obtain ⟨k, hk, rfl, u0, hB⟩ := hrel
    by_cases hlt : k < l.length
    · go_wp2
      obtain ⟨wo, rfl⟩ : ∃ wo : World, wo = wr := ⟨_, rfl⟩
      have HDN := Lib.hid (anyN_true (f := fun i => anyN (fun j => cor l i == cor l j) i) hlt)
      go_loopw [5] (fun i wr => ∃ j : Nat, j ≤ k ∧ i = .int .i64 j ∧ Hid (∀ q, q < j → (cor l k == cor l q) = false) ∧ Below w.heap.size w wr) (fun i _ => k - (intOf i).toNat)
      case atStart => exact ⟨0, Nat.zero_le _, rfl, fun i hi => absurd hi (by omega), hB⟩
      case round =>
        clear hB
        obtain ⟨j, hj, rfl, u1, hB⟩ := hrel
        by_cases hlt2 : j < k
        · have HP2 := HP.out.below hB
          obtain ⟨b0, o0, hsa, hb2, c0, c1⟩ := HP2.cellAt hlt
          obtain ⟨b0', o0', hsa', _, c2, c3⟩ := HP2.cellAt (m := j) (by omega)
          subst hsa
          cases hsa'
          clear HP2
          have E0 := cor_lt hlt
          have E1 := cor_lt (l := l) (i := j) (by omega)
          rw [← E0] at c0 c1
          rw [← E1] at c2 c3
          clear E0 E1
          have HAJ := Lib.hid (anyN_true (f := fun q => cor l k == cor l q) hlt2)
          obtain ⟨pa, hpa⟩ : ∃ p, cor l k = p := ⟨_, rfl⟩
          obtain ⟨pb, hpb⟩ : ∃ p, cor l j = p := ⟨_, rfl⟩
          rw [hpa] at c0 c1
          rw [hpb] at c2 c3
          have HPA := Lib.hid hpa
          have HPB := Lib.hid hpb
          clear hpa hpb
          have q0 := fun dr os => cell_regrown c0 dr os
          have q1 := fun dr os => cell_regrown c1 dr os
          have q2 := fun dr os => cell_regrown c2 dr os
          have q3 := fun dr os => cell_regrown c3 dr os
          cases hx : (pa == pb)
          · have HX := Lib.hid hx
            go_wp2
            refine region_q mixed (by kernel_rfl) ?_
            repeat (go_big_quiet_step (fail))
            refine wpQuiet_nil ?_
            intro wq hbq
            clear q0 q1 q2 q3
            go_wp2
            go_roundw
            case rel => exact ⟨j + 1, by omega, by go_num, fun q hq => (Nat.lt_succ_iff_lt_or_eq.1 hq).elim (u1.out q) (fun e => by subst e; rw [HPA.out, HPB.out]; exact HX.out), below_tail hbq hB⟩
            case measure => simp [intOf]; omega
          · have HX := Lib.hid hx
            exfalso
            have := anyN_none (anyN_none HD0.out k hlt) j hlt2
            rw [HPA.out, HPB.out, hx] at this
            cases this
        · obtain rfl : j = k := by omega
          go_wp2
          go_roundw
          case rel => exact ⟨j + 1, by omega, by go_num, fun i hi => (Nat.lt_succ_iff_lt_or_eq.1 hi).elim (u0.out i) (fun e => by subst e; exact anyN_false u1.out), hB⟩
          case measure => simp [intOf]; omega
    · obtain rfl : k = l.length := by omega
      clear u0
      have HCB : Hid (crossB l = anyN (fun i => spikeB l i || anyN (fun k => crossR l i k) l.length) l.length) := rfl
      have hl00 : ¬ l = [] := fun e => by rw [e] at h1; simp at h1
      go_wp2
      go_loopw [6] (fun i wr => ∃ k : Nat, k ≤ l.length ∧ i = .int .i64 k ∧ Hid (∀ i, i < k → (spikeB l i || anyN (fun j => crossR l i j) l.length) = false) ∧ Below w.heap.size w wr) (fun i _ => l.length - (intOf i).toNat)
      case atStart => exact ⟨0, Nat.zero_le _, rfl, fun i hi => absurd hi (by omega), hB⟩
      case round =>
        clear hB
        obtain ⟨k, hk, rfl, u0, hB⟩ := hrel
        by_cases hlt : k < l.length
        · obtain ⟨m1, hm1, hm1l, hm1c⟩ := cor_at (l := l) k 1 (by omega)
          obtain ⟨m2, hm2, hm2l, hm2c⟩ := cor_at (l := l) k 2 (by omega)
          have hm1n : (k + 1) % l.length = m1 := by have h : (((k + 1) % l.length : Nat) : Int) = (m1 : Int) := by rw [Int.natCast_emod]; exact hm1
                                                    exact_mod_cast h
          have hm1 : ((k : Int) + 1) % (l.length : Int) = (m1 : Int) := hm1
          have hm2 : ((k : Int) + 2) % (l.length : Int) = (m2 : Int) := hm2
          have hr1 : ((k : Int) + 1).tmod (l.length : Int) = (m1 : Int) := by rw [Int.tmod_eq_emod_of_nonneg (by omega)]; exact hm1
          have hr2 : ((k : Int) + 2).tmod (l.length : Int) = (m2 : Int) := by rw [Int.tmod_eq_emod_of_nonneg (by omega)]; exact hm2
          have E0 := cor_lt hlt
          have HCE := Lib.hid (And.intro E0 (And.intro hm1c hm2c))
          clear E0 hm1c hm2c
          have HA := HBD.out k
          have HB2 := HBD.out (k + 1)
          have HC := HBD.out (k + 2)
          have HCT := Lib.hid (anyN_true (f := fun i => spikeB l i || anyN (fun j => crossR l i j) l.length) hlt)
          obtain ⟨sb, hsb⟩ : ∃ b, backB (cor l (k + 1)) (cor l k) (cor l (k + 2)) = b := ⟨_, rfl⟩
          have HSB := Lib.hid hsb
          have hsp : spikeB l k = sb := hsb
          have HSP := Lib.hid hsp
          have hcr : ∀ j, crossR l k j = (((decide (j ≠ k) && decide (j ≠ m1)) && decide (k ≠ (j + 1) % l.length)) && touchB (cor l k) (cor l (k + 1)) (cor l j) (cor l (j + 1))) := fun j => by unfold crossR; rw [hm1n]; rfl
          have HCR := Lib.hid hcr
          clear hsb hsp hcr hm1n
          have HP2 := HP.out.below hB
          obtain ⟨b0, o0, hsa, hb2, c0, c1⟩ := HP2.cellAt hlt
          obtain ⟨b0', o0', hsa', _, c2, c3⟩ := HP2.cellAt hm1l
          subst hsa
          cases hsa'
          obtain ⟨b0', o0', hsa', _, c4, c5⟩ := HP2.cellAt hm2l
          cases hsa'
          clear HP2
          rw [← HCE.out.1] at c0 c1
          rw [← HCE.out.2.1] at c2 c3
          rw [← HCE.out.2.2] at c4 c5
          have qc0 := fun dr os => cell_regrown c0 dr os
          have qc1 := fun dr os => cell_regrown c1 dr os
          have qc2 := fun dr os => cell_regrown c2 dr os
          have qc3 := fun dr os => cell_regrown c3 dr os
          have qc4 := fun dr os => cell_regrown c4 dr os
          have qc5 := fun dr os => cell_regrown c5 dr os
          go_wp2
          have hw1 : IntKind.i64.wrap ((k : Int) + 1) = (k : Int) + 1 := IntWalk.i64_in _ (by omega)
          have hw2 : IntKind.i64.wrap ((k : Int) + 2) = (k : Int) + 2 := IntWalk.i64_in _ (by omega)
          refine region_q mixed (by kernel_rfl) ?_
          repeat (go_big_quiet_step (first | (go_at_call 71; exact Calls.regrown_of (rback_is _ HB2 HA HC HSB.out))))
          refine wpQuiet_nil ?_
          intro wq hbq
          clear hw1 hw2 qc0 qc1 qc2 qc3 qc4 qc5 hr2
          replace hB := below_tail hbq hB
          clear hbq c0 c1 c2 c3 c4 c5
          cases sb
          case true =>
            have hcb : crossB l = true := by rw [HCB.out]; exact HCT.out (or_l HSP.out)
            have HCBT := Lib.hid hcb
            clear hcb
            go_wp2
            go_ret
            exact ⟨ret_int (by rw [HCBT.out]; rfl), hB⟩
          case false =>
            go_wp2
            obtain ⟨wo, rfl⟩ : ∃ wo : World, wo = wq := ⟨_, rfl⟩
            go_loopw [7] (fun i wr => ∃ j : Nat, j ≤ l.length ∧ i = .int .i64 j ∧ Hid (∀ q, q < j → crossR l k q = false) ∧ Below w.heap.size w wr) (fun i _ => l.length - (intOf i).toNat)
            case atStart => exact ⟨0, Nat.zero_le _, rfl, fun i hi => absurd hi (by omega), hB⟩
            case round =>
              clear hB
              obtain ⟨j, hj, rfl, u1, hB⟩ := hrel
              by_cases hlt2 : j < l.length
              · obtain ⟨mj, hmj, hmjl, hmjc⟩ := cor_at (l := l) j 1 (by omega)
                have hmjn : (j + 1) % l.length = mj := by have h : (((j + 1) % l.length : Nat) : Int) = (mj : Int) := by rw [Int.natCast_emod]; exact hmj
                                                          exact_mod_cast h
                have hmj : ((j : Int) + 1) % (l.length : Int) = (mj : Int) := hmj
                have hr3 : ((j : Int) + 1).tmod (l.length : Int) = (mj : Int) := by rw [Int.tmod_eq_emod_of_nonneg (by omega)]; exact hmj
                have hj1 := HCR.out j
                rw [hmjn] at hj1
                obtain ⟨tb, htb⟩ : ∃ b, touchB (cor l k) (cor l (k + 1)) (cor l j) (cor l (j + 1)) = b := ⟨_, rfl⟩
                rw [htb] at hj1
                have HTB := Lib.hid htb
                have HJ := Lib.hid hj1
                have HAN2 := Lib.hid (anyN_true (f := fun j => crossR l k j) hlt2)
                clear htb hj1 hmjn
                have HD := HBD.out j
                have HE := HBD.out (j + 1)
                have HB := HB2
                have HP2 := HP.out.below hB
                obtain ⟨b0', o0', hsa', hb2, c0, c1⟩ := HP2.cellAt hlt
                cases hsa'
                obtain ⟨b0', o0', hsa', _, c2, c3⟩ := HP2.cellAt hm1l
                cases hsa'
                obtain ⟨b0', o0', hsa', _, e0, e1⟩ := HP2.cellAt hlt2
                cases hsa'
                obtain ⟨b0', o0', hsa', _, e2, e3⟩ := HP2.cellAt hmjl
                cases hsa'
                clear HP2
                rw [← HCE.out.1] at c0 c1
                rw [← HCE.out.2.1] at c2 c3
                have E0 := cor_lt hlt2
                rw [← E0] at e0 e1
                rw [← hmjc] at e2 e3
                clear E0 hmjc
                by_cases hc1 : j = k
                · skip
                  have x1 : ((j : Int) != (k : Int)) = false := by simp [hc1]
                  have x1e : ((j : Int) == (k : Int)) = true := by simp [hc1]
                  have y1 : decide (j ≠ k) = false := decide_eq_false (by simp [hc1])
                  have HC1 := Lib.hid hc1
                  clear hc1
                  have hcf : crossR l k j = false := by rw [HJ.out]; rw [y1]; rfl
                  have HCF := Lib.hid hcf
                  clear hcf
                  have qc0 := fun dr os => cell_regrown c0 dr os
                  have qc1 := fun dr os => cell_regrown c1 dr os
                  have qc2 := fun dr os => cell_regrown c2 dr os
                  have qc3 := fun dr os => cell_regrown c3 dr os
                  have qe0 := fun dr os => cell_regrown e0 dr os
                  have qe1 := fun dr os => cell_regrown e1 dr os
                  have qe2 := fun dr os => cell_regrown e2 dr os
                  have qe3 := fun dr os => cell_regrown e3 dr os
                  have hw1 : IntKind.i64.wrap ((k : Int) + 1) = (k : Int) + 1 := IntWalk.i64_in _ (by omega)
                  have hw2 : IntKind.i64.wrap ((j : Int) + 1) = (j : Int) + 1 := IntWalk.i64_in _ (by omega)
                  go_wp2
                  refine region_q mixed (by kernel_rfl) ?_
                  repeat (go_big_quiet_step (first | (go_at_call 72; exact Calls.regrown_of (rmeet_is _ HA HB HD HE HTB.out))))
                  refine wpQuiet_nil ?_
                  intro wq hbq
                  clear hw1 hw2 qc0 qc1 qc2 qc3 qe0 qe1 qe2 qe3
                  go_wp2
                  go_roundw
                  case rel => exact ⟨j + 1, by omega, by go_num, fun i hi => (Nat.lt_succ_iff_lt_or_eq.1 hi).elim (u1.out i) (fun e => by subst e; exact HCF.out), below_tail hbq hB⟩
                  case measure => simp [intOf]; omega
                · have x1 : ((j : Int) != (k : Int)) = true := by simp; omega
                  have x1e : ((j : Int) == (k : Int)) = false := by simp; omega
                  have y1 : decide (j ≠ k) = true := decide_eq_true hc1
                  by_cases hc2 : j = m1
                  · skip
                    have x2 : ((j : Int) != (m1 : Int)) = false := by simp [hc2]
                    have x2e : ((j : Int) == (m1 : Int)) = true := by simp [hc2]
                    have y2 : decide (j ≠ m1) = false := decide_eq_false (by simp [hc2])
                    have HC2 := Lib.hid hc2
                    clear hc2
                    have hcf : crossR l k j = false := by rw [HJ.out]; rw [y2, Bool.and_false]; rfl
                    have HCF := Lib.hid hcf
                    clear hcf
                    have qc0 := fun dr os => cell_regrown c0 dr os
                    have qc1 := fun dr os => cell_regrown c1 dr os
                    have qc2 := fun dr os => cell_regrown c2 dr os
                    have qc3 := fun dr os => cell_regrown c3 dr os
                    have qe0 := fun dr os => cell_regrown e0 dr os
                    have qe1 := fun dr os => cell_regrown e1 dr os
                    have qe2 := fun dr os => cell_regrown e2 dr os
                    have qe3 := fun dr os => cell_regrown e3 dr os
                    have hw1 : IntKind.i64.wrap ((k : Int) + 1) = (k : Int) + 1 := IntWalk.i64_in _ (by omega)
                    have hw2 : IntKind.i64.wrap ((j : Int) + 1) = (j : Int) + 1 := IntWalk.i64_in _ (by omega)
                    go_wp2
                    refine region_q mixed (by kernel_rfl) ?_
                    repeat (go_big_quiet_step (first | (go_at_call 72; exact Calls.regrown_of (rmeet_is _ HA HB HD HE HTB.out))))
                    refine wpQuiet_nil ?_
                    intro wq hbq
                    clear hw1 hw2 qc0 qc1 qc2 qc3 qe0 qe1 qe2 qe3
                    go_wp2
                    go_roundw
                    case rel => exact ⟨j + 1, by omega, by go_num, fun i hi => (Nat.lt_succ_iff_lt_or_eq.1 hi).elim (u1.out i) (fun e => by subst e; exact HCF.out), below_tail hbq hB⟩
                    case measure => simp [intOf]; omega
                  · have x2 : ((j : Int) != (m1 : Int)) = true := by simp; omega
                    have x2e : ((j : Int) == (m1 : Int)) = false := by simp; omega
                    have y2 : decide (j ≠ m1) = true := decide_eq_true hc2
                    by_cases hc3 : k = mj
                    · skip
                      have x3 : ((k : Int) != (mj : Int)) = false := by simp [hc3]
                      have x3e : ((k : Int) == (mj : Int)) = true := by simp [hc3]
                      have y3 : decide (k ≠ mj) = false := decide_eq_false (by simp [hc3])
                      have HC3 := Lib.hid hc3
                      clear hc3
                      have hcf : crossR l k j = false := by rw [HJ.out]; rw [y3, Bool.and_false]; rfl
                      have HCF := Lib.hid hcf
                      clear hcf
                      have qc0 := fun dr os => cell_regrown c0 dr os
                      have qc1 := fun dr os => cell_regrown c1 dr os
                      have qc2 := fun dr os => cell_regrown c2 dr os
                      have qc3 := fun dr os => cell_regrown c3 dr os
                      have qe0 := fun dr os => cell_regrown e0 dr os
                      have qe1 := fun dr os => cell_regrown e1 dr os
                      have qe2 := fun dr os => cell_regrown e2 dr os
                      have qe3 := fun dr os => cell_regrown e3 dr os
                      have hw1 : IntKind.i64.wrap ((k : Int) + 1) = (k : Int) + 1 := IntWalk.i64_in _ (by omega)
                      have hw2 : IntKind.i64.wrap ((j : Int) + 1) = (j : Int) + 1 := IntWalk.i64_in _ (by omega)
                      go_wp2
                      refine region_q mixed (by kernel_rfl) ?_
                      repeat (go_big_quiet_step (first | (go_at_call 72; exact Calls.regrown_of (rmeet_is _ HA HB HD HE HTB.out))))
                      refine wpQuiet_nil ?_
                      intro wq hbq
                      clear hw1 hw2 qc0 qc1 qc2 qc3 qe0 qe1 qe2 qe3
                      go_wp2
                      go_roundw
                      case rel => exact ⟨j + 1, by omega, by go_num, fun i hi => (Nat.lt_succ_iff_lt_or_eq.1 hi).elim (u1.out i) (fun e => by subst e; exact HCF.out), below_tail hbq hB⟩
                      case measure => simp [intOf]; omega
                    · have x3 : ((k : Int) != (mj : Int)) = true := by simp; omega
                      have x3e : ((k : Int) == (mj : Int)) = false := by simp; omega
                      have y3 : decide (k ≠ mj) = true := decide_eq_true hc3
                      cases tb
                      · skip
                        have hcf : crossR l k j = false := by rw [HJ.out]; rw [Bool.and_false]
                        have HCF := Lib.hid hcf
                        clear hcf
                        have qc0 := fun dr os => cell_regrown c0 dr os
                        have qc1 := fun dr os => cell_regrown c1 dr os
                        have qc2 := fun dr os => cell_regrown c2 dr os
                        have qc3 := fun dr os => cell_regrown c3 dr os
                        have qe0 := fun dr os => cell_regrown e0 dr os
                        have qe1 := fun dr os => cell_regrown e1 dr os
                        have qe2 := fun dr os => cell_regrown e2 dr os
                        have qe3 := fun dr os => cell_regrown e3 dr os
                        have hw1 : IntKind.i64.wrap ((k : Int) + 1) = (k : Int) + 1 := IntWalk.i64_in _ (by omega)
                        have hw2 : IntKind.i64.wrap ((j : Int) + 1) = (j : Int) + 1 := IntWalk.i64_in _ (by omega)
                        go_wp2
                        refine region_q mixed (by kernel_rfl) ?_
                        repeat (go_big_quiet_step (first | (go_at_call 72; exact Calls.regrown_of (rmeet_is _ HA HB HD HE HTB.out))))
                        refine wpQuiet_nil ?_
                        intro wq hbq
                        clear hw1 hw2 qc0 qc1 qc2 qc3 qe0 qe1 qe2 qe3
                        go_wp2
                        go_roundw
                        case rel => exact ⟨j + 1, by omega, by go_num, fun i hi => (Nat.lt_succ_iff_lt_or_eq.1 hi).elim (u1.out i) (fun e => by subst e; exact HCF.out), below_tail hbq hB⟩
                        case measure => simp [intOf]; omega
                      · skip
                        have hcb : crossB l = true := by
                          rw [HCB.out]; refine HCT.out (or_r (HAN2.out ?_)); show crossR l k j = true; rw [HJ.out, y1, y2, y3]; rfl
                        have HCBT := Lib.hid hcb
                        clear hcb
                        have qc0 := fun dr os => cell_regrown c0 dr os
                        have qc1 := fun dr os => cell_regrown c1 dr os
                        have qc2 := fun dr os => cell_regrown c2 dr os
                        have qc3 := fun dr os => cell_regrown c3 dr os
                        have qe0 := fun dr os => cell_regrown e0 dr os
                        have qe1 := fun dr os => cell_regrown e1 dr os
                        have qe2 := fun dr os => cell_regrown e2 dr os
                        have qe3 := fun dr os => cell_regrown e3 dr os
                        have hw1 : IntKind.i64.wrap ((k : Int) + 1) = (k : Int) + 1 := IntWalk.i64_in _ (by omega)
                        have hw2 : IntKind.i64.wrap ((j : Int) + 1) = (j : Int) + 1 := IntWalk.i64_in _ (by omega)
                        go_wp2
                        refine region_q mixed (by kernel_rfl) ?_
                        repeat (go_big_quiet_step (first | (go_at_call 72; exact Calls.regrown_of (rmeet_is _ HA HB HD HE HTB.out))))
                        refine wpQuiet_nil ?_
                        intro wq hbq
                        clear hw1 hw2 qc0 qc1 qc2 qc3 qe0 qe1 qe2 qe3
                        go_wp2
                        go_ret
                        exact ⟨ret_int (by rw [HCBT.out]; rfl), below_tail hbq hB⟩
              · obtain rfl : j = l.length := by omega
                go_wp2
                go_roundw
                case rel => exact ⟨k + 1, by omega, by go_num, fun i hi => (Nat.lt_succ_iff_lt_or_eq.1 hi).elim (u0.out i) (fun e => by subst e; rw [HSP.out, anyN_false u1.out]; rfl), hB⟩
                case measure => simp [intOf]; omega
        · obtain rfl : k = l.length := by omega
          have hcb : crossB l = false := by rw [HCB.out]; exact anyN_false u0.out
          have HCBF := Lib.hid hcb
          clear hcb u0
          go_wp2
          go_ret
          exact ⟨ret_int (by rw [HCBF.out]; rfl), hB⟩

end Go.Proofs.Ythiemglckmociaa
