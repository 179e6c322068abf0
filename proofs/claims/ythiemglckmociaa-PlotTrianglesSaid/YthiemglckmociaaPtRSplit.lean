/- What splits of the document gives. Conditions: the list lies in memory as said and is a plot; the corners are there. -/
import Derived.Test.YthiemglckmociaaPtRQuarter
import Derived.Test.YthiemglckmociaaPtCutA
import Derived.Test.YthiemglckmociaaPtKnown
import Derived.Shelf.RegionOpenPlain
import Derived.Deep.RegionHeld3
namespace Go.Proofs.Ythiemglckmociaa
open Go.RowKit

/-- Does side k, at its end c0, lead along the line from c0 to c1? -/
def refC (l : List (Int × Int)) (c0 c1 k : Nat) : Bool :=
  (decide (k = c0) && backB (gi l (0, 0) c0) (gi l (0, 0) ((k + 1) % l.length)) (gi l (0, 0) c1)) || (decide ((k + 1) % l.length = c0) && backB (gi l (0, 0) c0) (gi l (0, 0) k) (gi l (0, 0) c1))
def refT (l : List (Int × Int)) (i j k : Nat) : Bool :=
  decide (k ≠ i) && (decide (k ≠ j) && (decide ((k + 1) % l.length ≠ i) && (decide ((k + 1) % l.length ≠ j) && touchB (gi l (0, 0) k) (gi l (0, 0) ((k + 1) % l.length)) (gi l (0, 0) i) (gi l (0, 0) j))))
theorem cut_ref {l : List (Int × Int)} (hv : Valid l) {i j k : Nat} (hi : i < l.length) (hj : j < l.length) (hn : nextTo l.length i j = false) (hk : k < l.length) :
    cutB l i j k = (refC l i j k || (refC l j i k || refT l i j k)) := by
  have h3 := hv.lo
  simp only [nextTo, Bool.or_eq_false_iff, beq_eq_false_iff_ne] at hn
  obtain ⟨⟨n1, n2⟩, n3⟩ := hn
  have hm : (k + 1) % l.length < l.length := Nat.mod_lt _ (by omega)
  have eb : cor l (k + 1) = gi l (0, 0) ((k + 1) % l.length) := rfl
  have hkk : (k + 1) % l.length ≠ k := by
    rcases Nat.lt_or_ge (k + 1) l.length with c | c
    · rw [Nat.mod_eq_of_lt c]; omega
    · rw [show k + 1 = l.length by omega, Nat.mod_self]; omega
  unfold cutB refC refT
  rw [cor_lt hi, cor_lt hj, cor_lt hk, eb]
  by_cases c1 : k = i
  · subst c1
    have h1 : ¬ k = j := n1
    simp [hkk, h1, n2]
  · by_cases c2 : k = j
    · subst c2
      have h1 : ¬ k = i := c1
      simp [hkk, h1, n3]
    · by_cases c3 : (k + 1) % l.length = i
      · have h1 : ¬ i = j := n1
        simp [c1, c2, c3, h1]
      · by_cases c4 : (k + 1) % l.length = j
        · have h1 : ¬ j = i := fun e => n1 e.symm
          simp [c1, c2, c4, h1]
        · simp [c1, c2, c3, c4]
theorem cut_true {c a b t : Bool} (h : c = (a || (b || t))) (hd : a = true ∨ b = true ∨ t = true) : c = true := by
  rw [h]; rcases hd with e | e | e <;> simp [e]
theorem cut_false {c a b t : Bool} (h : c = (a || (b || t))) (h1 : a = false) (h2 : b = false) (h3 : t = false) : c = false := by
  rw [h, h1, h2, h3]; rfl
theorem idx_two0 (a b c d : Int) (w : World) : (Instr.index 93 (.agg #[.int .i64 a, .int .i64 b, .int .i64 c, .int .i64 d]) (.int .i64 0)).run Try.prog w = .ok (.agg #[.int .i64 a, .int .i64 b]) w := by
  simp [Instr.index, run_underlying Try.underlying93, go_sem, Try.sizeOf92, Try.isAgg92]
theorem idx_two1 (a b c d : Int) (w : World) : (Instr.index 93 (.agg #[.int .i64 a, .int .i64 b, .int .i64 c, .int .i64 d]) (.int .i64 1)).run Try.prog w = .ok (.agg #[.int .i64 c, .int .i64 d]) w := by
  simp [Instr.index, run_underlying Try.underlying93, go_sem, Try.sizeOf92, Try.isAgg92]
attribute [local go_sem high] idx_two0 idx_two1
set_option maxHeartbeats 8000000 in
set_option maxRecDepth 100000 in
theorem rsplits_no (v : Value) (l : List (Int × Int)) (i j : Nat) (w : World) (h : PairsAt w v l) (hv : Valid l) (hi : i < l.length) (hj : j < l.length) (hnn : nextTo l.length i j = false) :
    Gives Try.prog 91 #[v, .int .i64 i, .int .i64 j] w (.bool (splitB l i j)) := by
  have HP := Lib.hid h
  have HV := Lib.hid hv
  have h3 := hv.lo
  have h10 := hv.hi
  obtain ⟨sa, cap, rfl, hlc, hcm, -⟩ := h
  obtain ⟨b, o, rfl, hB, cpi0, cpi1⟩ := HP.out.cellAt hi
  obtain ⟨b', o', he, _, cpj0, cpj1⟩ := HP.out.cellAt hj
  cases he
  have hn := hnn
  simp only [nextTo, Bool.or_eq_false_iff] at hn
  obtain ⟨⟨n1, n2⟩, n3⟩ := hn
  obtain ⟨ni, hni⟩ : ∃ m : Nat, (i + 1) % l.length = m := ⟨_, rfl⟩
  obtain ⟨nj, hnj⟩ : ∃ m : Nat, (j + 1) % l.length = m := ⟨_, rfl⟩
  rw [hni] at n2
  rw [hnj] at n3
  have n1' : i ≠ j := by simpa using n1
  have n2' : ni ≠ j := by simpa using n2
  have n3' : nj ≠ i := by simpa using n3
  have x1 : ((i : Int) == (j : Int)) = false := by simp; omega
  have x2 : ((ni : Int) == (j : Int)) = false := by simp; omega
  have x3 : ((nj : Int) == (i : Int)) = false := by simp; omega
  have r1 : ((i : Int) + 1).tmod (l.length : Int) = (ni : Int) := by
    rw [Int.tmod_eq_emod_of_nonneg (by omega), ← hni, Int.natCast_emod]; rfl
  have r2 : ((j : Int) + 1).tmod (l.length : Int) = (nj : Int) := by
    rw [Int.tmod_eq_emod_of_nonneg (by omega), ← hnj, Int.natCast_emod]; rfl
  have hl0 : ¬ l = [] := fun e => by rw [e] at h3; simp at h3
  have hw1 : IntKind.i64.wrap ((i : Int) + 1) = (i : Int) + 1 := IntWalk.i64_in _ (by omega)
  have hw2 : IntKind.i64.wrap ((j : Int) + 1) = (j : Int) + 1 := IntWalk.i64_in _ (by omega)
  have HNB : Hid (nextTo l.length i j = false) := hnn
  have HIJ : Hid (i ≠ j) := n1'
  clear hv n1 n2 n3 hni hnj n1' n2' n3' hnn
  have HI := gi_bd HV.out hi
  have HJ := gi_bd HV.out hj
  unfold Gives
  go_enter Try.func91, Try.ntmps91
  go_wp2_with fail
  clear x1 x2 x3 r1 r2 hw1 hw2
  go_loopw [8] (fun a wr => ∃ k : Nat, k ≤ l.length ∧ a = .int .i64 k ∧ Hid (∀ q, q < k → cutB l i j q = false) ∧ Below w.heap.size w wr) (fun a _ => l.length - (intOf a).toNat)
  case atStart => exact ⟨0, Nat.zero_le _, rfl, fun q hq => absurd hq (by omega), Below.refl _ _⟩
  case round =>
    obtain ⟨k, hk, rfl, hall, hbw⟩ := hrel
    by_cases hlt : k < l.length
    · have hg : decide ((k : Int) < (l.length : Int)) = true := decide_eq_true (by omega)
      have HCR := Lib.hid (cut_ref HV.out hi hj HNB.out hlt)
      obtain ⟨kb, hkb⟩ : ∃ m : Nat, (k + 1) % l.length = m := ⟨_, rfl⟩
      have hkl : kb < l.length := by rw [← hkb]; exact Nat.mod_lt _ (by omega)
      have hkk : kb ≠ k := by
        rw [← hkb]
        rcases Nat.lt_or_ge (k + 1) l.length with c | c
        · rw [Nat.mod_eq_of_lt c]; omega
        · rw [show k + 1 = l.length by omega, Nat.mod_self]; omega
      have r3 : ((k : Int) + 1).tmod (l.length : Int) = (kb : Int) := by
        rw [Int.tmod_eq_emod_of_nonneg (by omega), ← hkb, Int.natCast_emod]; rfl
      have hw3 : IntKind.i64.wrap ((k : Int) + 1) = (k : Int) + 1 := IntWalk.i64_in _ (by omega)
      have HKB := Lib.hid hkb
      clear hkb
      obtain ⟨b', o', he, _, cpk0, cpk1⟩ := HP.out.cellAt hlt
      cases he
      obtain ⟨b', o', he, _, cpb0, cpb1⟩ := HP.out.cellAt hkl
      cases he
      have HKk := gi_bd HV.out hlt
      have HKBb := gi_bd HV.out hkl
      have hmixed : Try.prog.follows .mixedOrders = true := mixed
      have i1 : (i : Int) < (l.length : Int) := by omega
      have i2 : (j : Int) < (l.length : Int) := by omega
      have i3 : (kb : Int) < (l.length : Int) := by omega
      go_wp2_with fail
      go_big_region_o
      go_wp2_with fail
      clear r3 hw3
      go_loopw [53] (fun t wr2 => ((t = .int .i64 0) ∨ (t = .int .i64 1 ∧ Hid (refC l i j k = false)) ∨ (t = .int .i64 2 ∧ Hid (refC l i j k = false) ∧ Hid (refC l j i k = false))) ∧ Below w.heap.size w wr2) (fun t _ => 2 - (intOf t).toNat)
      case atStart => exact ⟨.inl rfl, by (repeat' (first | exact Below.refl _ _ | assumption | refine below_new ?_ _ | refine below_draw ?_ | refine below_tail (by assumption) ?_ | refine below_set ?_ (by first | omega | (simp <;> omega)) _))⟩
      case round =>
        obtain ⟨hrel, hbw2⟩ := hrel
        rcases hrel with rfl | ⟨rfl, HR1⟩ | ⟨rfl, HR1, HR2⟩
        · skip
          go_wp2_with fail
          obtain ⟨W3, hW3⟩ : ∃ W3, wr.alloc (.cells #[.int .i64 i, .int .i64 j] 92) = W3 := ⟨_, rfl⟩
          rw [hW3]
          have hb3 : Below wr.heap.size wr W3 := by rw [← hW3]; exact below_new (Below.refl _ _) _
          have x0 : W3.cell? ⟨wr.heap.size, 0, none⟩ = some (.int .i64 i) := by rw [← hW3]; simp [go_sem]
          have x1 : W3.cell? ⟨wr.heap.size, 1, none⟩ = some (.int .i64 j) := by rw [← hW3]; simp [go_sem]
          clear hW3
          have hbw3 := below_tail hb3 hbw2
          have pi0 := (hbw3.cell (p := ⟨b, o + i * 2, none⟩) hB).trans cpi0
          have pi1 := (hbw3.cell (p := ⟨b, o + i * 2 + 1, none⟩) hB).trans cpi1
          have pj0 := (hbw3.cell (p := ⟨b, o + j * 2, none⟩) hB).trans cpj0
          have pj1 := (hbw3.cell (p := ⟨b, o + j * 2 + 1, none⟩) hB).trans cpj1
          have pk0 := (hbw3.cell (p := ⟨b, o + k * 2, none⟩) hB).trans cpk0
          have pk1 := (hbw3.cell (p := ⟨b, o + k * 2 + 1, none⟩) hB).trans cpk1
          have pb0 := (hbw3.cell (p := ⟨b, o + kb * 2, none⟩) hB).trans cpb0
          have pb1 := (hbw3.cell (p := ⟨b, o + kb * 2 + 1, none⟩) hB).trans cpb1
          clear hb3
          generalize wr.heap.size = G at *
          by_cases ea : k = i
          · have y1 : ((k : Int) == (i : Int)) = true := by rw [ea]; simp
            have y2 : ((kb : Int) == (i : Int)) = false := by simp; omega
            have NE : Hid (¬ kb = i) := by unfold Hid; omega
            have EA := Lib.hid ea
            clear ea
            cases hd : backB (gi l (0, 0) i) (gi l (0, 0) kb) (gi l (0, 0) j)
            · as_aux_lemma =>
                have HD := Lib.hid hd
                clear hd
                have q0 := fun d os => cell_regrown x0 d os
                have q1 := fun d os => cell_regrown x1 d os
                have q2 := fun d os => cell_regrown pi0 d os
                have q3 := fun d os => cell_regrown pi1 d os
                have q4 := fun d os => cell_regrown pj0 d os
                have q5 := fun d os => cell_regrown pj1 d os
                have q6 := fun d os => cell_regrown pb0 d os
                have q7 := fun d os => cell_regrown pb1 d os
                go_wp2_with fail
                refine region_q mixed (by kernel_rfl) ?_
                repeat (go_big_quiet_step (first | (go_at_call 71; exact Calls.regrown_of (rback_is _ HI HKBb HJ HD.out))))
                refine wpQuiet_nil ?_
                intro wq hbq
                clear q0 q1 q2 q3 q4 q5 q6 q7
                clear pi0 pi1 pj0 pj1 pk0 pk1 pb0 pb1 x0 x1
                have HRF : Hid (refC l i j k = false) := by unfold Hid refC; rw [HKB.out]; simp [EA.out, NE.out, HD.out]
                go_wp2_with fail
                go_roundw
                case rel => exact ⟨.inr (.inl ⟨rfl, HRF⟩), by (repeat' (first | exact Below.refl _ _ | assumption | refine below_new ?_ _ | refine below_draw ?_ | refine below_tail (by assumption) ?_ | refine below_set ?_ (by first | omega | (simp <;> omega)) _))⟩
                case measure => simp [intOf]
            · as_aux_lemma =>
                have HD := Lib.hid hd
                clear hd
                have q0 := fun d os => cell_regrown x0 d os
                have q1 := fun d os => cell_regrown x1 d os
                have q2 := fun d os => cell_regrown pi0 d os
                have q3 := fun d os => cell_regrown pi1 d os
                have q4 := fun d os => cell_regrown pj0 d os
                have q5 := fun d os => cell_regrown pj1 d os
                have q6 := fun d os => cell_regrown pb0 d os
                have q7 := fun d os => cell_regrown pb1 d os
                go_wp2_with fail
                refine region_q mixed (by kernel_rfl) ?_
                repeat (go_big_quiet_step (first | (go_at_call 71; exact Calls.regrown_of (rback_is _ HI HKBb HJ HD.out))))
                refine wpQuiet_nil ?_
                intro wq hbq
                clear q0 q1 q2 q3 q4 q5 q6 q7
                clear pi0 pi1 pj0 pj1 pk0 pk1 pb0 pb1 x0 x1
                have HRS : Hid (splitB l i j = false) := splitB_cut (anyN_true hlt (by rw [cut_true HCR.out (Or.inl (by unfold refC; rw [HKB.out]; simp [EA.out, HD.out]))]))
                go_wp2_with fail
                go_ret
                exact ⟨ret_bool HRS.out.symm, by (repeat' (first | exact Below.refl _ _ | assumption | refine below_new ?_ _ | refine below_draw ?_ | refine below_tail (by assumption) ?_ | refine below_set ?_ (by first | omega | (simp <;> omega)) _))⟩
          · have y1 : ((k : Int) == (i : Int)) = false := by simp; omega
            have EA := Lib.hid ea
            clear ea
            by_cases eb : kb = i
            · have y2 : ((kb : Int) == (i : Int)) = true := by rw [eb]; simp
              have EB := Lib.hid eb
              clear eb
              cases hd : backB (gi l (0, 0) i) (gi l (0, 0) k) (gi l (0, 0) j)
              · as_aux_lemma =>
                  have HD := Lib.hid hd
                  clear hd
                  have q0 := fun d os => cell_regrown x0 d os
                  have q1 := fun d os => cell_regrown x1 d os
                  have q2 := fun d os => cell_regrown pi0 d os
                  have q3 := fun d os => cell_regrown pi1 d os
                  have q4 := fun d os => cell_regrown pj0 d os
                  have q5 := fun d os => cell_regrown pj1 d os
                  have q6 := fun d os => cell_regrown pk0 d os
                  have q7 := fun d os => cell_regrown pk1 d os
                  go_wp2_with fail
                  refine region_q mixed (by kernel_rfl) ?_
                  repeat (go_big_quiet_step (first | (go_at_call 71; exact Calls.regrown_of (rback_is _ HI HKk HJ HD.out))))
                  refine wpQuiet_nil ?_
                  intro wq hbq
                  clear q0 q1 q2 q3 q4 q5 q6 q7
                  clear pi0 pi1 pj0 pj1 pk0 pk1 pb0 pb1 x0 x1
                  have HRF : Hid (refC l i j k = false) := by unfold Hid refC; rw [HKB.out]; simp [EA.out, EB.out, HD.out]
                  go_wp2_with fail
                  go_roundw
                  case rel => exact ⟨.inr (.inl ⟨rfl, HRF⟩), by (repeat' (first | exact Below.refl _ _ | assumption | refine below_new ?_ _ | refine below_draw ?_ | refine below_tail (by assumption) ?_ | refine below_set ?_ (by first | omega | (simp <;> omega)) _))⟩
                  case measure => simp [intOf]
              · as_aux_lemma =>
                  have HD := Lib.hid hd
                  clear hd
                  have q0 := fun d os => cell_regrown x0 d os
                  have q1 := fun d os => cell_regrown x1 d os
                  have q2 := fun d os => cell_regrown pi0 d os
                  have q3 := fun d os => cell_regrown pi1 d os
                  have q4 := fun d os => cell_regrown pj0 d os
                  have q5 := fun d os => cell_regrown pj1 d os
                  have q6 := fun d os => cell_regrown pk0 d os
                  have q7 := fun d os => cell_regrown pk1 d os
                  go_wp2_with fail
                  refine region_q mixed (by kernel_rfl) ?_
                  repeat (go_big_quiet_step (first | (go_at_call 71; exact Calls.regrown_of (rback_is _ HI HKk HJ HD.out))))
                  refine wpQuiet_nil ?_
                  intro wq hbq
                  clear q0 q1 q2 q3 q4 q5 q6 q7
                  clear pi0 pi1 pj0 pj1 pk0 pk1 pb0 pb1 x0 x1
                  have HRS : Hid (splitB l i j = false) := splitB_cut (anyN_true hlt (by rw [cut_true HCR.out (Or.inl (by unfold refC; rw [HKB.out]; simp [EB.out, HD.out]))]))
                  go_wp2_with fail
                  go_ret
                  exact ⟨ret_bool HRS.out.symm, by (repeat' (first | exact Below.refl _ _ | assumption | refine below_new ?_ _ | refine below_draw ?_ | refine below_tail (by assumption) ?_ | refine below_set ?_ (by first | omega | (simp <;> omega)) _))⟩
            · have y2 : ((kb : Int) == (i : Int)) = false := by simp; omega
              have EB := Lib.hid eb
              clear eb
              as_aux_lemma =>
                have q0 := fun d os => cell_regrown x0 d os
                go_wp2_with fail
                refine region_q mixed (by kernel_rfl) ?_
                repeat (go_big_quiet_step (fail))
                refine wpQuiet_nil ?_
                intro wq hbq
                clear q0
                clear pi0 pi1 pj0 pj1 pk0 pk1 pb0 pb1 x0 x1
                have HRF : Hid (refC l i j k = false) := by unfold Hid refC; rw [HKB.out]; simp [EA.out, EB.out]
                go_wp2_with fail
                go_roundw
                case rel => exact ⟨.inr (.inl ⟨rfl, HRF⟩), by (repeat' (first | exact Below.refl _ _ | assumption | refine below_new ?_ _ | refine below_draw ?_ | refine below_tail (by assumption) ?_ | refine below_set ?_ (by first | omega | (simp <;> omega)) _))⟩
                case measure => simp [intOf]
        · skip
          go_wp2_with fail
          obtain ⟨W3, hW3⟩ : ∃ W3, wr.alloc (.cells #[.int .i64 j, .int .i64 i] 92) = W3 := ⟨_, rfl⟩
          rw [hW3]
          have hb3 : Below wr.heap.size wr W3 := by rw [← hW3]; exact below_new (Below.refl _ _) _
          have x0 : W3.cell? ⟨wr.heap.size, 0, none⟩ = some (.int .i64 j) := by rw [← hW3]; simp [go_sem]
          have x1 : W3.cell? ⟨wr.heap.size, 1, none⟩ = some (.int .i64 i) := by rw [← hW3]; simp [go_sem]
          clear hW3
          have hbw3 := below_tail hb3 hbw2
          have pi0 := (hbw3.cell (p := ⟨b, o + i * 2, none⟩) hB).trans cpi0
          have pi1 := (hbw3.cell (p := ⟨b, o + i * 2 + 1, none⟩) hB).trans cpi1
          have pj0 := (hbw3.cell (p := ⟨b, o + j * 2, none⟩) hB).trans cpj0
          have pj1 := (hbw3.cell (p := ⟨b, o + j * 2 + 1, none⟩) hB).trans cpj1
          have pk0 := (hbw3.cell (p := ⟨b, o + k * 2, none⟩) hB).trans cpk0
          have pk1 := (hbw3.cell (p := ⟨b, o + k * 2 + 1, none⟩) hB).trans cpk1
          have pb0 := (hbw3.cell (p := ⟨b, o + kb * 2, none⟩) hB).trans cpb0
          have pb1 := (hbw3.cell (p := ⟨b, o + kb * 2 + 1, none⟩) hB).trans cpb1
          clear hb3
          generalize wr.heap.size = G at *
          by_cases ea : k = j
          · have y1 : ((k : Int) == (j : Int)) = true := by rw [ea]; simp
            have y2 : ((kb : Int) == (j : Int)) = false := by simp; omega
            have NE : Hid (¬ kb = j) := by unfold Hid; omega
            have EA := Lib.hid ea
            clear ea
            cases hd : backB (gi l (0, 0) j) (gi l (0, 0) kb) (gi l (0, 0) i)
            · as_aux_lemma =>
                have HD := Lib.hid hd
                clear hd
                have q0 := fun d os => cell_regrown x0 d os
                have q1 := fun d os => cell_regrown x1 d os
                have q2 := fun d os => cell_regrown pj0 d os
                have q3 := fun d os => cell_regrown pj1 d os
                have q4 := fun d os => cell_regrown pi0 d os
                have q5 := fun d os => cell_regrown pi1 d os
                have q6 := fun d os => cell_regrown pb0 d os
                have q7 := fun d os => cell_regrown pb1 d os
                go_wp2_with fail
                refine region_q mixed (by kernel_rfl) ?_
                repeat (go_big_quiet_step (first | (go_at_call 71; exact Calls.regrown_of (rback_is _ HJ HKBb HI HD.out))))
                refine wpQuiet_nil ?_
                intro wq hbq
                clear q0 q1 q2 q3 q4 q5 q6 q7
                clear pi0 pi1 pj0 pj1 pk0 pk1 pb0 pb1 x0 x1
                have HRF : Hid (refC l j i k = false) := by unfold Hid refC; rw [HKB.out]; simp [EA.out, NE.out, HD.out]
                go_wp2_with fail
                go_roundw
                case rel => exact ⟨.inr (.inr ⟨rfl, HR1, HRF⟩), by (repeat' (first | exact Below.refl _ _ | assumption | refine below_new ?_ _ | refine below_draw ?_ | refine below_tail (by assumption) ?_ | refine below_set ?_ (by first | omega | (simp <;> omega)) _))⟩
                case measure => simp [intOf]
            · as_aux_lemma =>
                have HD := Lib.hid hd
                clear hd
                have q0 := fun d os => cell_regrown x0 d os
                have q1 := fun d os => cell_regrown x1 d os
                have q2 := fun d os => cell_regrown pj0 d os
                have q3 := fun d os => cell_regrown pj1 d os
                have q4 := fun d os => cell_regrown pi0 d os
                have q5 := fun d os => cell_regrown pi1 d os
                have q6 := fun d os => cell_regrown pb0 d os
                have q7 := fun d os => cell_regrown pb1 d os
                go_wp2_with fail
                refine region_q mixed (by kernel_rfl) ?_
                repeat (go_big_quiet_step (first | (go_at_call 71; exact Calls.regrown_of (rback_is _ HJ HKBb HI HD.out))))
                refine wpQuiet_nil ?_
                intro wq hbq
                clear q0 q1 q2 q3 q4 q5 q6 q7
                clear pi0 pi1 pj0 pj1 pk0 pk1 pb0 pb1 x0 x1
                have HRS : Hid (splitB l i j = false) := splitB_cut (anyN_true hlt (by rw [cut_true HCR.out (Or.inr ∘ Or.inl <| (by unfold refC; rw [HKB.out]; simp [EA.out, HD.out]))]))
                go_wp2_with fail
                go_ret
                exact ⟨ret_bool HRS.out.symm, by (repeat' (first | exact Below.refl _ _ | assumption | refine below_new ?_ _ | refine below_draw ?_ | refine below_tail (by assumption) ?_ | refine below_set ?_ (by first | omega | (simp <;> omega)) _))⟩
          · have y1 : ((k : Int) == (j : Int)) = false := by simp; omega
            have EA := Lib.hid ea
            clear ea
            by_cases eb : kb = j
            · have y2 : ((kb : Int) == (j : Int)) = true := by rw [eb]; simp
              have EB := Lib.hid eb
              clear eb
              cases hd : backB (gi l (0, 0) j) (gi l (0, 0) k) (gi l (0, 0) i)
              · as_aux_lemma =>
                  have HD := Lib.hid hd
                  clear hd
                  have q0 := fun d os => cell_regrown x0 d os
                  have q1 := fun d os => cell_regrown x1 d os
                  have q2 := fun d os => cell_regrown pj0 d os
                  have q3 := fun d os => cell_regrown pj1 d os
                  have q4 := fun d os => cell_regrown pi0 d os
                  have q5 := fun d os => cell_regrown pi1 d os
                  have q6 := fun d os => cell_regrown pk0 d os
                  have q7 := fun d os => cell_regrown pk1 d os
                  go_wp2_with fail
                  refine region_q mixed (by kernel_rfl) ?_
                  repeat (go_big_quiet_step (first | (go_at_call 71; exact Calls.regrown_of (rback_is _ HJ HKk HI HD.out))))
                  refine wpQuiet_nil ?_
                  intro wq hbq
                  clear q0 q1 q2 q3 q4 q5 q6 q7
                  clear pi0 pi1 pj0 pj1 pk0 pk1 pb0 pb1 x0 x1
                  have HRF : Hid (refC l j i k = false) := by unfold Hid refC; rw [HKB.out]; simp [EA.out, EB.out, HD.out]
                  go_wp2_with fail
                  go_roundw
                  case rel => exact ⟨.inr (.inr ⟨rfl, HR1, HRF⟩), by (repeat' (first | exact Below.refl _ _ | assumption | refine below_new ?_ _ | refine below_draw ?_ | refine below_tail (by assumption) ?_ | refine below_set ?_ (by first | omega | (simp <;> omega)) _))⟩
                  case measure => simp [intOf]
              · as_aux_lemma =>
                  have HD := Lib.hid hd
                  clear hd
                  have q0 := fun d os => cell_regrown x0 d os
                  have q1 := fun d os => cell_regrown x1 d os
                  have q2 := fun d os => cell_regrown pj0 d os
                  have q3 := fun d os => cell_regrown pj1 d os
                  have q4 := fun d os => cell_regrown pi0 d os
                  have q5 := fun d os => cell_regrown pi1 d os
                  have q6 := fun d os => cell_regrown pk0 d os
                  have q7 := fun d os => cell_regrown pk1 d os
                  go_wp2_with fail
                  refine region_q mixed (by kernel_rfl) ?_
                  repeat (go_big_quiet_step (first | (go_at_call 71; exact Calls.regrown_of (rback_is _ HJ HKk HI HD.out))))
                  refine wpQuiet_nil ?_
                  intro wq hbq
                  clear q0 q1 q2 q3 q4 q5 q6 q7
                  clear pi0 pi1 pj0 pj1 pk0 pk1 pb0 pb1 x0 x1
                  have HRS : Hid (splitB l i j = false) := splitB_cut (anyN_true hlt (by rw [cut_true HCR.out (Or.inr ∘ Or.inl <| (by unfold refC; rw [HKB.out]; simp [EB.out, HD.out]))]))
                  go_wp2_with fail
                  go_ret
                  exact ⟨ret_bool HRS.out.symm, by (repeat' (first | exact Below.refl _ _ | assumption | refine below_new ?_ _ | refine below_draw ?_ | refine below_tail (by assumption) ?_ | refine below_set ?_ (by first | omega | (simp <;> omega)) _))⟩
            · have y2 : ((kb : Int) == (j : Int)) = false := by simp; omega
              have EB := Lib.hid eb
              clear eb
              as_aux_lemma =>
                have q0 := fun d os => cell_regrown x0 d os
                go_wp2_with fail
                refine region_q mixed (by kernel_rfl) ?_
                repeat (go_big_quiet_step (fail))
                refine wpQuiet_nil ?_
                intro wq hbq
                clear q0
                clear pi0 pi1 pj0 pj1 pk0 pk1 pb0 pb1 x0 x1
                have HRF : Hid (refC l j i k = false) := by unfold Hid refC; rw [HKB.out]; simp [EA.out, EB.out]
                go_wp2_with fail
                go_roundw
                case rel => exact ⟨.inr (.inr ⟨rfl, HR1, HRF⟩), by (repeat' (first | exact Below.refl _ _ | assumption | refine below_new ?_ _ | refine below_draw ?_ | refine below_tail (by assumption) ?_ | refine below_set ?_ (by first | omega | (simp <;> omega)) _))⟩
                case measure => simp [intOf]
        · skip
          as_aux_lemma =>
            have pi0 := (hbw2.cell (p := ⟨b, o + i * 2, none⟩) hB).trans cpi0
            have pi1 := (hbw2.cell (p := ⟨b, o + i * 2 + 1, none⟩) hB).trans cpi1
            have pj0 := (hbw2.cell (p := ⟨b, o + j * 2, none⟩) hB).trans cpj0
            have pj1 := (hbw2.cell (p := ⟨b, o + j * 2 + 1, none⟩) hB).trans cpj1
            have pk0 := (hbw2.cell (p := ⟨b, o + k * 2, none⟩) hB).trans cpk0
            have pk1 := (hbw2.cell (p := ⟨b, o + k * 2 + 1, none⟩) hB).trans cpk1
            have pb0 := (hbw2.cell (p := ⟨b, o + kb * 2, none⟩) hB).trans cpb0
            have pb1 := (hbw2.cell (p := ⟨b, o + kb * 2 + 1, none⟩) hB).trans cpb1
            by_cases e : k = i
            · have y0 : ((k : Int) != (i : Int)) = false := by rw [e]; simp
              have E1 := Lib.hid e
              clear e
              as_aux_lemma =>
                go_wp2_with fail
                refine region_q mixed (by kernel_rfl) ?_
                repeat (go_big_quiet_step (fail))
                refine wpQuiet_nil ?_
                intro wq hbq
                clear pi0 pi1 pj0 pj1 pk0 pk1 pb0 pb1
                have HRF : Hid (refT l i j k = false) := by unfold Hid refT; rw [HKB.out]; simp [E1.out]
                go_wp2_with fail
                go_roundw
                case rel => exact ⟨k + 1, by omega, by go_num, Lib.hid (fun q hq => by
                    rcases Nat.lt_or_ge q k with c | c
                    · exact hall.out q c
                    · obtain rfl : q = k := by omega
                      exact cut_false HCR.out HR1.out HR2.out HRF.out), by (repeat' (first | exact Below.refl _ _ | assumption | refine below_new ?_ _ | refine below_draw ?_ | refine below_tail (by assumption) ?_ | refine below_set ?_ (by first | omega | (simp <;> omega)) _))⟩
                case measure => simp [intOf]; omega
            · have y0 : ((k : Int) != (i : Int)) = true := by simp; omega
              have E1 := Lib.hid e
              clear e
              by_cases e : k = j
              · have y1 : ((k : Int) != (j : Int)) = false := by rw [e]; simp
                have E2 := Lib.hid e
                clear e
                as_aux_lemma =>
                  go_wp2_with fail
                  refine region_q mixed (by kernel_rfl) ?_
                  repeat (go_big_quiet_step (fail))
                  refine wpQuiet_nil ?_
                  intro wq hbq
                  clear pi0 pi1 pj0 pj1 pk0 pk1 pb0 pb1
                  have HRF : Hid (refT l i j k = false) := by unfold Hid refT; rw [HKB.out]; simp [E2.out]
                  go_wp2_with fail
                  go_roundw
                  case rel => exact ⟨k + 1, by omega, by go_num, Lib.hid (fun q hq => by
                      rcases Nat.lt_or_ge q k with c | c
                      · exact hall.out q c
                      · obtain rfl : q = k := by omega
                        exact cut_false HCR.out HR1.out HR2.out HRF.out), by (repeat' (first | exact Below.refl _ _ | assumption | refine below_new ?_ _ | refine below_draw ?_ | refine below_tail (by assumption) ?_ | refine below_set ?_ (by first | omega | (simp <;> omega)) _))⟩
                  case measure => simp [intOf]; omega
              · have y1 : ((k : Int) != (j : Int)) = true := by simp; omega
                have E2 := Lib.hid e
                clear e
                by_cases e : kb = i
                · have y2 : ((kb : Int) != (i : Int)) = false := by rw [e]; simp
                  have E3 := Lib.hid e
                  clear e
                  as_aux_lemma =>
                    go_wp2_with fail
                    refine region_q mixed (by kernel_rfl) ?_
                    repeat (go_big_quiet_step (fail))
                    refine wpQuiet_nil ?_
                    intro wq hbq
                    clear pi0 pi1 pj0 pj1 pk0 pk1 pb0 pb1
                    have HRF : Hid (refT l i j k = false) := by unfold Hid refT; rw [HKB.out]; simp [E3.out]
                    go_wp2_with fail
                    go_roundw
                    case rel => exact ⟨k + 1, by omega, by go_num, Lib.hid (fun q hq => by
                        rcases Nat.lt_or_ge q k with c | c
                        · exact hall.out q c
                        · obtain rfl : q = k := by omega
                          exact cut_false HCR.out HR1.out HR2.out HRF.out), by (repeat' (first | exact Below.refl _ _ | assumption | refine below_new ?_ _ | refine below_draw ?_ | refine below_tail (by assumption) ?_ | refine below_set ?_ (by first | omega | (simp <;> omega)) _))⟩
                    case measure => simp [intOf]; omega
                · have y2 : ((kb : Int) != (i : Int)) = true := by simp; omega
                  have E3 := Lib.hid e
                  clear e
                  by_cases e : kb = j
                  · have y3 : ((kb : Int) != (j : Int)) = false := by rw [e]; simp
                    have E4 := Lib.hid e
                    clear e
                    as_aux_lemma =>
                      go_wp2_with fail
                      refine region_q mixed (by kernel_rfl) ?_
                      repeat (go_big_quiet_step (fail))
                      refine wpQuiet_nil ?_
                      intro wq hbq
                      clear pi0 pi1 pj0 pj1 pk0 pk1 pb0 pb1
                      have HRF : Hid (refT l i j k = false) := by unfold Hid refT; rw [HKB.out]; simp [E4.out]
                      go_wp2_with fail
                      go_roundw
                      case rel => exact ⟨k + 1, by omega, by go_num, Lib.hid (fun q hq => by
                          rcases Nat.lt_or_ge q k with c | c
                          · exact hall.out q c
                          · obtain rfl : q = k := by omega
                            exact cut_false HCR.out HR1.out HR2.out HRF.out), by (repeat' (first | exact Below.refl _ _ | assumption | refine below_new ?_ _ | refine below_draw ?_ | refine below_tail (by assumption) ?_ | refine below_set ?_ (by first | omega | (simp <;> omega)) _))⟩
                      case measure => simp [intOf]; omega
                  · have y3 : ((kb : Int) != (j : Int)) = true := by simp; omega
                    have E4 := Lib.hid e
                    clear e
                    cases hd : touchB (gi l (0, 0) k) (gi l (0, 0) kb) (gi l (0, 0) i) (gi l (0, 0) j)
                    · as_aux_lemma =>
                        have HD := Lib.hid hd
                        clear hd
                        have q0 := fun d os => cell_regrown pi0 d os
                        have q1 := fun d os => cell_regrown pi1 d os
                        have q2 := fun d os => cell_regrown pj0 d os
                        have q3 := fun d os => cell_regrown pj1 d os
                        have q4 := fun d os => cell_regrown pk0 d os
                        have q5 := fun d os => cell_regrown pk1 d os
                        have q6 := fun d os => cell_regrown pb0 d os
                        have q7 := fun d os => cell_regrown pb1 d os
                        go_wp2_with fail
                        refine region_q mixed (by kernel_rfl) ?_
                        repeat (go_big_quiet_step (first | (go_at_call 72; exact Calls.regrown_of (rmeet_is _ HKk HKBb HI HJ HD.out))))
                        refine wpQuiet_nil ?_
                        intro wq hbq
                        clear q0 q1 q2 q3 q4 q5 q6 q7
                        clear pi0 pi1 pj0 pj1 pk0 pk1 pb0 pb1
                        have HRF : Hid (refT l i j k = false) := by unfold Hid refT; rw [HKB.out]; simp [E1.out, E2.out, E3.out, E4.out, HD.out]
                        go_wp2_with fail
                        go_roundw
                        case rel => exact ⟨k + 1, by omega, by go_num, Lib.hid (fun q hq => by
                            rcases Nat.lt_or_ge q k with c | c
                            · exact hall.out q c
                            · obtain rfl : q = k := by omega
                              exact cut_false HCR.out HR1.out HR2.out HRF.out), by (repeat' (first | exact Below.refl _ _ | assumption | refine below_new ?_ _ | refine below_draw ?_ | refine below_tail (by assumption) ?_ | refine below_set ?_ (by first | omega | (simp <;> omega)) _))⟩
                        case measure => simp [intOf]; omega
                    · as_aux_lemma =>
                        have HD := Lib.hid hd
                        clear hd
                        have q0 := fun d os => cell_regrown pi0 d os
                        have q1 := fun d os => cell_regrown pi1 d os
                        have q2 := fun d os => cell_regrown pj0 d os
                        have q3 := fun d os => cell_regrown pj1 d os
                        have q4 := fun d os => cell_regrown pk0 d os
                        have q5 := fun d os => cell_regrown pk1 d os
                        have q6 := fun d os => cell_regrown pb0 d os
                        have q7 := fun d os => cell_regrown pb1 d os
                        go_wp2_with fail
                        refine region_q mixed (by kernel_rfl) ?_
                        repeat (go_big_quiet_step (first | (go_at_call 72; exact Calls.regrown_of (rmeet_is _ HKk HKBb HI HJ HD.out))))
                        refine wpQuiet_nil ?_
                        intro wq hbq
                        clear q0 q1 q2 q3 q4 q5 q6 q7
                        clear pi0 pi1 pj0 pj1 pk0 pk1 pb0 pb1
                        have HRS : Hid (splitB l i j = false) := splitB_cut (anyN_true hlt (by rw [cut_true HCR.out (Or.inr (Or.inr (by unfold refT; rw [HKB.out]; simp [E1.out, E2.out, E3.out, E4.out, HD.out])))]))
                        go_wp2_with fail
                        go_ret
                        exact ⟨ret_bool HRS.out.symm, by (repeat' (first | exact Below.refl _ _ | assumption | refine below_new ?_ _ | refine below_draw ?_ | refine below_tail (by assumption) ?_ | refine below_set ?_ (by first | omega | (simp <;> omega)) _))⟩
    · skip
      as_aux_lemma =>
        have hg : decide ((k : Int) < (l.length : Int)) = false := decide_eq_false (by omega)
        obtain rfl : k = l.length := by omega
        have HNC := Lib.hid (anyN_false (fun q hq => hall.out q hq))
        clear hall
        obtain ⟨i0, hi0, hz0, hi1, hi2⟩ := info_parts infoPoint
        have hbz := hbw.size
        go_wp2_with fail
        go_loopw [13, 14] (fun vv kk wr => ∃ m : Nat, m ≤ l.length ∧ kk = .int .i64 m ∧ wr.ownsRow w.heap.size 32 2 vv (mapK (sc 2) l m).length (cells2 (mapK (sc 2) l m)) ∧ Below w.heap.size w wr) (fun _ kk _ => l.length - (intOf kk).toNat)
        case atStart => exact ⟨0, Nat.zero_le _, rfl, World.ownsRow_nil _ _ _ _, by (repeat' (first | exact Below.refl _ _ | assumption | refine below_new ?_ _ | refine below_draw ?_ | refine below_tail (by assumption) ?_ | refine below_set ?_ (by first | omega | (simp <;> omega)) _))⟩
        case round =>
          obtain ⟨k, hk, rfl, hown, hbw⟩ := hrel
          by_cases hlt : k < l.length
          · as_aux_lemma =>
              have hg : decide ((k : Int) < (l.length : Int)) = true := decide_eq_true (by omega)
              obtain ⟨b', o', he, _, g0, g1⟩ := HP.out.cellAt hlt
              cases he
              have p0 := (hbw.cell (p := ⟨b, o + k * 2, none⟩) hB).trans g0
              have p1 := (hbw.cell (p := ⟨b, o + k * 2 + 1, none⟩) hB).trans g1
              obtain ⟨⟨y1, y2⟩, y3, y4⟩ := gi_bd HV.out hlt
              clear g0 g1 cpi0 cpi1 cpj0 cpj1
              have hml := mapK_length (sc 2) l k
              have hk0 : (0 : Int) ≤ (k : Int) := Int.natCast_nonneg _
              have hk1 : (k : Int) < (l.length : Int) := by omega
              have hob := own_ne hown (show b < w.heap.size by omega)
              have hws := hbw.size
              go_wp2
              go_region_held3 (fun w' => w'.cell? ⟨b, o + k * 2, none⟩ = some (.int .i64 (gi l (0, 0) k).1) ∧ w'.cell? ⟨b, o + k * 2 + 1, none⟩ = some (.int .i64 (gi l (0, 0) k).2))
                (first
                  | go_keep
                  | (go_split_ands
                     refine ⟨?_, ?_⟩
                     · (rw [hgrow.cell_far _ (by simp; omega) (Ne.symm hob)]; assumption)
                     · (rw [hgrow.cell_far _ (by simp; omega) (Ne.symm hob)]; assumption)))
                ((refine step_append_lies _ (by rfl) _ _ _ (by rfl) w.heap.size 32 i0 _ 2 16 Try.underlying22 hi0 hz0 hi1 hi2 rfl (by decide) _ _ _ (by rfl) ((hown.alloc _).drew)
                    ⟨wr.heap.size, 0, none⟩ 1 1 (cells2 [(sc 2) (gi l (0, 0) k)]) (by rfl) (by rfl) (app_srcD _ _ _ _ _ (IntWalk.i64_in _ (by omega)) (IntWalk.i64_in _ (by omega))) (cells2_one _)
                    (by omega) (by unfold maxLen; omega) (by omega) (by simp; omega) (wr.heap.size + 1) (by simp) ?_; intro gg cap' w4 hown4 hgrow hat hlt4))
              have hb4 := ((hbw.alloc hws _).drew).grown hgrow (by simp; omega) (fun b h => by have := own_block_le2 hown b h; omega)
              go_wp2
              rw [hml] at hown4
              go_roundw
              case rel => exact ⟨k + 1, by omega, by go_num, by rw [mapK_succ]; exact own_more2 hown4 (by omega), hb4⟩
              case measure => simp [intOf]; omega
          · as_aux_lemma =>
              have hg : decide ((k : Int) < (l.length : Int)) = false := decide_eq_false (by omega)
              obtain rfl : k = l.length := by omega
              rw [mapK_all] at hown
              have HPD := Lib.hid (own_pairs hown)
              obtain ⟨s, hs⟩ : ∃ s, sideF (dblL l) (midL l i j) = s := ⟨_, rfl⟩
              have HSP : Hid (splitB l i j = (s == 1)) := by unfold Hid; rw [splitB_mid HNB.out HNC.out, hs]
              have p0 := (hbw.cell (p := ⟨b, o + i * 2, none⟩) hB).trans cpi0
              have p1 := (hbw.cell (p := ⟨b, o + i * 2 + 1, none⟩) hB).trans cpi1
              have p2 := (hbw.cell (p := ⟨b, o + j * 2, none⟩) hB).trans cpj0
              have p3 := (hbw.cell (p := ⟨b, o + j * 2 + 1, none⟩) hB).trans cpj1
              clear cpi0 cpi1 cpj0 cpj1
              have HBB := Lib.hid (dbl_bd HV.out)
              have HMB := Lib.hid (mid_bd HV.out i j)
              have HMI : Hid (midL l i j = ((gi l (0, 0) i).1 + (gi l (0, 0) j).1, (gi l (0, 0) i).2 + (gi l (0, 0) j).2)) := by unfold Hid; rw [midL, cor_lt hi, cor_lt hj]; rfl
              have HS : Hid (Gives Try.prog 73 #[u13, .agg #[.int .i64 ((gi l (0, 0) i).1 + (gi l (0, 0) j).1), .int .i64 ((gi l (0, 0) i).2 + (gi l (0, 0) j).2)]] wr.drew (.int .i64 s)) := by
                have h1 := rside_calls _ (dblL l) (midL l i j) wr.drew (HPD.out.below (by (repeat' (first | exact Below.refl _ _ | assumption | refine below_new ?_ _ | refine below_draw ?_ | refine below_tail (by assumption) ?_ | refine below_set ?_ (by first | omega | (simp <;> omega)) _)))) (by rw [dbl_length]; omega) (by rw [dbl_length]; omega) HBB.out HMB.out
                rw [HMI.out] at h1; rw [← hs, HMI.out]; exact h1
              clear hown hs
              obtain ⟨⟨a1, a2⟩, a3, a4⟩ := HI
              obtain ⟨⟨b1, b2⟩, b3, b4⟩ := HJ
              have hin : (i : Int) < (l.length : Int) := by omega
              have hjn : (j : Int) < (l.length : Int) := by omega
              go_wp2_with fail
              refine wp_region_quiet_tail 24 mixed (by kernel_rfl) ?_
              simp only [List.take_succ_cons, List.take_zero, List.drop_succ_cons, List.drop_zero]
              repeat (go_big_quiet_step (fail))
              refine wpQuiet_nil ?_
              go_wp2_with (go_at_call 73; refine HS.out.use ?_; intro w9 hb9 hz9 hc9 hf9; clear hc9 hf9)
              go_ret
              exact ⟨by first | exact ret_bool HSP.out.symm | (rw [HSP.out]; rfl) | (rw [HSP.out]; simp), below_tail hb9 (by (repeat' (first | exact Below.refl _ _ | assumption | refine below_new ?_ _ | refine below_draw ?_ | refine below_tail (by assumption) ?_ | refine below_set ?_ (by first | omega | (simp <;> omega)) _)))⟩
end Go.Proofs.Ythiemglckmociaa
