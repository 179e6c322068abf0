/- The loop of package term that ends a term. Conditions: a calendar lies in memory as said. -/
import Derived.Test.YtnhohnnoffhkhaaTermLoops
namespace Go.Proofs.Ytnhohnnoffhkhaa
open Go.RowKit Go.Shelf
attribute [local go_sem] Oper.semAt_some

theorem endB_at (c : Cal) (day days : Int) (k : Nat) : endB c day days (day + k) = (decide (days ≤ cnt (fun y => !(stillB c y)) (day + 1) k) && !(freeB c (day + k))) := by
  unfold endB
  rw [show (day + (k : Int) - day).toNat = k by omega]

set_option maxHeartbeats 1600000 in
theorem ends_calls (v : Value) (c : Cal) (day days : Int) (w : World) (h : CalAt w v c) (hv : validF c = 0) (hv1 : 0 ≤ c.first) (hv2 : c.first ≤ 6) (h3 : 0 ≤ day) (h4 : day ≤ 100000) (h5 : 0 ≤ days) (h6 : days ≤ 4000) :
    Gives Try.prog 56 #[v, .int .i64 day, .int .i64 days] w (.int .i64 (endsF c day days)) := by
  obtain ⟨fa, fc, sa, sc, rfl, hf, hs, hfc, hsc, hfl, hsl⟩ := h.cells
  have HCal := Lib.hid h
  obtain ⟨M, hM, _, hMp⟩ := ends_some hv h3 h5 h6
  have HM := Lib.hid hMp
  clear h hf hs hv hMp
  unfold Gives
  refine (callsIn_wide (n := 9)).1 ?_
  refine callsIn_of_wp_marks Try.func56 rfl trivial ?_ rfl
  simp only [Try.ntmps56, List.size_toArray, List.length_cons, List.length_nil, Nat.reduceAdd, Nat.reduceSub, Array.replicate_succ, Array.replicate_zero, List.push_toArray, List.append_toArray, List.nil_append, List.cons_append]
  gi_wp2_with (refine ⟨trivial, ?_⟩; gi_at_call 88; refine (callsIn_wide.2 (days_calls _ _)).mono ?_; rintro e w' ⟨rfl, rfl⟩)
  obtain ⟨W0, hW0⟩ : ∃ W0, (((((w.alloc (.cells #[.int .i64 c.first, .slice fa c.free.length fc, .slice sa c.still.length sc] 25)).alloc (.cells #[.int .i64 day] 3)).alloc (.cells #[.int .i64 days] 3)).alloc (.cells #[.int .i64 0] 3)).alloc (.cells #[.int .i64 day] 3)) = W0 := ⟨_, rfl⟩
  rw [hW0]
  have hB0 : Below w.heap.size w W0 := by rw [← hW0]; (repeat' (first | exact Below.refl _ _ | assumption | refine below_new ?_ _ | refine below_draw ?_ | refine below_tail (by assumption) ?_ | refine below_set ?_ (by first | omega | (simp <;> omega)) _))
  have hsz : W0.heap.size = w.heap.size + 5 := by rw [← hW0]; simp
  have e0 : W0.cell? ⟨w.heap.size, 0, none⟩ = some (.int .i64 c.first) := by rw [← hW0]; simp [go_sem]
  have e1 : W0.cell? ⟨w.heap.size, 1, none⟩ = some (.slice fa c.free.length fc) := by rw [← hW0]; simp [go_sem]
  have e2 : W0.cell? ⟨w.heap.size, 2, none⟩ = some (.slice sa c.still.length sc) := by rw [← hW0]; simp [go_sem]
  have e3 : W0.cell? ⟨w.heap.size + 1, 0, none⟩ = some (.int .i64 day) := by rw [← hW0]; simp [go_sem]
  have e4 : W0.cell? ⟨w.heap.size + 2, 0, none⟩ = some (.int .i64 days) := by rw [← hW0]; simp [go_sem]
  have e5 : W0.frozen? ⟨w.heap.size + 2, 0, none⟩ = false := by rw [← hW0]; simp [go_sem]
  have e6 : W0.cell? ⟨w.heap.size + 3, 0, none⟩ = some (.int .i64 0) := by rw [← hW0]; simp [go_sem]
  have e7 : W0.frozen? ⟨w.heap.size + 3, 0, none⟩ = false := by rw [← hW0]; simp [go_sem]
  have e8 : W0.cell? ⟨w.heap.size + 4, 0, none⟩ = some (.int .i64 day) := by rw [← hW0]; simp [go_sem]
  clear hW0
  refine wide_rangeFunc (gf := 98) (lb := #[.pointer (some ⟨w.heap.size + 4, 0, none⟩)]) rfl (enters_of Try.func98 (by kernel_rfl) rfl) (days_iter (w.heap.size + 4) day h3 (by omega)) (fun _ => rfl)
    (fun k W => Below W0.heap.size (W0.setCell ⟨w.heap.size + 2, 0, none⟩ (.int .i64 (days - cnt (fun y => !(stillB c y)) (day + 1) (k - 1)))) W ∧ k ≤ M ∧ ∀ i : Nat, i < k → endB c day days (day + i) = false)
    (fun cd k W => cd = .ret ∧ k ≤ M ∧ endB c day days (day + k) = true ∧ (∀ i : Nat, i < k → endB c day days (day + i) = false) ∧
      ∃ x, Below W0.heap.size ((W0.setCell ⟨w.heap.size + 2, 0, none⟩ x).setCell ⟨w.heap.size + 3, 0, none⟩ (.int .i64 (day + k))) W)
    (fun k W h => (h.1.cell (p := ⟨w.heap.size + 4, 0, none⟩) (by dsimp only; omega)).trans (by simp [go_sem, e8]))
    (fun k W W' h hb => ⟨h.1.trans hb, h.2⟩)
    (fun cd k W W' h hb => ⟨h.1, h.2.1, h.2.2.1, h.2.2.2.1, by obtain ⟨x, hx⟩ := h.2.2.2.2; exact ⟨x, hx.trans hb⟩⟩)
    (fun _ k W h => by have := h.2.1; omega)
    ⟨by simpa [cnt] using below_set_same e4, Nat.zero_le _, fun i hi => absurd hi (by omega)⟩
    (fun k a' W => a' = { tmps := #[.agg #[.int .i64 c.first, .slice fa c.free.length fc, .slice sa c.still.length sc], .int .i64 day, .int .i64 days, .pointer (some ⟨w.heap.size, 0, none⟩), .pointer (some ⟨w.heap.size + 1, 0, none⟩), .pointer (some ⟨w.heap.size + 2, 0, none⟩), .pointer (some ⟨w.heap.size + 3, 0, none⟩), .int .i64 (day + k), .int .i64 day, .func (.func 98) #[] #[.pointer (some ⟨w.heap.size + 4, 0, none⟩)], .int .i64 (day + k), undef, undef, undef, undef, undef, undef, undef, undef, undef, undef, undef, undef, undef, undef, undef, undef, undef, undef, undef, undef, undef], defers := [] })
    (fun k a' W W' h _ => h) ?assign ?body ?done ?stop
  case assign =>
    intro l k W K hsW hI hm hK
    gi_wp2
    exact hK _ _ (KeepsOthers.refl _) hI rfl
  case body =>
    rintro l k a' W hl hr hsW ⟨hB, hk, hno⟩ rfl hm
    have hBw : Below w.heap.size w W := (below_set hB0 (p := ⟨w.heap.size + 2, 0, none⟩) (by dsimp only; omega) _).trans (hB.mono (by omega))
    have f0 := (hB.cell (p := ⟨w.heap.size, 0, none⟩) (by dsimp only; omega)).trans (by simp [go_sem]; exact e0)
    have f1 := (hB.cell (p := ⟨w.heap.size, 1, none⟩) (by dsimp only; omega)).trans (by simp [go_sem]; exact e1)
    have f2 := (hB.cell (p := ⟨w.heap.size, 2, none⟩) (by dsimp only; omega)).trans (by simp [go_sem]; exact e2)
    have f3 := (hB.cell (p := ⟨w.heap.size + 1, 0, none⟩) (by dsimp only; omega)).trans (by simp [go_sem]; exact e3)
    have f4 := (hB.cell (p := ⟨w.heap.size + 2, 0, none⟩) (by dsimp only; omega)).trans (World.cell?_setCell_same' _ _ _ (by rw [e4]; rfl))
    have f5 := (hB.frozen (p := ⟨w.heap.size + 2, 0, none⟩) (by dsimp only; omega)).trans (by simp [go_sem]; exact e5)
    have f6 := (hB.cell (p := ⟨w.heap.size + 3, 0, none⟩) (by dsimp only; omega)).trans (by simp [go_sem]; exact e6)
    have f7 := (hB.frozen (p := ⟨w.heap.size + 3, 0, none⟩) (by dsimp only; omega)).trans (by simp [go_sem]; exact e7)
    have HNo := Lib.hid hno
    have HB := Lib.hid hB
    clear hno
    have hE := Lib.hid (endB_at c day days k)
    have hc0 := cnt_nonneg (fun y => !(stillB c y)) (day + 1) (k - 1)
    have hc1 := cnt_le (fun y => !(stillB c y)) (day + 1) (k - 1)
    have hkM : endB c day days (day + k) = false → k + 1 ≤ M := fun hF => by
      have : k ≠ M := fun e => by have := HM.out; rw [← e, hF] at this; cases this
      omega
    have HKM := Lib.hid hkM
    clear hkM
    obtain ⟨q, hq⟩ : ∃ q, cnt (fun y => !(stillB c y)) (day + 1) (k - 1) = q := ⟨_, rfl⟩
    rw [hq] at f4 hc0 hc1
    have HQq := Lib.hid hq
    have HB2 : Hid (Below W0.heap.size (W0.setCell ⟨w.heap.size + 2, 0, none⟩ (.int .i64 (days - q))) W) := by unfold Hid; rw [← hq]; exact HB.out
    clear hq HB hB
    have HB := HB2
    clear HB2
    have hkM := HKM.out
    clear HKM
    by_cases hk0 : 0 < k
    · have hkb : decide ((0 : Int) < (k : Int)) = true := by simpa using hk0
      cases hS : stillB c (day + k)
      · have HC : Hid (cnt (fun y => !(stillB c y)) (day + 1) k = q + 1) := by
          unfold Hid
          rw [show k = (k - 1) + 1 by omega, cnt, HQq.out, show day + 1 + ((k - 1 : Nat) : Int) = day + k by omega, hS]; rfl
        have HQ : Hid (days - cnt (fun y => !(stillB c y)) (day + 1) (k + 1 - 1) = days - q - 1) := by unfold Hid; rw [Nat.add_sub_cancel, HC.out]; omega
        by_cases hL : days - q - 1 ≤ 0
        · have hLb : decide (days - q - 1 ≤ 0) = true := by simpa using hL
          cases hx : freeB c (day + k)
          · have hT : endB c day days (day + k) = true := by rw [hE.out, hx, HC.out]; simp; omega
            gi_wp2_with (first | (refine ⟨trivial, ?_⟩; gi_at_call 80; refine Calls.useR ((isStill_calls _ c (day + k) _ (HCal.out.below hBw)).use ?_); intro w1 hb1 hz1 hc1 hf1; have s0 := (hc1 w.heap.size 0 (by omega)).trans f0; have s1 := (hc1 w.heap.size 1 (by omega)).trans f1; have s2 := (hc1 w.heap.size 2 (by omega)).trans f2; have s4 := (hc1 (w.heap.size + 2) 0 (by omega)).trans f4; have s5 := (hf1 (w.heap.size + 2) 0 (by omega)).trans f5; have s6 := (hc1 (w.heap.size + 3) 0 (by omega)).trans f6; have s7 := (hf1 (w.heap.size + 3) 0 (by omega)).trans f7; clear hc1 hf1) | (refine ⟨trivial, ?_⟩; gi_at_call 76; refine Calls.useR ((isFree_calls _ c (day + k) _ (HCal.out.below (below_set (below_tail hb1 hBw) (p := ⟨w.heap.size + 2, 0, none⟩) (by dsimp only; omega) _)) hv1 hv2 (by omega) (by omega)).use ?_); intro w2 hb2 hz2 hc2 hf2; have r6 := (hc2 (w.heap.size + 3) 0 (by simp; omega)).trans (by simp [go_sem]; exact s6); have r7 := (hf2 (w.heap.size + 3) 0 (by simp; omega)).trans (by simp [go_sem]; exact s7); clear hc2 hf2) | (refine ⟨trivial, ?_⟩))
            exact ⟨(((keeps_of_below hb1).trans (KeepsOthers.setCell _ _ _)).trans (keeps_of_below hb2)).trans (KeepsOthers.setCell _ _ _), rfl, hk, hT, HNo.out, _, below_box0 ((below_box (HB.out.trans (hb1.mono hsW)) (.int .i64 (days - q - 1))).trans (hb2.mono (by simp; omega))) _⟩
          · have hF : endB c day days (day + k) = false := by rw [hE.out, hx]; simp
            gi_wp2_with (first | (refine ⟨trivial, ?_⟩; gi_at_call 80; refine Calls.useR ((isStill_calls _ c (day + k) _ (HCal.out.below hBw)).use ?_); intro w1 hb1 hz1 hc1 hf1; have s0 := (hc1 w.heap.size 0 (by omega)).trans f0; have s1 := (hc1 w.heap.size 1 (by omega)).trans f1; have s2 := (hc1 w.heap.size 2 (by omega)).trans f2; have s4 := (hc1 (w.heap.size + 2) 0 (by omega)).trans f4; have s5 := (hf1 (w.heap.size + 2) 0 (by omega)).trans f5; have s6 := (hc1 (w.heap.size + 3) 0 (by omega)).trans f6; have s7 := (hf1 (w.heap.size + 3) 0 (by omega)).trans f7; clear hc1 hf1) | (refine ⟨trivial, ?_⟩; gi_at_call 76; refine Calls.useR ((isFree_calls _ c (day + k) _ (HCal.out.below (below_set (below_tail hb1 hBw) (p := ⟨w.heap.size + 2, 0, none⟩) (by dsimp only; omega) _)) hv1 hv2 (by omega) (by omega)).use ?_); intro w2 hb2 hz2 hc2 hf2; have r6 := (hc2 (w.heap.size + 3) 0 (by simp; omega)).trans (by simp [go_sem]; exact s6); have r7 := (hf2 (w.heap.size + 3) 0 (by simp; omega)).trans (by simp [go_sem]; exact s7); clear hc2 hf2) | (refine ⟨trivial, ?_⟩))
            exact ⟨(((keeps_of_below hb1).trans (KeepsOthers.setCell _ _ _)).trans (keeps_of_below hb2)), by rw [HQ.out]; exact ((below_box (HB.out.trans (hb1.mono hsW)) (.int .i64 (days - q - 1))).trans (hb2.mono (by simp; omega))), hkM hF, fun i hi => (Nat.lt_succ_iff_lt_or_eq.1 hi).elim (HNo.out i) (fun e => e ▸ hF)⟩
        · have hLb : decide (days - q - 1 ≤ 0) = false := by simpa using hL
          have hF : endB c day days (day + k) = false := by
            have : decide (days ≤ cnt (fun y => !(stillB c y)) (day + 1) k) = false := by rw [HC.out]; simp; omega
            rw [hE.out, this]; rfl
          gi_wp2_with (first | (refine ⟨trivial, ?_⟩; gi_at_call 80; refine Calls.useR ((isStill_calls _ c (day + k) _ (HCal.out.below hBw)).use ?_); intro w1 hb1 hz1 hc1 hf1; have s0 := (hc1 w.heap.size 0 (by omega)).trans f0; have s1 := (hc1 w.heap.size 1 (by omega)).trans f1; have s2 := (hc1 w.heap.size 2 (by omega)).trans f2; have s4 := (hc1 (w.heap.size + 2) 0 (by omega)).trans f4; have s5 := (hf1 (w.heap.size + 2) 0 (by omega)).trans f5; have s6 := (hc1 (w.heap.size + 3) 0 (by omega)).trans f6; have s7 := (hf1 (w.heap.size + 3) 0 (by omega)).trans f7; clear hc1 hf1) | (refine ⟨trivial, ?_⟩))
          exact ⟨((keeps_of_below hb1).trans (KeepsOthers.setCell _ _ _)), by rw [HQ.out]; exact (below_box (HB.out.trans (hb1.mono hsW)) (.int .i64 (days - q - 1))), hkM hF, fun i hi => (Nat.lt_succ_iff_lt_or_eq.1 hi).elim (HNo.out i) (fun e => e ▸ hF)⟩
      · have HC : Hid (cnt (fun y => !(stillB c y)) (day + 1) k = q) := by
          unfold Hid
          rw [show k = (k - 1) + 1 by omega, cnt, HQq.out, show day + 1 + ((k - 1 : Nat) : Int) = day + k by omega, hS]; simp
        have HQ : Hid (days - cnt (fun y => !(stillB c y)) (day + 1) (k + 1 - 1) = days - q) := by unfold Hid; rw [Nat.add_sub_cancel, HC.out]
        by_cases hL : days - q ≤ 0
        · have hLb : decide (days - q ≤ 0) = true := by simpa using hL
          cases hx : freeB c (day + k)
          · have hT : endB c day days (day + k) = true := by rw [hE.out, hx, HC.out]; simp; omega
            gi_wp2_with (first | (refine ⟨trivial, ?_⟩; gi_at_call 80; refine Calls.useR ((isStill_calls _ c (day + k) _ (HCal.out.below hBw)).use ?_); intro w1 hb1 hz1 hc1 hf1; have s0 := (hc1 w.heap.size 0 (by omega)).trans f0; have s1 := (hc1 w.heap.size 1 (by omega)).trans f1; have s2 := (hc1 w.heap.size 2 (by omega)).trans f2; have s4 := (hc1 (w.heap.size + 2) 0 (by omega)).trans f4; have s5 := (hf1 (w.heap.size + 2) 0 (by omega)).trans f5; have s6 := (hc1 (w.heap.size + 3) 0 (by omega)).trans f6; have s7 := (hf1 (w.heap.size + 3) 0 (by omega)).trans f7; clear hc1 hf1) | (refine ⟨trivial, ?_⟩; gi_at_call 76; refine Calls.useR ((isFree_calls _ c (day + k) _ (HCal.out.below (below_tail hb1 hBw)) hv1 hv2 (by omega) (by omega)).use ?_); intro w2 hb2 hz2 hc2 hf2; have r6 := (hc2 (w.heap.size + 3) 0 (by omega)).trans s6; have r7 := (hf2 (w.heap.size + 3) 0 (by omega)).trans s7; clear hc2 hf2) | (refine ⟨trivial, ?_⟩))
            exact ⟨((keeps_of_below hb1).trans (keeps_of_below hb2)).trans (KeepsOthers.setCell _ _ _), rfl, hk, hT, HNo.out, _, below_box0 ((HB.out.trans (hb1.mono hsW)).trans (hb2.mono (by omega))) _⟩
          · have hF : endB c day days (day + k) = false := by rw [hE.out, hx]; simp
            gi_wp2_with (first | (refine ⟨trivial, ?_⟩; gi_at_call 80; refine Calls.useR ((isStill_calls _ c (day + k) _ (HCal.out.below hBw)).use ?_); intro w1 hb1 hz1 hc1 hf1; have s0 := (hc1 w.heap.size 0 (by omega)).trans f0; have s1 := (hc1 w.heap.size 1 (by omega)).trans f1; have s2 := (hc1 w.heap.size 2 (by omega)).trans f2; have s4 := (hc1 (w.heap.size + 2) 0 (by omega)).trans f4; have s5 := (hf1 (w.heap.size + 2) 0 (by omega)).trans f5; have s6 := (hc1 (w.heap.size + 3) 0 (by omega)).trans f6; have s7 := (hf1 (w.heap.size + 3) 0 (by omega)).trans f7; clear hc1 hf1) | (refine ⟨trivial, ?_⟩; gi_at_call 76; refine Calls.useR ((isFree_calls _ c (day + k) _ (HCal.out.below (below_tail hb1 hBw)) hv1 hv2 (by omega) (by omega)).use ?_); intro w2 hb2 hz2 hc2 hf2; have r6 := (hc2 (w.heap.size + 3) 0 (by omega)).trans s6; have r7 := (hf2 (w.heap.size + 3) 0 (by omega)).trans s7; clear hc2 hf2) | (refine ⟨trivial, ?_⟩))
            exact ⟨((keeps_of_below hb1).trans (keeps_of_below hb2)), by rw [HQ.out]; exact ((HB.out.trans (hb1.mono hsW)).trans (hb2.mono (by omega))), hkM hF, fun i hi => (Nat.lt_succ_iff_lt_or_eq.1 hi).elim (HNo.out i) (fun e => e ▸ hF)⟩
        · have hLb : decide (days - q ≤ 0) = false := by simpa using hL
          have hF : endB c day days (day + k) = false := by
            have : decide (days ≤ cnt (fun y => !(stillB c y)) (day + 1) k) = false := by rw [HC.out]; simp; omega
            rw [hE.out, this]; rfl
          gi_wp2_with (first | (refine ⟨trivial, ?_⟩; gi_at_call 80; refine Calls.useR ((isStill_calls _ c (day + k) _ (HCal.out.below hBw)).use ?_); intro w1 hb1 hz1 hc1 hf1; have s0 := (hc1 w.heap.size 0 (by omega)).trans f0; have s1 := (hc1 w.heap.size 1 (by omega)).trans f1; have s2 := (hc1 w.heap.size 2 (by omega)).trans f2; have s4 := (hc1 (w.heap.size + 2) 0 (by omega)).trans f4; have s5 := (hf1 (w.heap.size + 2) 0 (by omega)).trans f5; have s6 := (hc1 (w.heap.size + 3) 0 (by omega)).trans f6; have s7 := (hf1 (w.heap.size + 3) 0 (by omega)).trans f7; clear hc1 hf1) | (refine ⟨trivial, ?_⟩))
          exact ⟨(keeps_of_below hb1), by rw [HQ.out]; exact (HB.out.trans (hb1.mono hsW)), hkM hF, fun i hi => (Nat.lt_succ_iff_lt_or_eq.1 hi).elim (HNo.out i) (fun e => e ▸ hF)⟩
    · have hkb : decide ((0 : Int) < (k : Int)) = false := by simp; omega
      have HC : Hid (cnt (fun y => !(stillB c y)) (day + 1) k = q) := by
        unfold Hid; rw [← HQq.out, show k - 1 = k by omega]
      have HQ : Hid (days - cnt (fun y => !(stillB c y)) (day + 1) (k + 1 - 1) = days - q) := by unfold Hid; rw [Nat.add_sub_cancel, HC.out]
      by_cases hL : days - q ≤ 0
      · have hLb : decide (days - q ≤ 0) = true := by simpa using hL
        cases hx : freeB c (day + k)
        · have hT : endB c day days (day + k) = true := by rw [hE.out, hx, HC.out]; simp; omega
          gi_wp2_with (first | (refine ⟨trivial, ?_⟩; gi_at_call 76; refine Calls.useR ((isFree_calls _ c (day + k) _ (HCal.out.below hBw) hv1 hv2 (by omega) (by omega)).use ?_); intro w2 hb2 hz2 hc2 hf2; have r6 := (hc2 (w.heap.size + 3) 0 (by omega)).trans f6; have r7 := (hf2 (w.heap.size + 3) 0 (by omega)).trans f7; clear hc2 hf2) | (refine ⟨trivial, ?_⟩))
          exact ⟨(keeps_of_below hb2).trans (KeepsOthers.setCell _ _ _), rfl, hk, hT, HNo.out, _, below_box0 (HB.out.trans (hb2.mono hsW)) _⟩
        · have hF : endB c day days (day + k) = false := by rw [hE.out, hx]; simp
          gi_wp2_with (first | (refine ⟨trivial, ?_⟩; gi_at_call 76; refine Calls.useR ((isFree_calls _ c (day + k) _ (HCal.out.below hBw) hv1 hv2 (by omega) (by omega)).use ?_); intro w2 hb2 hz2 hc2 hf2; have r6 := (hc2 (w.heap.size + 3) 0 (by omega)).trans f6; have r7 := (hf2 (w.heap.size + 3) 0 (by omega)).trans f7; clear hc2 hf2) | (refine ⟨trivial, ?_⟩))
          exact ⟨(keeps_of_below hb2), by rw [HQ.out]; exact (HB.out.trans (hb2.mono hsW)), hkM hF, fun i hi => (Nat.lt_succ_iff_lt_or_eq.1 hi).elim (HNo.out i) (fun e => e ▸ hF)⟩
      · have hLb : decide (days - q ≤ 0) = false := by simpa using hL
        have hF : endB c day days (day + k) = false := by
          have : decide (days ≤ cnt (fun y => !(stillB c y)) (day + 1) k) = false := by rw [HC.out]; simp; omega
          rw [hE.out, this]; rfl
        gi_wp2_with (refine ⟨trivial, ?_⟩)
        exact ⟨(KeepsOthers.refl _), by rw [HQ.out]; first | exact HB.out | (rw [← hsz]; exact HB.out), hkM hF, fun i hi => (Nat.lt_succ_iff_lt_or_eq.1 hi).elim (HNo.out i) (fun e => e ▸ hF)⟩
  case done => rintro m D W hm; cases hm
  case stop =>
    rintro D cd k W hD ⟨rfl, hk, hp, hno, x, hB⟩ hK
    have hfd : endsF c day days = day + k := firstDay_eq k 20000 day hno hp (by omega)
    gi_wp2
    refine ⟨by simp, .inl ⟨_, _, rfl, run_takeDeferred hK, ?_⟩⟩
    have hsW : W0.heap.size ≤ W.heap.size := by have := hB.size; simpa [World.setCell] using this
    have hP := below_obj (B := W0.heap.size) (W := W) (.deferred none) hD hsW
    have hr3 : (W.putObj D (.deferred none)).cell? ⟨w.heap.size + 3, 0, none⟩ = some (.int .i64 (day + k)) := by
      rw [(hB.trans hP).cell (p := ⟨w.heap.size + 3, 0, none⟩) (by dsimp only; omega)]
      exact World.cell?_setCell_same' _ _ _ (by simp [go_sem, e6])
    refine ⟨.int .i64 (day + k), ?_, by rw [hfd], ?_⟩
    · simp [results, Try.f56, go_sem, hr3]
    · exact (below_set (below_set hB0 (p := ⟨w.heap.size + 2, 0, none⟩) (by dsimp only; omega) x) (p := ⟨w.heap.size + 3, 0, none⟩) (by dsimp only; omega) _).trans ((hB.trans hP).mono (by omega))
end Go.Proofs.Ytnhohnnoffhkhaa
