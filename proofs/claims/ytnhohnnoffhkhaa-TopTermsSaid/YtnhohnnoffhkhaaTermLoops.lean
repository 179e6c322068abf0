/- The loops of package term that range over days. Conditions: a calendar lies in memory as said. -/
import Derived.Test.YtnhohnnoffhkhaaTermValidR
import Derived.Test.YtnhohnnoffhkhaaTermDays
import Derived.Test.YtnhohnnoffhkhaaRange
namespace Go.Proofs.Ytnhohnnoffhkhaa
open Go.RowKit Go.Shelf
attribute [local go_sem] Oper.semAt_some

set_option maxHeartbeats 400000 in
theorem days_calls (d : Int) (w : World) :
    Calls Try.prog 88 #[.int .i64 d] w fun e w' => e = .returned (.func (.func 98) #[] #[.pointer (some ⟨w.heap.size, 0, none⟩)]) ∧ w.alloc (.cells #[.int .i64 d] 3) = w' := by
  go_enter Try.func88, Try.ntmps88
  go_wp2
  go_ret
  exact ⟨rfl, rfl⟩

set_option maxHeartbeats 400000 in
theorem days_iter (b : Nat) (d : Int) (h0 : 0 ≤ d) (h1 : d ≤ 1000000) :
    Iter Try.prog 98 #[.pointer (some ⟨b, 0, none⟩)] (fun k => #[.int .i64 (d + k)]) none (fun W => W.cell? ⟨b, 0, none⟩ = some (.int .i64 d)) := by
  intro n l J Jx W hR hJ hJx hY hN hJ0
  have hN := hN rfl
  have hc := hR 0 W hJ0
  refine callsIn_of_wp Try.func98 rfl trivial ?_ rfl
  simp only [Try.ntmps98, List.size_toArray, List.length_cons, List.length_nil, Nat.reduceAdd, Nat.reduceSub, Array.replicate_succ, Array.replicate_zero, List.push_toArray, List.append_toArray, List.nil_append, List.cons_append]
  have HJ0 := Lib.hid hJ0
  have HY := Lib.hid hY
  have HN := Lib.hid hN
  clear hJ0 hY hN hR hJ hJx
  gi_wp2
  gi_loopw [3] (fun p wr => ∃ k : Nat, p = .int .i64 (d + k) ∧ J k wr) (fun p _ => 2000000 - (intOf p).toNat)
  case atStart => exact ⟨0, by simp, HJ0.out⟩
  case round =>
    obtain ⟨k, rfl, hJk⟩ := hrel
    have hk := HN.out k wr hJk
    obtain ⟨fn, tmps, assign, body, hy, hRd⟩ := HY.out k wr hJk (fun m h => by cases h)
    gi_wp2
    refine ⟨fun h => (by cases h), ?_⟩
    refine hRd.mono ?_
    rintro e W3 (⟨rfl, hJ3⟩ | ⟨rfl, hJx3⟩)
    · gi_wp2
      go_roundw
      case rel => exact ⟨k + 1, by go_num, hJ3⟩
      case measure => simp [intOf]; omega
    · gi_wp2
      go_end0
      exact ⟨⟨_, rfl⟩, .inr ⟨k, hJx3⟩⟩

set_option maxHeartbeats 1000000 in
theorem next_calls (v : Value) (c : Cal) (d : Int) (w : World) (h : CalAt w v c) (hv : validF c = 0) (hv1 : 0 ≤ c.first) (hv2 : c.first ≤ 6) (h3 : 0 ≤ d) (h4 : d ≤ 100000) :
    Gives Try.prog 66 #[v, .int .i64 d] w (.int .i64 (nextF c d)) := by
  obtain ⟨fa, fc, sa, sc, rfl, hf, hs, hfc, hsc, hfl, hsl⟩ := h.cells
  have HCal := Lib.hid h
  obtain ⟨M, hM, _, hMp⟩ := next_some hv h3
  have HM := Lib.hid hMp
  clear h hf hs hv hMp
  unfold Gives
  refine (callsIn_wide (n := 9)).1 ?_
  refine callsIn_of_wp_marks Try.func66 rfl trivial ?_ rfl
  simp only [Try.ntmps66, List.size_toArray, List.length_cons, List.length_nil, Nat.reduceAdd, Nat.reduceSub, Array.replicate_succ, Array.replicate_zero, List.push_toArray, List.append_toArray, List.nil_append, List.cons_append]
  gi_wp2_with (refine ⟨trivial, ?_⟩; gi_at_call 88; refine (callsIn_wide.2 (days_calls _ _)).mono ?_; rintro e w' ⟨rfl, rfl⟩)
  obtain ⟨W0, hW0⟩ : ∃ W0, (((w.alloc (.cells #[.int .i64 c.first, .slice fa c.free.length fc, .slice sa c.still.length sc] 25)).alloc (.cells #[.int .i64 0] 3)).alloc (.cells #[.int .i64 d] 3)) = W0 := ⟨_, rfl⟩
  rw [hW0]
  have hB0 : Below w.heap.size w W0 := by rw [← hW0]; (repeat' (first | exact Below.refl _ _ | assumption | refine below_new ?_ _ | refine below_draw ?_ | refine below_tail (by assumption) ?_ | refine below_set ?_ (by first | omega | (simp <;> omega)) _))
  have hsz : W0.heap.size = w.heap.size + 3 := by rw [← hW0]; simp [go_sem]
  have e0 : W0.cell? ⟨w.heap.size, 0, none⟩ = some (.int .i64 c.first) := by rw [← hW0]; simp [go_sem]
  have e1 : W0.cell? ⟨w.heap.size, 1, none⟩ = some (.slice fa c.free.length fc) := by rw [← hW0]; simp [go_sem]
  have e2 : W0.cell? ⟨w.heap.size, 2, none⟩ = some (.slice sa c.still.length sc) := by rw [← hW0]; simp [go_sem]
  have e3 : W0.cell? ⟨w.heap.size + 1, 0, none⟩ = some (.int .i64 0) := by rw [← hW0]; simp [go_sem]
  have e4 : W0.frozen? ⟨w.heap.size + 1, 0, none⟩ = false := by rw [← hW0]; simp [go_sem]
  have e5 : W0.cell? ⟨w.heap.size + 2, 0, none⟩ = some (.int .i64 d) := by rw [← hW0]; simp [go_sem]
  clear hW0
  refine wide_rangeFunc (gf := 98) (lb := #[.pointer (some ⟨w.heap.size + 2, 0, none⟩)]) rfl (enters_of Try.func98 (by kernel_rfl) rfl) (days_iter (w.heap.size + 2) d h3 (by omega)) (fun _ => rfl)
    (fun k W => Below W0.heap.size W0 W ∧ k ≤ M ∧ ∀ i : Nat, i < k → (!(freeB c (d + i))) = false)
    (fun cd k W => cd = .ret ∧ k ≤ M ∧ (!(freeB c (d + k))) = true ∧ (∀ i : Nat, i < k → (!(freeB c (d + i))) = false) ∧ Below W0.heap.size (W0.setCell ⟨w.heap.size + 1, 0, none⟩ (.int .i64 (d + k))) W)
    (fun k W h => (h.1.cell (p := ⟨w.heap.size + 2, 0, none⟩) (by dsimp only; omega)).trans e5)
    (fun k W W' h hb => ⟨h.1.trans hb, h.2⟩)
    (fun cd k W W' h hb => ⟨h.1, h.2.1, h.2.2.1, h.2.2.2.1, h.2.2.2.2.trans hb⟩)
    (fun _ k W h => by have := h.2.1; omega)
    ⟨Below.refl _ _, Nat.zero_le _, fun i hi => absurd hi (by omega)⟩
    (fun k a' W => a' = { tmps := #[.agg #[.int .i64 c.first, .slice fa c.free.length fc, .slice sa c.still.length sc], .int .i64 d, .pointer (some ⟨w.heap.size, 0, none⟩), undef, .pointer (some ⟨w.heap.size + 1, 0, none⟩), .int .i64 (d + k), .int .i64 d, .func (.func 98) #[] #[.pointer (some ⟨w.heap.size + 2, 0, none⟩)], .int .i64 (d + k), undef, undef, undef, undef, undef, undef], defers := [] })
    (fun k a' W W' h _ => h) ?assign ?body ?done ?stop
  case assign =>
    intro l k W K hsW hI hm hK
    gi_wp2
    exact hK _ _ (KeepsOthers.refl _) hI rfl
  case body =>
    rintro l k a' W hl hr hsW ⟨hB, hk, hno⟩ rfl hm
    have hBw : Below w.heap.size w W := below_tail hB hB0
    have f0 := (hB.cell (p := ⟨w.heap.size, 0, none⟩) (by dsimp only; omega)).trans e0
    have f1 := (hB.cell (p := ⟨w.heap.size, 1, none⟩) (by dsimp only; omega)).trans e1
    have f2 := (hB.cell (p := ⟨w.heap.size, 2, none⟩) (by dsimp only; omega)).trans e2
    have f3 := (hB.cell (p := ⟨w.heap.size + 1, 0, none⟩) (by dsimp only; omega)).trans e3
    have f4 := (hB.frozen (p := ⟨w.heap.size + 1, 0, none⟩) (by dsimp only; omega)).trans e4
    have HNo := Lib.hid hno
    clear hno
    cases hx : freeB c (d + k)
    · gi_wp2_with (refine ⟨trivial, ?_⟩; gi_at_call 76; refine Calls.useR ((isFree_calls _ c (d + k) _ (HCal.out.below hBw) hv1 hv2 (by omega) (by omega)).use ?_); intro w1 hb1 hz1 hc1 hf1; have g3 := (hc1 (w.heap.size + 1) 0 (by omega)).trans f3; have g4 := (hf1 (w.heap.size + 1) 0 (by omega)).trans f4)
      exact ⟨(keeps_of_below hb1).trans (KeepsOthers.setCell _ _ _), rfl, hk, by rw [hx]; rfl, HNo.out, below_box0 (hB.trans (hb1.mono hsW)) _⟩
    · have hkM : k ≠ M := fun e => by have := HM.out; rw [← e, hx] at this; cases this
      gi_wp2_with (refine ⟨trivial, ?_⟩; gi_at_call 76; refine Calls.useR ((isFree_calls _ c (d + k) _ (HCal.out.below hBw) hv1 hv2 (by omega) (by omega)).use ?_); intro w1 hb1 hz1 hc1 hf1; have g3 := (hc1 (w.heap.size + 1) 0 (by omega)).trans f3; have g4 := (hf1 (w.heap.size + 1) 0 (by omega)).trans f4)
      refine ⟨keeps_of_below hb1, hB.trans (hb1.mono hsW), by omega, fun i hi => ?_⟩
      rcases Nat.lt_succ_iff_lt_or_eq.1 hi with hi | rfl
      · exact HNo.out i hi
      · rw [hx]; rfl
  case done => rintro m D W hm; cases hm
  case stop =>
    rintro D cd k W hD ⟨rfl, hk, hp, hno, hB⟩ hK
    have hfd : nextF c d = d + k := firstDay_eq k 20000 d hno hp (by omega)
    gi_wp2
    refine ⟨by simp, .inl ⟨_, _, rfl, run_takeDeferred hK, ?_⟩⟩
    have hsW : W0.heap.size ≤ W.heap.size := by have := hB.size; simpa [World.setCell] using this
    have hP := below_obj (B := W0.heap.size) (W := W) (.deferred none) hD hsW
    have hr3 : (W.putObj D (.deferred none)).cell? ⟨w.heap.size + 1, 0, none⟩ = some (.int .i64 (d + k)) := by
      rw [(hB.trans hP).cell (p := ⟨w.heap.size + 1, 0, none⟩) (by dsimp only; omega)]
      exact World.cell?_setCell_same' _ _ _ (by rw [e3]; rfl)
    refine ⟨.int .i64 (d + k), ?_, by rw [hfd], ?_⟩
    · simp [results, Try.f66, go_sem, hr3]
    · exact (below_set hB0 (p := ⟨w.heap.size + 1, 0, none⟩) (by dsimp only; omega) _).trans ((hB.trans hP).mono (by omega))

set_option maxHeartbeats 1000000 in
theorem count_calls (fr tt : Int) (g : Nat) (cap : Array Value) (p : Int → Bool) (w : World) (h0 : 0 ≤ fr) (h1 : fr ≤ tt) (h2 : tt ≤ 10000)
    (eg : ∀ args w, (callFunc g args).run Try.prog w = .ok (.enter g args) w)
    (hp : ∀ x w', Below w.heap.size w w' → 0 ≤ x → x ≤ 10000 → Gives Try.prog g (#[.int .i64 x] ++ cap) w' (.bool (p x))) :
    Gives Try.prog 78 #[.int .i64 fr, .int .i64 tt, .func (.func g) #[] cap] w (.int .i64 (cnt p fr (tt - fr + 1).toNat)) := by
  obtain ⟨M, hM⟩ : ∃ M : Nat, tt - fr + 1 = M := ⟨(tt - fr + 1).toNat, by omega⟩
  have HM : Hid ((tt - fr + 1).toNat = M) := by unfold Hid; omega
  have HP := Lib.hid hp
  have hM2 : fr + M = tt + 1 := by omega
  have HM2 := Lib.hid hM2
  have hM3 : M ≤ 10001 := by omega
  clear hp hM hM2
  unfold Gives
  refine (callsIn_wide (n := 9)).1 ?_
  refine callsIn_of_wp_marks Try.func78 rfl trivial ?_ rfl
  simp only [Try.ntmps78, List.size_toArray, List.length_cons, List.length_nil, Nat.reduceAdd, Nat.reduceSub, Array.replicate_succ, Array.replicate_zero, List.push_toArray, List.append_toArray, List.nil_append, List.cons_append]
  gi_wp2_with (refine ⟨trivial, ?_⟩; gi_at_call 88; refine (callsIn_wide.2 (days_calls _ _)).mono ?_; rintro e w' ⟨rfl, rfl⟩)
  obtain ⟨W0, hW0⟩ : ∃ W0, ((((w.alloc (.cells #[.int .i64 tt] 3)).alloc (.cells #[.func (.func g) #[] cap] 76)).alloc (.cells #[.int .i64 0] 3)).alloc (.cells #[.int .i64 fr] 3)) = W0 := ⟨_, rfl⟩
  rw [hW0]
  have hB0 : Below w.heap.size w W0 := by rw [← hW0]; (repeat' (first | exact Below.refl _ _ | assumption | refine below_new ?_ _ | refine below_draw ?_ | refine below_tail (by assumption) ?_ | refine below_set ?_ (by first | omega | (simp <;> omega)) _))
  have hsz : W0.heap.size = w.heap.size + 4 := by rw [← hW0]; simp
  have e0 : W0.cell? ⟨w.heap.size, 0, none⟩ = some (.int .i64 tt) := by rw [← hW0]; simp [go_sem]
  have e1 : W0.cell? ⟨w.heap.size + 1, 0, none⟩ = some (.func (.func g) #[] cap) := by rw [← hW0]; simp [go_sem]
  have e2 : W0.cell? ⟨w.heap.size + 2, 0, none⟩ = some (.int .i64 0) := by rw [← hW0]; simp [go_sem]
  have e3 : W0.frozen? ⟨w.heap.size + 2, 0, none⟩ = false := by rw [← hW0]; simp [go_sem]
  have e4 : W0.cell? ⟨w.heap.size + 3, 0, none⟩ = some (.int .i64 fr) := by rw [← hW0]; simp [go_sem]
  clear hW0
  refine wide_rangeFunc (gf := 98) (lb := #[.pointer (some ⟨w.heap.size + 3, 0, none⟩)]) rfl (enters_of Try.func98 (by kernel_rfl) rfl) (days_iter (w.heap.size + 3) fr h0 (by omega)) (fun _ => rfl)
    (fun k W => Below W0.heap.size (W0.setCell ⟨w.heap.size + 2, 0, none⟩ (.int .i64 (cnt p fr k))) W ∧ k ≤ M)
    (fun cd k W => cd = .exit 0 ∧ k = M ∧ Below W0.heap.size (W0.setCell ⟨w.heap.size + 2, 0, none⟩ (.int .i64 (cnt p fr k))) W)
    (fun k W h => (h.1.cell (p := ⟨w.heap.size + 3, 0, none⟩) (by dsimp only; omega)).trans (by simp [go_sem, e4]))
    (fun k W W' h hb => ⟨h.1.trans hb, h.2⟩)
    (fun cd k W W' h hb => ⟨h.1, h.2.1, h.2.2.trans hb⟩)
    (fun _ k W h => by have := h.2; omega)
    ⟨below_set_same e2, Nat.zero_le _⟩
    (fun k a' W => a' = { tmps := #[.int .i64 fr, .int .i64 tt, .func (.func g) #[] cap, undef, .pointer (some ⟨w.heap.size, 0, none⟩), .pointer (some ⟨w.heap.size + 1, 0, none⟩), .int .i64 0, .pointer (some ⟨w.heap.size + 2, 0, none⟩), .int .i64 (fr + k), .int .i64 fr, .func (.func 98) #[] #[.pointer (some ⟨w.heap.size + 3, 0, none⟩)], .int .i64 (fr + k), undef, undef, undef, undef, undef, undef, undef, undef, undef], defers := [] })
    (fun k a' W W' h _ => h) ?assign ?body ?done ?stop
  case assign =>
    intro l k W K hsW hI hm hK
    gi_wp2
    exact hK _ _ (KeepsOthers.refl _) hI rfl
  case body =>
    rintro l k a' W hl hr hsW ⟨hB, hk⟩ rfl hm
    have hBw : Below w.heap.size w W := (below_set hB0 (p := ⟨w.heap.size + 2, 0, none⟩) (by dsimp only; omega) _).trans (hB.mono (by omega))
    have f0 := (hB.cell (p := ⟨w.heap.size, 0, none⟩) (by dsimp only; omega)).trans (by simp [go_sem]; exact e0)
    have f1 := (hB.cell (p := ⟨w.heap.size + 1, 0, none⟩) (by dsimp only; omega)).trans (by simp [go_sem]; exact e1)
    have f2 := (hB.cell (p := ⟨w.heap.size + 2, 0, none⟩) (by dsimp only; omega)).trans (World.cell?_setCell_same' _ _ _ (by rw [e2]; rfl))
    have f3 := (hB.frozen (p := ⟨w.heap.size + 2, 0, none⟩) (by dsimp only; omega)).trans (by simp [go_sem]; exact e3)
    by_cases hlt : k < M
    · have hle : fr + k ≤ tt := by have := HM2.out; omega
      have hc := cnt_nonneg p fr k
      have hc2 := cnt_le p fr k
      cases hx : p (fr + k)
      · have hs : Hid (cnt p fr (k + 1) = cnt p fr k) := by unfold Hid; rw [cnt, hx]; simp
        gi_wp2_with (refine ⟨trivial, ?_⟩; refine Calls.useR ((HP.out (fr + k) _ hBw (by omega) (by omega)).use ?_); intro w1 hb1 hz1 hc1 hf1; have g3 := (hc1 (w.heap.size + 2) 0 (by omega)).trans f2; have g4 := (hf1 (w.heap.size + 2) 0 (by omega)).trans f3)
        exact ⟨keeps_of_below hb1, by rw [hs.out]; exact hB.trans (hb1.mono hsW), by omega⟩
      · have hs : Hid (cnt p fr (k + 1) = cnt p fr k + 1) := by unfold Hid; rw [cnt, hx]; simp
        gi_wp2_with (refine ⟨trivial, ?_⟩; refine Calls.useR ((HP.out (fr + k) _ hBw (by omega) (by omega)).use ?_); intro w1 hb1 hz1 hc1 hf1; have g3 := (hc1 (w.heap.size + 2) 0 (by omega)).trans f2; have g4 := (hf1 (w.heap.size + 2) 0 (by omega)).trans f3)
        exact ⟨(keeps_of_below hb1).trans (KeepsOthers.setCell _ _ _), by rw [hs.out]; exact below_box (hB.trans (hb1.mono hsW)) _, by omega⟩
    · have hkM : k = M := by omega
      have hgt : tt < fr + k := by have := HM2.out; omega
      gi_wp2
      exact ⟨KeepsOthers.refl _, rfl, hkM, hB⟩
  case done => rintro m D W hm; cases hm
  case stop =>
    rintro D cd k W hD ⟨rfl, hk, hB⟩ hK
    have f2 := (hB.cell (p := ⟨w.heap.size + 2, 0, none⟩) (by dsimp only; omega)).trans (World.cell?_setCell_same' _ _ _ (by rw [e2]; rfl))
    have hsW : W0.heap.size ≤ W.heap.size := by have := hB.size; simpa [World.setCell] using this
    gi_wp2
    refine ⟨by simp, .inl ⟨_, _, rfl, run_takeDeferred hK, ?_⟩⟩
    have hP := below_obj (B := W0.heap.size) (W := W) (.deferred none) hD hsW
    refine ⟨.int .i64 (cnt p fr M), by simp [results, Try.f78, go_sem], by rw [HM.out], ?_⟩
    exact (below_set hB0 (p := ⟨w.heap.size + 2, 0, none⟩) (by dsimp only; omega) _).trans ((hB.trans hP).mono (by omega))
end Go.Proofs.Ytnhohnnoffhkhaa
