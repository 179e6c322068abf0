/- Two equal calendars are the same. Conditions: both lie in memory as said. -/
import Derived.Test.YtnhohnnoffhkhaaOwn2
namespace Go.Proofs.Ytnhohnnoffhkhaa
open Go.RowKit

set_option maxHeartbeats 1000000 in
set_option maxRecDepth 100000 in
theorem same_calls (v v' : Value) (c : Cal) (w : World) (h : CalAt w v c) (h' : CalAt w v' c) :
    Gives Try.prog 51 #[v, v'] w (.bool true) := by
  obtain ⟨fa, fc, sa, sc, rfl, hf, hs, hfc, hsc, hfl, hsl⟩ := h.cells
  obtain ⟨ga, gc, ta, tc, rfl, hg, ht, hgc, htc, hgl, htl⟩ := h'.cells
  have HF := Lib.hid hf
  have HS := Lib.hid hs
  have HG := Lib.hid hg
  have HT := Lib.hid ht
  clear h h' hf hs hg ht
  have e1 : (c.first != c.first) = false := by simp
  have e2 : ((c.free.length : Int) != (c.free.length : Int)) = false := by simp
  have e3 : ((c.still.length : Int) != (c.still.length : Int)) = false := by simp
  unfold Gives
  go_enter Try.func51, Try.ntmps51
  go_wp2
  obtain ⟨W0, hW0⟩ : ∃ W0 : World, W0 = (w.alloc (.cells #[.int .i64 c.first, .slice fa c.free.length fc, .slice sa c.still.length sc] 25)).alloc (.cells #[.int .i64 c.first, .slice ga c.free.length gc, .slice ta c.still.length tc] 25) := ⟨_, rfl⟩
  have hW1 : Hid (Below w.heap.size w W0) := by rw [hW0]; exact below_new (below_new (Below.refl _ _) _) _
  have hsz : w.heap.size + 2 = W0.heap.size := by rw [hW0]; simp

  have k0 : Hid (W0.cell? ⟨w.heap.size, 0, none⟩ = some (.int .i64 c.first)) := by rw [hW0]; unfold Hid; simp [go_sem]
  have k1 : Hid (W0.cell? ⟨w.heap.size, 1, none⟩ = some (.slice fa c.free.length fc)) := by rw [hW0]; unfold Hid; simp [go_sem]
  have k2 : Hid (W0.cell? ⟨w.heap.size, 2, none⟩ = some (.slice sa c.still.length sc)) := by rw [hW0]; unfold Hid; simp [go_sem]
  have k3 : Hid (W0.cell? ⟨w.heap.size + 1, 0, none⟩ = some (.int .i64 c.first)) := by rw [hW0]; unfold Hid; simp [go_sem]
  have k4 : Hid (W0.cell? ⟨w.heap.size + 1, 1, none⟩ = some (.slice ga c.free.length gc)) := by rw [hW0]; unfold Hid; simp [go_sem]
  have k5 : Hid (W0.cell? ⟨w.heap.size + 1, 2, none⟩ = some (.slice ta c.still.length tc)) := by rw [hW0]; unfold Hid; simp [go_sem]
  have HB : Hid (Below W0.heap.size W0 W0) := Below.refl _ _
  rw [← hW0]
  clear hW0
  go_loopw [5] (fun i wr => ∃ k : Nat, k ≤ c.free.length ∧ i = .int .i64 k ∧ Hid (Below W0.heap.size W0 wr)) (fun i _ => c.free.length - (intOf i).toNat)
  case atStart => exact ⟨0, Nat.zero_le _, rfl, HB.out⟩
  case round =>
    clear HB
    obtain ⟨k, hk, rfl, HB⟩ := hrel
    have b1 : wr.cell? ⟨w.heap.size, 1, none⟩ = some (.slice fa c.free.length fc) := (HB.out.cell (p := ⟨w.heap.size, 1, none⟩) (by dsimp only; omega)).trans k1.out
    have b4 : wr.cell? ⟨w.heap.size + 1, 1, none⟩ = some (.slice ga c.free.length gc) := (HB.out.cell (p := ⟨w.heap.size + 1, 1, none⟩) (by dsimp only; omega)).trans k4.out
    by_cases hlt : k < c.free.length
    · have hg : decide ((k : Int) < (c.free.length : Int)) = true := by simpa using hlt
      obtain ⟨x1, x2, e1, _, _, hcell0⟩ := (HF.out.below hW1.out).below HB.out
      simp only [Value.slice.injEq] at e1
      obtain ⟨e1, _, e2⟩ := e1
      subst e1 e2
      obtain ⟨xb, xo, e3, xB, hcx⟩ := hcell0 k hlt
      subst e3
      clear hcell0
      obtain ⟨y1, y2, e1, _, _, hcell0⟩ := (HG.out.below hW1.out).below HB.out
      simp only [Value.slice.injEq] at e1
      obtain ⟨e1, _, e2⟩ := e1
      subst e1 e2
      obtain ⟨yb, yo, e3, yB, hcy⟩ := hcell0 k hlt
      subst e3
      clear hcell0
      have hs1 : (gi c.free 0 k != gi c.free 0 k) = false := by simp
      have q0 := fun d os => cell_regrown b1 d os
      have q1 := fun d os => cell_regrown b4 d os
      have q2 := fun d os => cell_regrown hcx d os
      have q3 := fun d os => cell_regrown hcy d os
      go_wp2
      refine region_q mixed (by kernel_rfl) ?_
      repeat (go_big_quiet_step (fail))
      refine wpQuiet_nil ?_
      intro wq hbq
      clear q0 q1 q2 q3
      go_wp2
      go_roundw
      case rel => exact ⟨k + 1, by omega, by go_num, below_tail hbq HB.out⟩
      case measure => simp [intOf]; omega
    · have hg : decide ((k : Int) < (c.free.length : Int)) = false := by simpa using hlt
      go_wp2
      go_loopw [6] (fun i wr => ∃ k : Nat, k ≤ c.still.length ∧ i = .int .i64 k ∧ Hid (Below W0.heap.size W0 wr)) (fun i _ => c.still.length - (intOf i).toNat)
      case atStart => exact ⟨0, Nat.zero_le _, rfl, HB.out⟩
      case round =>
        clear HB b1 b4 hg hlt hk
        obtain ⟨k, hk, rfl, HB⟩ := hrel
        have b2 : wr.cell? ⟨w.heap.size, 2, none⟩ = some (.slice sa c.still.length sc) := (HB.out.cell (p := ⟨w.heap.size, 2, none⟩) (by dsimp only; omega)).trans k2.out
        have b5 : wr.cell? ⟨w.heap.size + 1, 2, none⟩ = some (.slice ta c.still.length tc) := (HB.out.cell (p := ⟨w.heap.size + 1, 2, none⟩) (by dsimp only; omega)).trans k5.out
        by_cases hlt : k < c.still.length
        · have hg : decide ((k : Int) < (c.still.length : Int)) = true := by simpa using hlt
          obtain ⟨x1, x2, e1, _, _, hcell0⟩ := (HS.out.below hW1.out).below HB.out
          simp only [Value.slice.injEq] at e1
          obtain ⟨e1, _, e2⟩ := e1
          subst e1 e2
          obtain ⟨xb, xo, e3, xB, hcx, hdx⟩ := hcell0 k hlt
          subst e3
          clear hcell0
          obtain ⟨y1, y2, e1, _, _, hcell0⟩ := (HT.out.below hW1.out).below HB.out
          simp only [Value.slice.injEq] at e1
          obtain ⟨e1, _, e2⟩ := e1
          subst e1 e2
          obtain ⟨yb, yo, e3, yB, hcy, hdy⟩ := hcell0 k hlt
          subst e3
          clear hcell0
          have hs1 : ((gi c.still (0, 0) k).1 != (gi c.still (0, 0) k).1) = false := by simp
          have hs2 : ((gi c.still (0, 0) k).2 != (gi c.still (0, 0) k).2) = false := by simp
          have hs3 : ((gi c.still (0, 0) k).1 == (gi c.still (0, 0) k).1) = true := by simp
          have hs4 : ((gi c.still (0, 0) k).2 == (gi c.still (0, 0) k).2) = true := by simp
          have q0 := fun d os => cell_regrown b2 d os
          have q1 := fun d os => cell_regrown b5 d os
          have q2 := fun d os => cell_regrown hcx d os
          have q3 := fun d os => cell_regrown hcy d os
          have q4 := fun d os => cell_regrown hdx d os
          have q5 := fun d os => cell_regrown hdy d os
          go_wp2
          refine region_q mixed (by kernel_rfl) ?_
          repeat (go_big_quiet_step (fail))
          refine wpQuiet_nil ?_
          intro wq hbq
          clear q0 q1 q2 q3 q4 q5
          go_wp2
          go_roundw
          case rel => exact ⟨k + 1, by omega, by go_num, below_tail hbq HB.out⟩
          case measure => simp [intOf]; omega
        · have hg : decide ((k : Int) < (c.still.length : Int)) = false := by simpa using hlt
          go_wp2
          go_ret
          exact ⟨rfl, below_tail HB.out hW1.out⟩
end Go.Proofs.Ytnhohnnoffhkhaa
