/- What slices.MinFunc (by order) and slices.Index give at points. Conditions: the list lies in memory as said; it is short and not empty. -/
import Derived.Test.YthiemglckmociaaPtNorm1
import Derived.Test.YthiemglckmociaaPtLowA
import Derived.Test.YthiemglckmociaaPtRQuarter
namespace Go.Proofs.Ythiemglckmociaa
open Go.RowKit

theorem put2_0 {w : World} {g : Nat} {a b u : Value} (h : w.cell? ⟨g, 0, none⟩ = some u) : ((w.setCell ⟨g, 0, none⟩ a).setCell ⟨g, 1, none⟩ b).cell? ⟨g, 0, none⟩ = some a :=
  (World.cell?_setCell_other _ _ _ _ (by simp)).trans (World.cell?_setCell_same' _ _ _ (by rw [h]; rfl))
theorem put2_1 {w : World} {g : Nat} {a b u : Value} (h : w.cell? ⟨g, 1, none⟩ = some u) : ((w.setCell ⟨g, 0, none⟩ a).setCell ⟨g, 1, none⟩ b).cell? ⟨g, 1, none⟩ = some b :=
  World.cell?_setCell_same' _ _ _ (by rw [World.cell?_setCell_other _ _ _ _ (by simp), h]; rfl)
theorem put2_far {w : World} {g h o : Nat} {a b : Value} (hn : h ≠ g) : ((w.setCell ⟨g, 0, none⟩ a).setCell ⟨g, 1, none⟩ b).cell? ⟨h, o, none⟩ = w.cell? ⟨h, o, none⟩ :=
  (World.cell?_setCell_other _ _ _ _ (by simp <;> omega)).trans (World.cell?_setCell_other _ _ _ _ (by simp <;> omega))
theorem put2_fr {w : World} {g : Nat} {p : Addr} {a b : Value} : ((w.setCell ⟨g, 0, none⟩ a).setCell ⟨g, 1, none⟩ b).frozen? p = w.frozen? p :=
  (World.frozen?_setCell _ _ _ _).trans (World.frozen?_setCell _ _ _ _)
/-- The number of the first smallest one among the first k + 1. -/
def fstK (l : List (Int × Int)) : Nat → Nat
  | 0 => 0
  | k + 1 => if ordF (gi l (0, 0) (k + 1)) (gi l (0, 0) (fstK l k)) < 0 then k + 1 else fstK l k
theorem fstK_le (l : List (Int × Int)) : ∀ k, fstK l k ≤ k
  | 0 => Nat.le_refl _
  | k + 1 => by unfold fstK; split
                · omega
                · have := fstK_le l k; omega
theorem fstK_yes {l : List (Int × Int)} {k : Nat} (h : decide (ordF (gi l (0, 0) (k + 1)) (gi l (0, 0) (fstK l k)) < 0) = true) : fstK l (k + 1) = k + 1 := if_pos (of_decide_eq_true h)
theorem fstK_no {l : List (Int × Int)} {k : Nat} (h : decide (ordF (gi l (0, 0) (k + 1)) (gi l (0, 0) (fstK l k)) < 0) = false) : fstK l (k + 1) = fstK l k := if_neg (of_decide_eq_false h)
theorem order_is {a b : Int × Int} {r : Int} (w : World) (h : ordF a b = r) : Gives Try.prog 82 #[.agg #[.int .i64 a.1, .int .i64 a.2], .agg #[.int .i64 b.1, .int .i64 b.2]] w (.int .i64 r) := h ▸ order_calls a b w
set_option maxHeartbeats 2000000 in
theorem minP_calls (v : Value) (l : List (Int × Int)) (w : World) (h : PairsAt w v l) (h0 : 0 < l.length) (hl : l.length ≤ 1000) :
    Gives Try.prog 115 #[v, .func (.func 82) #[] #[]] w (.agg #[.int .i64 (gi l (0, 0) (fstK l (l.length - 1))).1, .int .i64 (gi l (0, 0) (fstK l (l.length - 1))).2]) := by
  have HP := Lib.hid h
  obtain ⟨sa, cap, rfl, hlc, hcm, _⟩ := h
  obtain ⟨b, o, rfl, hB, hcell, hdell⟩ := HP.out.cellAt h0
  simp only [Nat.zero_mul, Nat.add_zero] at hcell hdell
  unfold Gives
  have d0 : decide ((l.length : Int) < 1) = false := decide_eq_false (by omega)
  go_enter Try.func115, Try.ntmps115
  go_wp2_with fail
  go_loopw [6] (fun i wr => ∃ k : Nat, k + 1 ≤ l.length ∧ i = .int .i64 ((k : Int) + 1) ∧ Below w.heap.size w wr ∧ w.heap.size + 2 ≤ wr.heap.size ∧ wr.cell? ⟨w.heap.size + 1, 0, none⟩ = some (.int .i64 (gi l (0, 0) (fstK l k)).1) ∧ wr.cell? ⟨w.heap.size + 1, 1, none⟩ = some (.int .i64 (gi l (0, 0) (fstK l k)).2) ∧ wr.frozen? ⟨w.heap.size + 1, 0, none⟩ = false ∧ wr.frozen? ⟨w.heap.size + 1, 1, none⟩ = false ∧ wr.cell? ⟨w.heap.size, 0, none⟩ = some (.int .i64 0) ∧ wr.cell? ⟨w.heap.size, 1, none⟩ = some (.int .i64 0) ∧ wr.frozen? ⟨w.heap.size, 0, none⟩ = false ∧ wr.frozen? ⟨w.heap.size, 1, none⟩ = false) (fun i _ => l.length - (intOf i).toNat)
  case atStart => exact ⟨0, by omega, rfl, by (repeat' (first | exact Below.refl _ _ | assumption | refine below_new ?_ _ | refine below_draw ?_ | refine below_tail (by assumption) ?_ | refine below_set ?_ (by first | omega | (simp <;> omega)) _)), by simp, by simp [fstK], by simp [fstK], by simp [go_sem], by simp [go_sem], by simp [go_sem], by simp [go_sem], by simp [go_sem], by simp [go_sem]⟩
  case round =>
    obtain ⟨k, hk, rfl, hbw, hsz, c0, c1, f0, f1, r0, r1, z0, z1⟩ := hrel
    have hlb : w.heap.size + 1 < wr.heap.size := by omega
    by_cases hlt : k + 1 < l.length
    · have hg : decide ((k : Int) + 1 < (l.length : Int)) = true := decide_eq_true (by omega)
      obtain ⟨b', o', he, _, g0, g1⟩ := HP.out.cellAt hlt
      cases he
      have hB' : b < wr.heap.size := by omega
      replace g0 := (hbw.cell (p := ⟨b, o + (k + 1) * 2, none⟩) hB).trans g0
      replace g1 := (hbw.cell (p := ⟨b, o + (k + 1) * 2 + 1, none⟩) hB).trans g1
      have q0 := fun d os => cell_regrown g0 d os
      have q1 := fun d os => cell_regrown g1 d os
      have q2 := fun d os => cell_regrown c0 d os
      have q3 := fun d os => cell_regrown c1 d os
      obtain ⟨r, hr⟩ : ∃ r, ordF (gi l (0, 0) (k + 1)) (gi l (0, 0) (fstK l k)) = r := ⟨_, rfl⟩
      have HR := Lib.hid hr
      cases hd : decide (r < 0)
      · have HF := Lib.hid (fstK_no (l := l) (k := k) (by rw [hr]; exact hd))
        clear hr
        go_wp2_with fail
        refine region_q mixed (by kernel_rfl) ?_
        repeat (go_big_quiet_step ((go_at_call 82; exact Calls.regrown_of (order_is _ HR.out))))
        refine wpQuiet_nil ?_
        intro wq hbq
        have t0 := (hbq.cell (p := ⟨w.heap.size + 1, 0, none⟩) hlb).trans c0
        have t1 := (hbq.cell (p := ⟨w.heap.size + 1, 1, none⟩) hlb).trans c1
        have t2 := (hbq.frozen (p := ⟨w.heap.size + 1, 0, none⟩) hlb).trans f0
        have t3 := (hbq.frozen (p := ⟨w.heap.size + 1, 1, none⟩) hlb).trans f1
        have s0 := (hbq.cell (p := ⟨w.heap.size, 0, none⟩) (by dsimp only; omega)).trans r0
        have s1 := (hbq.cell (p := ⟨w.heap.size, 1, none⟩) (by dsimp only; omega)).trans r1
        have s2 := (hbq.frozen (p := ⟨w.heap.size, 0, none⟩) (by dsimp only; omega)).trans z0
        have s3 := (hbq.frozen (p := ⟨w.heap.size, 1, none⟩) (by dsimp only; omega)).trans z1
        have hzq := hbq.size
        clear q0 q1 q2 q3
        go_wp2_with fail
        go_roundw
        case rel => exact ⟨k + 1, by omega, by go_num, by (repeat' (first | exact Below.refl _ _ | assumption | refine below_new ?_ _ | refine below_draw ?_ | refine below_tail (by assumption) ?_ | refine below_set ?_ (by first | omega | (simp <;> omega)) _)), by omega, by rw [HF.out]; exact t0, by rw [HF.out]; exact t1, t2, t3, s0, s1, s2, s3⟩
        case measure => simp [intOf]; omega
      · have HF := Lib.hid (fstK_yes (l := l) (k := k) (by rw [hr]; exact hd))
        clear hr
        go_wp2_with fail
        refine region_q mixed (by kernel_rfl) ?_
        repeat (go_big_quiet_step ((go_at_call 82; exact Calls.regrown_of (order_is _ HR.out))))
        refine wpQuiet_nil ?_
        intro wq hbq
        have t0 := (hbq.cell (p := ⟨w.heap.size + 1, 0, none⟩) hlb).trans c0
        have t1 := (hbq.cell (p := ⟨w.heap.size + 1, 1, none⟩) hlb).trans c1
        have t2 := (hbq.frozen (p := ⟨w.heap.size + 1, 0, none⟩) hlb).trans f0
        have t3 := (hbq.frozen (p := ⟨w.heap.size + 1, 1, none⟩) hlb).trans f1
        have s0 := (hbq.cell (p := ⟨w.heap.size, 0, none⟩) (by dsimp only; omega)).trans r0
        have s1 := (hbq.cell (p := ⟨w.heap.size, 1, none⟩) (by dsimp only; omega)).trans r1
        have s2 := (hbq.frozen (p := ⟨w.heap.size, 0, none⟩) (by dsimp only; omega)).trans z0
        have s3 := (hbq.frozen (p := ⟨w.heap.size, 1, none⟩) (by dsimp only; omega)).trans z1
        have hzq := hbq.size
        have u0 := (hbq.cell (p := ⟨b, o + (k + 1) * 2, none⟩) hB').trans g0
        have u1 := (hbq.cell (p := ⟨b, o + (k + 1) * 2 + 1, none⟩) hB').trans g1
        clear q0 q1 q2 q3 g0 g1 c0 c1
        go_wp2_with fail
        go_roundw
        case rel => exact ⟨k + 1, by omega, by go_num, below_set (below_set (by (repeat' (first | exact Below.refl _ _ | assumption | refine below_new ?_ _ | refine below_draw ?_ | refine below_tail (by assumption) ?_ | refine below_set ?_ (by first | omega | (simp <;> omega)) _))) (by dsimp only; omega) _) (by dsimp only; omega) _, by simp; omega, by rw [HF.out]; exact put2_0 t0, by rw [HF.out]; exact put2_1 t1, put2_fr.trans t2, put2_fr.trans t3, (put2_far (by omega)).trans s0, (put2_far (by omega)).trans s1, put2_fr.trans s2, put2_fr.trans s3⟩
        case measure => simp [intOf]; omega
    · have hg : decide ((k : Int) + 1 < (l.length : Int)) = false := decide_eq_false (by omega)
      obtain rfl : k = l.length - 1 := by omega
      go_wp2_with fail
      have k0 := put2_0 (a := .int .i64 (gi l (0, 0) (fstK l (l.length - 1))).1) (b := .int .i64 (gi l (0, 0) (fstK l (l.length - 1))).2) r0
      have k1 := put2_1 (a := .int .i64 (gi l (0, 0) (fstK l (l.length - 1))).1) (b := .int .i64 (gi l (0, 0) (fstK l (l.length - 1))).2) r1
      refine bodyPost_ret (v := .agg #[.int .i64 (gi l (0, 0) (fstK l (l.length - 1))).1, .int .i64 (gi l (0, 0) (fstK l (l.length - 1))).2]) (by simp [results, asAddr, go_sem, k0, k1]) rfl ⟨rfl, below_set (below_set hbw (by dsimp only; omega) _) (by dsimp only; omega) _⟩
/-- slices.Index at the first one of its kind. -/
theorem eq_no {a b : Int × Int} (h : a ≠ b) : ((a.1, a.2) == (b.1, b.2)) = false := by
  have : ¬ (a.1, a.2) = (b.1, b.2) := fun e => h (by simpa [Prod.ext_iff] using e)
  simpa using this
attribute [local go_sem high] eql_pt eqg_pt
set_option maxHeartbeats 1000000 in
theorem indexP_calls (v : Value) (l : List (Int × Int)) (x : Int × Int) (m : Nat) (w : World) (h : PairsAt w v l) (hm : m < l.length) (hx : gi l (0, 0) m = x) (hn : ∀ j, j < m → gi l (0, 0) j ≠ x) :
    Gives Try.prog 108 #[v, .agg #[.int .i64 x.1, .int .i64 x.2]] w (.int .i64 m) := by
  have HP := Lib.hid h
  obtain ⟨sa, cap, rfl, hlc, hcm, _⟩ := h
  have HN := Lib.hid hn
  have HX := Lib.hid hx
  clear hn hx
  unfold Gives
  go_enter Try.func108, Try.ntmps108
  go_wp2_with fail
  go_loopw [8] (fun i wr => ∃ k : Nat, k ≤ m ∧ i = .int .i64 k ∧ Below w.heap.size w wr ∧ w.heap.size < wr.heap.size ∧ wr.cell? ⟨w.heap.size, 0, none⟩ = some (.int .i64 x.1) ∧ wr.cell? ⟨w.heap.size, 1, none⟩ = some (.int .i64 x.2)) (fun i _ => l.length - (intOf i).toNat)
  case atStart => exact ⟨0, Nat.zero_le _, rfl, by (repeat' (first | exact Below.refl _ _ | assumption | refine below_new ?_ _ | refine below_draw ?_ | refine below_tail (by assumption) ?_ | refine below_set ?_ (by first | omega | (simp <;> omega)) _)), by simp, by simp, by simp⟩
  case round =>
    obtain ⟨k, hk, rfl, hbw, hsz, c0, c1⟩ := hrel
    have hlt : k < l.length := by omega
    have hg : decide ((k : Int) < (l.length : Int)) = true := decide_eq_true (by omega)
    obtain ⟨b, o, rfl, hB, g0, g1⟩ := HP.out.cellB hbw hlt
    have q0 := fun d os => cell_regrown g0 d os
    have q1 := fun d os => cell_regrown g1 d os
    have q2 := fun d os => cell_regrown c0 d os
    have q3 := fun d os => cell_regrown c1 d os
    by_cases hkm : k < m
    · have he := eq_no (Ne.symm (HN.out k hkm))
      go_wp2_with fail
      refine region_q mixed (by kernel_rfl) ?_
      repeat (go_big_quiet_step (fail))
      refine wpQuiet_nil ?_
      intro wq hbq
      have t0 := (hbq.cell (p := ⟨w.heap.size, 0, none⟩) hsz).trans c0
      have t1 := (hbq.cell (p := ⟨w.heap.size, 1, none⟩) hsz).trans c1
      have hzq := hbq.size
      clear q0 q1 q2 q3
      go_wp2_with fail
      go_roundw
      case rel => exact ⟨k + 1, by omega, by go_num, by (repeat' (first | exact Below.refl _ _ | assumption | refine below_new ?_ _ | refine below_draw ?_ | refine below_tail (by assumption) ?_ | refine below_set ?_ (by first | omega | (simp <;> omega)) _)), by omega, t0, t1⟩
      case measure => simp [intOf]; omega
    · obtain rfl : k = m := by omega
      have he : ((x.1, x.2) == ((gi l (0, 0) k).1, (gi l (0, 0) k).2)) = true := by rw [HX.out]; simp
      go_wp2_with fail
      refine region_q mixed (by kernel_rfl) ?_
      repeat (go_big_quiet_step (fail))
      refine wpQuiet_nil ?_
      intro wq hbq
      go_wp2_with fail
      go_ret
      exact ⟨rfl, by (repeat' (first | exact Below.refl _ _ | assumption | refine below_new ?_ _ | refine below_draw ?_ | refine below_tail (by assumption) ?_ | refine below_set ?_ (by first | omega | (simp <;> omega)) _))⟩
end Go.Proofs.Ythiemglckmociaa
