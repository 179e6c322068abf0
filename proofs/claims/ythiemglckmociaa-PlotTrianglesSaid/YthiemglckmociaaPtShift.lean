/- What Shift of package plot gives. Conditions: the list lies in memory as said. -/
import Derived.Test.YthiemglckmociaaPtChanged
import Derived.Test.YthiemglckmociaaPtMovedA
import Derived.Test.YthiemglckmociaaKit
namespace Go.Proofs.Ythiemglckmociaa
open Go.RowKit


def ShiftI (pt pd : Int × Int) (n1 n2 : Int) (M B : Nat) (w y : World) (v0 v1 v2 v3 : Value) (d : Nat → Bool) (a : Act) (x : World) : Prop :=
  ∃ u4 u5 u6 u7 u8 u9 u10 u11 u12 u13 u14 u15 u16 : Value, a = ⟨#[v0, v1, v2, v3, u4, u5, u6, u7, u8, u9, u10, u11, u12, u13, u14, u15, u16], []⟩ ∧
    (Below w.heap.size w x) ∧
    (y.heap.size ≤ x.heap.size) ∧
    (x.cell? ⟨M, 0, none⟩ = some (.int .i64 pt.1)) ∧
    (x.cell? ⟨M, 1, none⟩ = some (.int .i64 pt.2)) ∧
    (x.cell? ⟨B, 0, none⟩ = some (.int .i64 pd.1)) ∧
    (x.cell? ⟨B, 1, none⟩ = some (.int .i64 pd.2)) ∧
    (x.frozen? ⟨M + 1, 0, none⟩ = false) ∧
    (x.frozen? ⟨M + 1, 1, none⟩ = false) ∧
    (d 13 = false → x.cell? ⟨M + 1, 0, none⟩ = some (.int .i64 0)) ∧
    (d 13 = false → x.cell? ⟨M + 1, 1, none⟩ = some (.int .i64 0)) ∧
    (d 13 = true → x.cell? ⟨M + 1, 0, none⟩ = some (.int .i64 (pt.1 + n1))) ∧
    (d 13 = true → x.cell? ⟨M + 1, 1, none⟩ = some (.int .i64 (pt.2 + n2))) ∧
    (d 0 = true → u4 = .pointer (some ⟨M, 0, none⟩)) ∧
    (d 1 = true → u5 = .int .i64 pt.1) ∧
    (d 2 = true → u6 = .pointer (some ⟨B, 0, none⟩)) ∧
    (d 3 = true → u7 = .int .i64 pd.1) ∧
    (d 4 = true → u8 = .int .i64 n1) ∧
    (d 5 = true → u9 = .int .i64 (pt.1 + n1)) ∧
    (d 6 = true → u10 = .pointer (some ⟨M, 1, none⟩)) ∧
    (d 7 = true → u11 = .int .i64 pt.2) ∧
    (d 8 = true → u12 = .pointer (some ⟨B, 1, none⟩)) ∧
    (d 9 = true → u13 = .int .i64 pd.2) ∧
    (d 10 = true → u14 = .int .i64 n2) ∧
    (d 11 = true → u15 = .int .i64 (pt.2 + n2)) ∧
    (d 12 = true → u16 = .agg #[.int .i64 (pt.1 + n1), .int .i64 (pt.2 + n2)])

set_option maxHeartbeats 4000000 in
set_option maxRecDepth 100000 in
theorem shift1_calls (B : Nat) (pd pt : Int × Int) (w : World) (hB : B < w.heap.size) (hd1 : w.cell? ⟨B, 0, none⟩ = some (.int .i64 pd.1)) (hd2 : w.cell? ⟨B, 1, none⟩ = some (.int .i64 pd.2)) (hx : bdP pt) :
    Gives Try.prog 75 #[.agg #[.int .i64 pt.1, .int .i64 pt.2], .pointer (some ⟨B, 0, none⟩)] w (.agg #[.int .i64 (pt.1 + nearF pd.1), .int .i64 (pt.2 + nearF pd.2)]) := by
  obtain ⟨n1, hn1⟩ : ∃ n, nearF pd.1 = n := ⟨_, rfl⟩
  obtain ⟨n2, hn2⟩ : ∃ n, nearF pd.2 = n := ⟨_, rfl⟩
  have b1 := near_bd pd.1
  have b2 := near_bd pd.2
  rw [hn1] at b1
  rw [hn2] at b2
  rw [hn1, hn2]
  have HN1 := Lib.hid hn1
  have HN2 := Lib.hid hn2
  clear hn1 hn2
  obtain ⟨⟨x1, x2⟩, x3, x4⟩ := hx
  unfold Gives
  obtain ⟨M, hM⟩ : ∃ M, w.heap.size = M := ⟨_, rfl⟩
  have HD1 := Lib.hid hd1
  have HD2 := Lib.hid hd2
  clear hd1 hd2
  go_enter Try.func75, Try.ntmps75
  go_wp2
  have hBy0 : Below w.heap.size w ((w.alloc (.cells #[.int .i64 pt.1, .int .i64 pt.2] 32)).alloc (.cells #[.int .i64 0, .int .i64 0] 32)).drew := by (repeat' (first | exact Below.refl _ _ | assumption | refine below_new ?_ _ | refine below_draw ?_ | refine below_tail (by assumption) ?_ | refine below_set ?_ (by first | omega | (simp <;> omega)) _))
  have k0 : ((w.alloc (.cells #[.int .i64 pt.1, .int .i64 pt.2] 32)).alloc (.cells #[.int .i64 0, .int .i64 0] 32)).drew.cell? ⟨M, 0, none⟩ = some (.int .i64 pt.1) := by rw [← hM]; simp
  have k1 : ((w.alloc (.cells #[.int .i64 pt.1, .int .i64 pt.2] 32)).alloc (.cells #[.int .i64 0, .int .i64 0] 32)).drew.cell? ⟨M, 1, none⟩ = some (.int .i64 pt.2) := by rw [← hM]; simp
  have p0 : ((w.alloc (.cells #[.int .i64 pt.1, .int .i64 pt.2] 32)).alloc (.cells #[.int .i64 0, .int .i64 0] 32)).drew.cell? ⟨M + 1, 0, none⟩ = some (.int .i64 0) := by rw [← hM]; simp
  have p1 : ((w.alloc (.cells #[.int .i64 pt.1, .int .i64 pt.2] 32)).alloc (.cells #[.int .i64 0, .int .i64 0] 32)).drew.cell? ⟨M + 1, 1, none⟩ = some (.int .i64 0) := by rw [← hM]; simp
  have z0 : ((w.alloc (.cells #[.int .i64 pt.1, .int .i64 pt.2] 32)).alloc (.cells #[.int .i64 0, .int .i64 0] 32)).drew.frozen? ⟨M + 1, 0, none⟩ = false := by rw [← hM]; simp [go_sem]
  have z1 : ((w.alloc (.cells #[.int .i64 pt.1, .int .i64 pt.2] 32)).alloc (.cells #[.int .i64 0, .int .i64 0] 32)).drew.frozen? ⟨M + 1, 1, none⟩ = false := by rw [← hM]; simp [go_sem]
  have hYs : ((w.alloc (.cells #[.int .i64 pt.1, .int .i64 pt.2] 32)).alloc (.cells #[.int .i64 0, .int .i64 0] 32)).heap.size = M + 2 := by simp; omega
  have k2 := (hBy0.cell (p := ⟨B, 0, none⟩) hB).trans HD1.out
  have k3 := (hBy0.cell (p := ⟨B, 1, none⟩) hB).trans HD2.out
  generalize ((w.alloc (.cells #[.int .i64 pt.1, .int .i64 pt.2] 32)).alloc (.cells #[.int .i64 0, .int .i64 0] 32)) = Y at *
  have hBy := hBy0
  refine wp_region_inv mixed (by kernel_rfl) (ShiftI pt pd n1 n2 M B w Y (.agg #[.int .i64 pt.1, .int .i64 pt.2]) (.pointer (some ⟨B, 0, none⟩)) (.pointer (some ⟨M, 0, none⟩)) (.pointer (some ⟨M + 1, 0, none⟩))) ?h0 ?hstep ?hend
  case h0 =>
    unfold ShiftI
    exact ⟨_, _, _, _, _, _, _, _, _, _, _, _, _, rfl, hBy, Nat.le_refl _, k0, k1, k2, k3, z0, z1, fun _ => p0, fun _ => p1, fun h => no_false h.symm, fun h => no_false h.symm, fun h => no_false h.symm, fun h => no_false h.symm, fun h => no_false h.symm, fun h => no_false h.symm, fun h => no_false h.symm, fun h => no_false h.symm, fun h => no_false h.symm, fun h => no_false h.symm, fun h => no_false h.symm, fun h => no_false h.symm, fun h => no_false h.symm, fun h => no_false h.symm, fun h => no_false h.symm⟩
  case hstep =>
    intro d a x hI i hi hdi hed
    unfold ShiftI at hI
    obtain ⟨u4, u5, u6, u7, u8, u9, u10, u11, u12, u13, u14, u15, u16, rfl, fb, fh, fk0, fk1, fk2, fk3, fz0, fz1, fp00, fp01, fp10, fp11, f0, f1, f2, f3, f4, f5, f6, f7, f8, f9, f10, f11, f12⟩ := hI
    have hi' : i < 14 := hi
    clear hi
    rcases (show i = 0 ∨ i = 1 ∨ i = 2 ∨ i = 3 ∨ i = 4 ∨ i = 5 ∨ i = 6 ∨ i = 7 ∨ i = 8 ∨ i = 9 ∨ i = 10 ∨ i = 11 ∨ i = 12 ∨ i = 13 by omega) with rfl | rfl | rfl | rfl | rfl | rfl | rfl | rfl | rfl | rfl | rfl | rfl | rfl | rfl
    · skip
      clear hed
      refine wpOp_step rfl (fun K hK => ?_)
      go_simp
      (try (refine hK _ _ ?_; clear hK K))
      unfold ShiftI
      refine ⟨_, _, _, _, _, _, _, _, _, _, _, _, _, rfl, ?_⟩
      exact ⟨fb,
        fh,
        fk0,
        fk1,
        fk2,
        fk3,
        fz0,
        fz1,
        fp00,
        fp01,
        fp10,
        fp11,
        (by first | exact fun _ => rfl | exact f0),
        (by first | exact f1 | exact fun _ => rfl),
        (by first | exact f2 | exact fun _ => rfl),
        (by first | exact f3 | exact fun _ => rfl),
        (by first | exact f4 | exact fun _ => rfl),
        (by first | exact f5 | exact fun _ => rfl),
        (by first | exact f6 | exact fun _ => rfl),
        (by first | exact f7 | exact fun _ => rfl),
        (by first | exact f8 | exact fun _ => rfl),
        (by first | exact f9 | exact fun _ => rfl),
        (by first | exact f10 | exact fun _ => rfl),
        (by first | exact f11 | exact fun _ => rfl),
        (by first | exact f12 | exact fun _ => rfl)⟩
    · skip
      have e0 : d 0 = true := done_of hed (by kernel_rfl)
      clear hed
      have g0 := f0 e0
      subst g0
      refine wpOp_step rfl (fun K hK => ?_)
      go_simp
      (try (refine hK _ _ ?_; clear hK K))
      unfold ShiftI
      refine ⟨_, _, _, _, _, _, _, _, _, _, _, _, _, rfl, ?_⟩
      exact ⟨fb,
        fh,
        fk0,
        fk1,
        fk2,
        fk3,
        fz0,
        fz1,
        fp00,
        fp01,
        fp10,
        fp11,
        (by first | exact fun _ => rfl | exact f0),
        (by first | exact fun _ => rfl | exact f1),
        (by first | exact f2 | exact fun _ => rfl),
        (by first | exact f3 | exact fun _ => rfl),
        (by first | exact f4 | exact fun _ => rfl),
        (by first | exact f5 | exact fun _ => rfl),
        (by first | exact f6 | exact fun _ => rfl),
        (by first | exact f7 | exact fun _ => rfl),
        (by first | exact f8 | exact fun _ => rfl),
        (by first | exact f9 | exact fun _ => rfl),
        (by first | exact f10 | exact fun _ => rfl),
        (by first | exact f11 | exact fun _ => rfl),
        (by first | exact f12 | exact fun _ => rfl)⟩
    · skip
      clear hed
      refine wpOp_step rfl (fun K hK => ?_)
      go_simp
      (try (refine hK _ _ ?_; clear hK K))
      unfold ShiftI
      refine ⟨_, _, _, _, _, _, _, _, _, _, _, _, _, rfl, ?_⟩
      exact ⟨fb,
        fh,
        fk0,
        fk1,
        fk2,
        fk3,
        fz0,
        fz1,
        fp00,
        fp01,
        fp10,
        fp11,
        (by first | exact f0 | exact fun _ => rfl),
        (by first | exact f1 | exact fun _ => rfl),
        (by first | exact fun _ => rfl | exact f2),
        (by first | exact f3 | exact fun _ => rfl),
        (by first | exact f4 | exact fun _ => rfl),
        (by first | exact f5 | exact fun _ => rfl),
        (by first | exact f6 | exact fun _ => rfl),
        (by first | exact f7 | exact fun _ => rfl),
        (by first | exact f8 | exact fun _ => rfl),
        (by first | exact f9 | exact fun _ => rfl),
        (by first | exact f10 | exact fun _ => rfl),
        (by first | exact f11 | exact fun _ => rfl),
        (by first | exact f12 | exact fun _ => rfl)⟩
    · skip
      have e2 : d 2 = true := done_of hed (by kernel_rfl)
      clear hed
      have g2 := f2 e2
      subst g2
      refine wpOp_step rfl (fun K hK => ?_)
      go_simp
      (try (refine hK _ _ ?_; clear hK K))
      unfold ShiftI
      refine ⟨_, _, _, _, _, _, _, _, _, _, _, _, _, rfl, ?_⟩
      exact ⟨fb,
        fh,
        fk0,
        fk1,
        fk2,
        fk3,
        fz0,
        fz1,
        fp00,
        fp01,
        fp10,
        fp11,
        (by first | exact f0 | exact fun _ => rfl),
        (by first | exact f1 | exact fun _ => rfl),
        (by first | exact fun _ => rfl | exact f2),
        (by first | exact fun _ => rfl | exact f3),
        (by first | exact f4 | exact fun _ => rfl),
        (by first | exact f5 | exact fun _ => rfl),
        (by first | exact f6 | exact fun _ => rfl),
        (by first | exact f7 | exact fun _ => rfl),
        (by first | exact f8 | exact fun _ => rfl),
        (by first | exact f9 | exact fun _ => rfl),
        (by first | exact f10 | exact fun _ => rfl),
        (by first | exact f11 | exact fun _ => rfl),
        (by first | exact f12 | exact fun _ => rfl)⟩
    · skip
      have e3 : d 3 = true := done_of hed (by kernel_rfl)
      clear hed
      have g3 := f3 e3
      subst g3
      refine wpOp_step rfl (fun K hK => ?_)
      go_simp
      go_at_call 76
      refine (near_is _ HN1.out).use ?_
      intro w3 hb3 hz3 hc3 hf3
      clear hc3 hf3
      (try (refine hK _ _ ?_; clear hK K))
      unfold ShiftI
      refine ⟨_, _, _, _, _, _, _, _, _, _, _, _, _, rfl, ?_⟩
      exact ⟨below_tail hb3 fb,
        Nat.le_trans fh hz3,
        (hb3.cell (p := ⟨M, 0, none⟩) (by dsimp only; omega)).trans fk0,
        (hb3.cell (p := ⟨M, 1, none⟩) (by dsimp only; omega)).trans fk1,
        (hb3.cell (p := ⟨B, 0, none⟩) (by dsimp only; omega)).trans fk2,
        (hb3.cell (p := ⟨B, 1, none⟩) (by dsimp only; omega)).trans fk3,
        (hb3.frozen (p := ⟨M + 1, 0, none⟩) (by dsimp only; omega)).trans fz0,
        (hb3.frozen (p := ⟨M + 1, 1, none⟩) (by dsimp only; omega)).trans fz1,
        fun h => (hb3.cell (p := ⟨M + 1, 0, none⟩) (by dsimp only; omega)).trans (fp00 h),
        fun h => (hb3.cell (p := ⟨M + 1, 1, none⟩) (by dsimp only; omega)).trans (fp01 h),
        fun h => (hb3.cell (p := ⟨M + 1, 0, none⟩) (by dsimp only; omega)).trans (fp10 h),
        fun h => (hb3.cell (p := ⟨M + 1, 1, none⟩) (by dsimp only; omega)).trans (fp11 h),
        (by first | exact f0 | exact fun _ => rfl),
        (by first | exact f1 | exact fun _ => rfl),
        (by first | exact f2 | exact fun _ => rfl),
        (by first | exact fun _ => rfl | exact f3),
        (by first | exact fun _ => rfl | exact f4),
        (by first | exact f5 | exact fun _ => rfl),
        (by first | exact f6 | exact fun _ => rfl),
        (by first | exact f7 | exact fun _ => rfl),
        (by first | exact f8 | exact fun _ => rfl),
        (by first | exact f9 | exact fun _ => rfl),
        (by first | exact f10 | exact fun _ => rfl),
        (by first | exact f11 | exact fun _ => rfl),
        (by first | exact f12 | exact fun _ => rfl)⟩
    · skip
      have e1 : d 1 = true := done_of hed (by kernel_rfl)
      have e4 : d 4 = true := done_of hed (by kernel_rfl)
      clear hed
      have g1 := f1 e1
      subst g1
      have g4 := f4 e4
      subst g4
      have hw : IntKind.i64.wrap (pt.1 + n1) = pt.1 + n1 := IntWalk.i64_in _ (by omega)
      refine wpOp_step rfl (fun K hK => ?_)
      go_simp
      (try (refine hK _ _ ?_; clear hK K))
      unfold ShiftI
      refine ⟨_, _, _, _, _, _, _, _, _, _, _, _, _, rfl, ?_⟩
      exact ⟨fb,
        fh,
        fk0,
        fk1,
        fk2,
        fk3,
        fz0,
        fz1,
        fp00,
        fp01,
        fp10,
        fp11,
        (by first | exact f0 | exact fun _ => rfl),
        (by first | exact fun _ => rfl | exact f1),
        (by first | exact f2 | exact fun _ => rfl),
        (by first | exact f3 | exact fun _ => rfl),
        (by first | exact fun _ => rfl | exact f4),
        (by first | exact fun _ => rfl | exact f5),
        (by first | exact f6 | exact fun _ => rfl),
        (by first | exact f7 | exact fun _ => rfl),
        (by first | exact f8 | exact fun _ => rfl),
        (by first | exact f9 | exact fun _ => rfl),
        (by first | exact f10 | exact fun _ => rfl),
        (by first | exact f11 | exact fun _ => rfl),
        (by first | exact f12 | exact fun _ => rfl)⟩
    · skip
      clear hed
      refine wpOp_step rfl (fun K hK => ?_)
      go_simp
      (try (refine hK _ _ ?_; clear hK K))
      unfold ShiftI
      refine ⟨_, _, _, _, _, _, _, _, _, _, _, _, _, rfl, ?_⟩
      exact ⟨fb,
        fh,
        fk0,
        fk1,
        fk2,
        fk3,
        fz0,
        fz1,
        fp00,
        fp01,
        fp10,
        fp11,
        (by first | exact f0 | exact fun _ => rfl),
        (by first | exact f1 | exact fun _ => rfl),
        (by first | exact f2 | exact fun _ => rfl),
        (by first | exact f3 | exact fun _ => rfl),
        (by first | exact f4 | exact fun _ => rfl),
        (by first | exact f5 | exact fun _ => rfl),
        (by first | exact fun _ => rfl | exact f6),
        (by first | exact f7 | exact fun _ => rfl),
        (by first | exact f8 | exact fun _ => rfl),
        (by first | exact f9 | exact fun _ => rfl),
        (by first | exact f10 | exact fun _ => rfl),
        (by first | exact f11 | exact fun _ => rfl),
        (by first | exact f12 | exact fun _ => rfl)⟩
    · skip
      have e6 : d 6 = true := done_of hed (by kernel_rfl)
      clear hed
      have g6 := f6 e6
      subst g6
      refine wpOp_step rfl (fun K hK => ?_)
      go_simp
      (try (refine hK _ _ ?_; clear hK K))
      unfold ShiftI
      refine ⟨_, _, _, _, _, _, _, _, _, _, _, _, _, rfl, ?_⟩
      exact ⟨fb,
        fh,
        fk0,
        fk1,
        fk2,
        fk3,
        fz0,
        fz1,
        fp00,
        fp01,
        fp10,
        fp11,
        (by first | exact f0 | exact fun _ => rfl),
        (by first | exact f1 | exact fun _ => rfl),
        (by first | exact f2 | exact fun _ => rfl),
        (by first | exact f3 | exact fun _ => rfl),
        (by first | exact f4 | exact fun _ => rfl),
        (by first | exact f5 | exact fun _ => rfl),
        (by first | exact fun _ => rfl | exact f6),
        (by first | exact fun _ => rfl | exact f7),
        (by first | exact f8 | exact fun _ => rfl),
        (by first | exact f9 | exact fun _ => rfl),
        (by first | exact f10 | exact fun _ => rfl),
        (by first | exact f11 | exact fun _ => rfl),
        (by first | exact f12 | exact fun _ => rfl)⟩
    · skip
      clear hed
      refine wpOp_step rfl (fun K hK => ?_)
      go_simp
      (try (refine hK _ _ ?_; clear hK K))
      unfold ShiftI
      refine ⟨_, _, _, _, _, _, _, _, _, _, _, _, _, rfl, ?_⟩
      exact ⟨fb,
        fh,
        fk0,
        fk1,
        fk2,
        fk3,
        fz0,
        fz1,
        fp00,
        fp01,
        fp10,
        fp11,
        (by first | exact f0 | exact fun _ => rfl),
        (by first | exact f1 | exact fun _ => rfl),
        (by first | exact f2 | exact fun _ => rfl),
        (by first | exact f3 | exact fun _ => rfl),
        (by first | exact f4 | exact fun _ => rfl),
        (by first | exact f5 | exact fun _ => rfl),
        (by first | exact f6 | exact fun _ => rfl),
        (by first | exact f7 | exact fun _ => rfl),
        (by first | exact fun _ => rfl | exact f8),
        (by first | exact f9 | exact fun _ => rfl),
        (by first | exact f10 | exact fun _ => rfl),
        (by first | exact f11 | exact fun _ => rfl),
        (by first | exact f12 | exact fun _ => rfl)⟩
    · skip
      have e8 : d 8 = true := done_of hed (by kernel_rfl)
      clear hed
      have g8 := f8 e8
      subst g8
      refine wpOp_step rfl (fun K hK => ?_)
      go_simp
      (try (refine hK _ _ ?_; clear hK K))
      unfold ShiftI
      refine ⟨_, _, _, _, _, _, _, _, _, _, _, _, _, rfl, ?_⟩
      exact ⟨fb,
        fh,
        fk0,
        fk1,
        fk2,
        fk3,
        fz0,
        fz1,
        fp00,
        fp01,
        fp10,
        fp11,
        (by first | exact f0 | exact fun _ => rfl),
        (by first | exact f1 | exact fun _ => rfl),
        (by first | exact f2 | exact fun _ => rfl),
        (by first | exact f3 | exact fun _ => rfl),
        (by first | exact f4 | exact fun _ => rfl),
        (by first | exact f5 | exact fun _ => rfl),
        (by first | exact f6 | exact fun _ => rfl),
        (by first | exact f7 | exact fun _ => rfl),
        (by first | exact fun _ => rfl | exact f8),
        (by first | exact fun _ => rfl | exact f9),
        (by first | exact f10 | exact fun _ => rfl),
        (by first | exact f11 | exact fun _ => rfl),
        (by first | exact f12 | exact fun _ => rfl)⟩
    · skip
      have e9 : d 9 = true := done_of hed (by kernel_rfl)
      clear hed
      have g9 := f9 e9
      subst g9
      refine wpOp_step rfl (fun K hK => ?_)
      go_simp
      go_at_call 76
      refine (near_is _ HN2.out).use ?_
      intro w3 hb3 hz3 hc3 hf3
      clear hc3 hf3
      (try (refine hK _ _ ?_; clear hK K))
      unfold ShiftI
      refine ⟨_, _, _, _, _, _, _, _, _, _, _, _, _, rfl, ?_⟩
      exact ⟨below_tail hb3 fb,
        Nat.le_trans fh hz3,
        (hb3.cell (p := ⟨M, 0, none⟩) (by dsimp only; omega)).trans fk0,
        (hb3.cell (p := ⟨M, 1, none⟩) (by dsimp only; omega)).trans fk1,
        (hb3.cell (p := ⟨B, 0, none⟩) (by dsimp only; omega)).trans fk2,
        (hb3.cell (p := ⟨B, 1, none⟩) (by dsimp only; omega)).trans fk3,
        (hb3.frozen (p := ⟨M + 1, 0, none⟩) (by dsimp only; omega)).trans fz0,
        (hb3.frozen (p := ⟨M + 1, 1, none⟩) (by dsimp only; omega)).trans fz1,
        fun h => (hb3.cell (p := ⟨M + 1, 0, none⟩) (by dsimp only; omega)).trans (fp00 h),
        fun h => (hb3.cell (p := ⟨M + 1, 1, none⟩) (by dsimp only; omega)).trans (fp01 h),
        fun h => (hb3.cell (p := ⟨M + 1, 0, none⟩) (by dsimp only; omega)).trans (fp10 h),
        fun h => (hb3.cell (p := ⟨M + 1, 1, none⟩) (by dsimp only; omega)).trans (fp11 h),
        (by first | exact f0 | exact fun _ => rfl),
        (by first | exact f1 | exact fun _ => rfl),
        (by first | exact f2 | exact fun _ => rfl),
        (by first | exact f3 | exact fun _ => rfl),
        (by first | exact f4 | exact fun _ => rfl),
        (by first | exact f5 | exact fun _ => rfl),
        (by first | exact f6 | exact fun _ => rfl),
        (by first | exact f7 | exact fun _ => rfl),
        (by first | exact f8 | exact fun _ => rfl),
        (by first | exact fun _ => rfl | exact f9),
        (by first | exact fun _ => rfl | exact f10),
        (by first | exact f11 | exact fun _ => rfl),
        (by first | exact f12 | exact fun _ => rfl)⟩
    · skip
      have e7 : d 7 = true := done_of hed (by kernel_rfl)
      have e10 : d 10 = true := done_of hed (by kernel_rfl)
      clear hed
      have g7 := f7 e7
      subst g7
      have g10 := f10 e10
      subst g10
      have hw : IntKind.i64.wrap (pt.2 + n2) = pt.2 + n2 := IntWalk.i64_in _ (by omega)
      refine wpOp_step rfl (fun K hK => ?_)
      go_simp
      (try (refine hK _ _ ?_; clear hK K))
      unfold ShiftI
      refine ⟨_, _, _, _, _, _, _, _, _, _, _, _, _, rfl, ?_⟩
      exact ⟨fb,
        fh,
        fk0,
        fk1,
        fk2,
        fk3,
        fz0,
        fz1,
        fp00,
        fp01,
        fp10,
        fp11,
        (by first | exact f0 | exact fun _ => rfl),
        (by first | exact f1 | exact fun _ => rfl),
        (by first | exact f2 | exact fun _ => rfl),
        (by first | exact f3 | exact fun _ => rfl),
        (by first | exact f4 | exact fun _ => rfl),
        (by first | exact f5 | exact fun _ => rfl),
        (by first | exact f6 | exact fun _ => rfl),
        (by first | exact fun _ => rfl | exact f7),
        (by first | exact f8 | exact fun _ => rfl),
        (by first | exact f9 | exact fun _ => rfl),
        (by first | exact fun _ => rfl | exact f10),
        (by first | exact fun _ => rfl | exact f11),
        (by first | exact f12 | exact fun _ => rfl)⟩
    · skip
      have e5 : d 5 = true := done_of hed (by kernel_rfl)
      have e11 : d 11 = true := done_of hed (by kernel_rfl)
      clear hed
      have g5 := f5 e5
      subst g5
      have g11 := f11 e11
      subst g11
      refine wpOp_step rfl (fun K hK => ?_)
      go_simp
      (try (refine hK _ _ ?_; clear hK K))
      unfold ShiftI
      refine ⟨_, _, _, _, _, _, _, _, _, _, _, _, _, rfl, ?_⟩
      exact ⟨fb,
        fh,
        fk0,
        fk1,
        fk2,
        fk3,
        fz0,
        fz1,
        fp00,
        fp01,
        fp10,
        fp11,
        (by first | exact f0 | exact fun _ => rfl),
        (by first | exact f1 | exact fun _ => rfl),
        (by first | exact f2 | exact fun _ => rfl),
        (by first | exact f3 | exact fun _ => rfl),
        (by first | exact f4 | exact fun _ => rfl),
        (by first | exact fun _ => rfl | exact f5),
        (by first | exact f6 | exact fun _ => rfl),
        (by first | exact f7 | exact fun _ => rfl),
        (by first | exact f8 | exact fun _ => rfl),
        (by first | exact f9 | exact fun _ => rfl),
        (by first | exact f10 | exact fun _ => rfl),
        (by first | exact fun _ => rfl | exact f11),
        (by first | exact fun _ => rfl | exact f12)⟩
    · skip
      have e12 : d 12 = true := done_of hed (by kernel_rfl)
      clear hed
      have g12 := f12 e12
      subst g12
      have fx0 := fp00 hdi
      have fx1 := fp01 hdi
      refine wpOp_step rfl (fun K hK => ?_)
      go_simp
      (try (refine hK _ _ ?_; clear hK K))
      unfold ShiftI
      refine ⟨_, _, _, _, _, _, _, _, _, _, _, _, _, rfl, ?_⟩
      exact ⟨below_set (below_set (fb) (by dsimp only; omega) _) (by dsimp only; omega) _,
        (by simpa using fh),
        (World.cell?_setCell_other _ _ _ _ (by simp <;> omega)).trans ((World.cell?_setCell_other _ _ _ _ (by simp <;> omega)).trans (fk0)),
        (World.cell?_setCell_other _ _ _ _ (by simp <;> omega)).trans ((World.cell?_setCell_other _ _ _ _ (by simp <;> omega)).trans (fk1)),
        (World.cell?_setCell_other _ _ _ _ (by simp <;> omega)).trans ((World.cell?_setCell_other _ _ _ _ (by simp <;> omega)).trans (fk2)),
        (World.cell?_setCell_other _ _ _ _ (by simp <;> omega)).trans ((World.cell?_setCell_other _ _ _ _ (by simp <;> omega)).trans (fk3)),
        (World.frozen?_setCell _ _ _ _).trans ((World.frozen?_setCell _ _ _ _).trans (fz0)),
        (World.frozen?_setCell _ _ _ _).trans ((World.frozen?_setCell _ _ _ _).trans (fz1)),
        fun h => no_false h,
        fun h => no_false h,
        fun _ => (World.cell?_setCell_other _ _ _ _ (by simp)).trans (World.cell?_setCell_same' _ _ _ (by rw [fx0]; rfl)),
        fun _ => World.cell?_setCell_same' _ _ _ (by simp [go_sem, fx1]),
        (by first | exact f0 | exact fun _ => rfl),
        (by first | exact f1 | exact fun _ => rfl),
        (by first | exact f2 | exact fun _ => rfl),
        (by first | exact f3 | exact fun _ => rfl),
        (by first | exact f4 | exact fun _ => rfl),
        (by first | exact f5 | exact fun _ => rfl),
        (by first | exact f6 | exact fun _ => rfl),
        (by first | exact f7 | exact fun _ => rfl),
        (by first | exact f8 | exact fun _ => rfl),
        (by first | exact f9 | exact fun _ => rfl),
        (by first | exact f10 | exact fun _ => rfl),
        (by first | exact f11 | exact fun _ => rfl),
        (by first | exact fun _ => rfl | exact f12)⟩
  case hend =>
    intro d a x hI hall
    unfold ShiftI at hI
    obtain ⟨u4, u5, u6, u7, u8, u9, u10, u11, u12, u13, u14, u15, u16, rfl, fb, fh, fk0, fk1, fk2, fk3, fz0, fz1, fp00, fp01, fp10, fp11, f0, f1, f2, f3, f4, f5, f6, f7, f8, f9, f10, f11, f12⟩ := hI
    have hl0 := hall 0 (show 0 < 14 by omega)
    have hl1 := hall 1 (show 1 < 14 by omega)
    have hl2 := hall 2 (show 2 < 14 by omega)
    have hl3 := hall 3 (show 3 < 14 by omega)
    have hl4 := hall 4 (show 4 < 14 by omega)
    have hl5 := hall 5 (show 5 < 14 by omega)
    have hl6 := hall 6 (show 6 < 14 by omega)
    have hl7 := hall 7 (show 7 < 14 by omega)
    have hl8 := hall 8 (show 8 < 14 by omega)
    have hl9 := hall 9 (show 9 < 14 by omega)
    have hl10 := hall 10 (show 10 < 14 by omega)
    have hl11 := hall 11 (show 11 < 14 by omega)
    have hl12 := hall 12 (show 12 < 14 by omega)
    have hl13 := hall 13 (show 13 < 14 by omega)
    have g0 := f0 hl0
    subst g0
    have g1 := f1 hl1
    subst g1
    have g2 := f2 hl2
    subst g2
    have g3 := f3 hl3
    subst g3
    have g4 := f4 hl4
    subst g4
    have g5 := f5 hl5
    subst g5
    have g6 := f6 hl6
    subst g6
    have g7 := f7 hl7
    subst g7
    have g8 := f8 hl8
    subst g8
    have g9 := f9 hl9
    subst g9
    have g10 := f10 hl10
    subst g10
    have g11 := f11 hl11
    subst g11
    have g12 := f12 hl12
    subst g12
    have fq0 := fp10 hl13
    have fq1 := fp11 hl13
    clear fp00 fp10 fp01 fp11 f0 f1 f2 f3 f4 f5 f6 f7 f8 f9 f10 f11 f12
    clear hall hl0 hl1 hl2 hl3 hl4 hl5 hl6 hl7 hl8 hl9 hl10 hl11 hl12 hl13
    go_wp2
    refine bodyPost_ret (v := .agg #[.int .i64 (pt.1 + n1), .int .i64 (pt.2 + n2)]) ?_ rfl ?_
    · simp [results, asAddr, go_sem, fq0, fq1]
    · exact ⟨rfl, fb⟩

end Go.Proofs.Ythiemglckmociaa
