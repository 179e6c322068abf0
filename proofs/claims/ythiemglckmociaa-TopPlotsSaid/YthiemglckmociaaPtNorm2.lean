/- What slices.Grow and Concat give at points. Conditions: the lists lie in memory as said; they are short. -/
import Derived.Test.YthiemglckmociaaPtNorm1
namespace Go.Proofs.Ythiemglckmociaa
open Go.RowKit

set_option maxHeartbeats 4000000 in
set_option maxRecDepth 100000 in
theorem growP_calls (n : Nat) (w : World) (h0 : 0 < n) (hn : n ≤ 1000) : Calls Try.prog 123 #[.slice none 0 0, .int .i64 n] w fun e w' => ∃ v, e = .returned v ∧ w'.ownsRow w.heap.size 32 2 v 0 [] ∧ Below w.heap.size w w' := by
  obtain ⟨i0, hi0, hz0, hi1, hi2⟩ := info_parts infoPoint
  have h1 : ¬ ((n : Int) < 0) := by omega
  have h4 : (n : Int) > 0 := by omega
  have hrz : ∀ ty, (Builtin.append_ #[22, 3] ty #[.slice none 0 0, .int .i64 (n : Int)]).run Try.prog w =
      .ok (.slice (some ⟨w.heap.size, 0, none⟩) (0 + n) (grownCap w (0 + n) 0 32)) (w.drew.alloc (.cells (#[] ++ Builtin.zeroCells (Value.cells (.agg #[.int .i64 0, .int .i64 0])) n ++ Builtin.zeroCells (Value.cells (.agg #[.int .i64 0, .int .i64 0])) (grownCap w (0 + n) 0 32 - (0 + n))) 32)) := fun ty => by
    have h := Lib.run_append_grow_zeros w 22 3 ty 32 i0 _ .i64 .i64 Try.underlying22 Try.underlying3 hi0 hz0 none 0 0 [] (by rw [hi1]; exact run_firstCells_none w.drew 2 0 0 0) n h0 (by omega) (by omega) (by omega)
      (by rw [hi2]; omega) (by rw [hi2]; exact growslice_fits (by omega) (by omega))
    exact h
  have hGn : 0 + n ≤ grownCap w (0 + n) 0 32 := grownCap_ge w _ _ _
  have hG63 := grownCap_le_maxLen w (0 + n) 0 32 (by unfold maxLen; omega)
  obtain ⟨G, hG⟩ : ∃ G, grownCap w (0 + n) 0 32 = G := ⟨_, rfl⟩
  rw [hG] at hrz hGn hG63
  clear hG
  go_enter Try.func123, Try.ntmps123
  go_wp2_with (at_builtin; refine Lib.wpList_append_run _ rfl _ _ _ _ rfl _ _ rfl rfl _ _ (hrz _) ?_)
  go_ret
  refine ⟨_, rfl, ?_, by (repeat' (first | exact Below.refl _ _ | assumption | refine below_new ?_ _ | refine below_draw ?_ | refine below_tail (by assumption) ?_ | refine below_set ?_ (by first | omega | (simp <;> omega)) _))⟩
  have h := World.ownsRow_made (base := w.heap.size) (e := 32) (size := 2) w (Builtin.zeroCells #[.int .i64 0, .int .i64 0] n ++ Builtin.zeroCells #[.int .i64 0, .int .i64 0] (G - n)) G (Nat.le_refl _) hG63 (by simp [size_zeroCells]; omega)
  exact h.drew
theorem growP_is {s : Int} {n : Nat} (w : World) (hs : s = n) (h0 : 0 < n) (hn : n ≤ 1000) : Calls Try.prog 123 #[.slice none 0 0, .int .i64 s] w fun e w' => ∃ v, e = .returned v ∧ w'.ownsRow w.heap.size 32 2 v 0 [] ∧ Below w.heap.size w w' := by subst hs; exact growP_calls n w h0 hn
set_option maxHeartbeats 4000000 in
set_option maxRecDepth 100000 in
theorem concatP_calls (b : Nat) (a1 a2 : Option Addr) (c1 c2 : Nat) (l1 l2 : List (Int × Int)) (w : World) (hb : b < w.heap.size) (h1 : w.cell? ⟨b, 0, none⟩ = some (.slice a1 l1.length c1)) (h2 : w.cell? ⟨b, 1, none⟩ = some (.slice a2 l2.length c2))
    (p1 : PairsAt w (.slice a1 l1.length c1) l1) (p2 : PairsAt w (.slice a2 l2.length c2) l2) (h0 : 0 < l1.length + l2.length) (hs : l1.length + l2.length ≤ 1000) :
    Calls Try.prog 116 #[.slice (some ⟨b, 0, none⟩) 2 2] w fun e w' => ∃ v, e = .returned v ∧ w'.ownsRow w.heap.size 32 2 v (l1 ++ l2).length (cells2 (l1 ++ l2)) ∧ Below w.heap.size w w' := by
  obtain ⟨i0, hi0, hz0, hi1, hi2⟩ := info_parts infoPoint
  have P1 := Lib.hid p1
  have P2 := Lib.hid p2
  clear p1 p2
  have H0 := Lib.hid h0
  clear h0
  have d0 : decide ((0 : Int) < (l1.length : Int) + (l2.length : Int)) = true := decide_eq_true (by have := H0.out; omega)
  go_enter Try.func116, Try.ntmps116
  go_wp2_with fail
  go_loop [3, 11] (fun s k => (k = .int .i64 0 ∧ s = .int .i64 0) ∨ (k = .int .i64 1 ∧ s = .int .i64 l1.length) ∨ (k = .int .i64 2 ∧ s = .int .i64 ((l1.length : Int) + (l2.length : Int)))) (fun _ k => 2 - (intOf k).toNat)
  case atStart => exact .inl ⟨rfl, rfl⟩
  case round =>
    rcases hrel with ⟨rfl, rfl⟩ | ⟨rfl, rfl⟩ | ⟨rfl, rfl⟩
    · go_wp2_with fail
      go_round
      case rel => exact .inr (.inl ⟨rfl, by simp⟩)
      case measure => simp [intOf]
    · go_wp2_with fail
      go_round
      case rel => exact .inr (.inr ⟨rfl, rfl⟩)
      case measure => simp [intOf]
    · go_wp2_with fail
      go_wp2_with (go_at_call 123; refine (growP_is (n := l1.length + l2.length) _ (by omega) H0.out (by omega)).mono ?_; rintro e w1 ⟨vg, rfl, hown1, hb1⟩)
      go_loopw [6, 27] (fun s k wr => Below w.heap.size w wr ∧ ((k = .int .i64 0 ∧ wr.ownsRow w.heap.size 32 2 s 0 []) ∨ (k = .int .i64 1 ∧ wr.ownsRow w.heap.size 32 2 s l1.length (cells2 l1)) ∨ (k = .int .i64 2 ∧ wr.ownsRow w.heap.size 32 2 s (l1.length + l2.length) (cells2 l1 ++ cells2 l2)))) (fun _ k _ => 2 - (intOf k).toNat)
      case atStart => exact ⟨hb1, .inl ⟨rfl, hown1⟩⟩
      case round =>
        obtain ⟨hbw, hrel⟩ := hrel
        have g1 := (hbw.cell (p := ⟨b, 0, none⟩) hb).trans h1
        have g2 := (hbw.cell (p := ⟨b, 1, none⟩) hb).trans h2
        rcases hrel with ⟨rfl, hown⟩ | ⟨rfl, hown⟩ | ⟨rfl, hown⟩
        · go_wp2_with (at_builtin; refine wpList_append_any (by rfl) _ _ _ (by rfl) w.heap.size 32 i0 (.agg #[.int .i64 0, .int .i64 0]) 2 16 Try.underlying22 hi0 hz0 hi1 hi2 (by rfl) (by decide) _ 0 [] (by rfl) hown _ _ (cells2 l1) (by rfl) (pairs_src (P1.out.below hbw)) (by unfold maxLen; omega) (by omega) hbw.size ?_; intro v5 w5 hown5 hgrow _)
          have hb5 := below_grow hbw hgrow (own_block_le2 hown)
          go_roundw
          case rel => exact ⟨hb5, .inr (.inl ⟨rfl, by simpa using hown5⟩)⟩
          case measure => simp [intOf]
        · go_wp2_with (at_builtin; refine wpList_append_any (by rfl) _ _ _ (by rfl) w.heap.size 32 i0 (.agg #[.int .i64 0, .int .i64 0]) 2 16 Try.underlying22 hi0 hz0 hi1 hi2 (by rfl) (by decide) _ l1.length (cells2 l1) (by rfl) hown _ _ (cells2 l2) (by rfl) (pairs_src (P2.out.below hbw)) (by unfold maxLen; omega) (by omega) hbw.size ?_; intro v5 w5 hown5 hgrow _)
          have hb5 := below_grow hbw hgrow (own_block_le2 hown)
          go_roundw
          case rel => exact ⟨hb5, .inr (.inr ⟨rfl, hown5⟩)⟩
          case measure => simp [intOf]
        · go_wp2_with fail
          go_ret
          exact ⟨_, rfl, by rw [cells2_append, List.length_append]; exact hown, hbw⟩
end Go.Proofs.Ythiemglckmociaa
