/- What slices.Reverse gives at points: the row turned round in place. Conditions: the row is one of the caller's own; it is short. -/
import Derived.Test.YthiemglckmociaaPtNorm1
import Derived.Sort.WalkB12
import Derived.Laws.OwnMore
import Derived.Shelf.RegionOpenPlain
namespace Go.Proofs.Ythiemglckmociaa
open Go.RowKit

theorem cells2_put : ∀ (l : List (Int × Int)) (m : Nat) (x : Int × Int), cells2 (l.set m x) = ((cells2 l).set (m * 2) (.int .i64 x.1)).set (m * 2 + 1) (.int .i64 x.2)
  | [], _, _ => by simp [cells2]
  | y :: l, 0, x => by simp [cells2]
  | y :: l, m + 1, x => by
    rw [List.set_cons_succ]
    show _ :: _ :: cells2 (l.set m x) = _
    rw [cells2_put l m x]
    rw [show (m + 1) * 2 = m * 2 + 1 + 1 by omega]
    rfl
theorem cells2_get1 : ∀ (l : List (Int × Int)) (m : Nat), m < l.length → (cells2 l)[m * 2]? = some (.int .i64 (gi l (0, 0) m).1)
  | [], _, h => by simp at h
  | y :: l, 0, _ => by simp [cells2, gi]
  | y :: l, m + 1, h => by
    rw [show (m + 1) * 2 = m * 2 + 1 + 1 by omega]
    show (cells2 l)[m * 2]? = _
    rw [cells2_get1 l m (by simpa using h)]
    simp [gi]
theorem cells2_get2 : ∀ (l : List (Int × Int)) (m : Nat), m < l.length → (cells2 l)[m * 2 + 1]? = some (.int .i64 (gi l (0, 0) m).2)
  | [], _, h => by simp at h
  | y :: l, 0, _ => by simp [cells2, gi]
  | y :: l, m + 1, h => by
    rw [show (m + 1) * 2 + 1 = m * 2 + 1 + 1 + 1 by omega]
    show (cells2 l)[m * 2 + 1]? = _
    rw [cells2_get2 l m (by simpa using h)]
    simp [gi]
/-- The list with its first k and its last k elements turned round. -/
def rvK (l : List (Int × Int)) (k : Nat) : List (Int × Int) := (List.range l.length).map fun m => if m < k ∨ l.length ≤ m + k then gi l (0, 0) (l.length - 1 - m) else gi l (0, 0) m
theorem rvK_length (l : List (Int × Int)) (k : Nat) : (rvK l k).length = l.length := by simp [rvK]
theorem rvK_get (l : List (Int × Int)) (k m : Nat) (h : m < l.length) : gi (rvK l k) (0, 0) m = if m < k ∨ l.length ≤ m + k then gi l (0, 0) (l.length - 1 - m) else gi l (0, 0) m := by
  rw [gi_lt (by rw [rvK_length]; exact h)]; simp [rvK]
theorem rvK_zero (l : List (Int × Int)) : rvK l 0 = l := by
  refine List.ext_getElem (rvK_length l 0) fun i h1 h2 => ?_
  have := rvK_get l 0 i h2
  rw [gi_lt h1, if_neg (by omega), gi_lt h2] at this
  exact this
theorem rvK_done (l : List (Int × Int)) (k : Nat) (h : l.length ≤ 2 * k + 1) : rvK l k = l.reverse := by
  refine List.ext_getElem (by simp [rvK]) fun i h1 h2 => ?_
  rw [rvK_length] at h1
  have := rvK_get l k i h1
  rw [gi_lt (by rw [rvK_length]; exact h1)] at this
  rw [this, List.getElem_reverse]
  split
  · rw [gi_lt (by omega)]
  · rw [gi_lt h1]; congr 1; omega
theorem rvK_swap (l : List (Int × Int)) (k : Nat) (h : 2 * k + 1 < l.length) : rvK l (k + 1) = ((rvK l k).set k (gi l (0, 0) (l.length - 1 - k))).set (l.length - 1 - k) (gi l (0, 0) k) := by
  refine List.ext_getElem (by simp [rvK]) fun i h1 h2 => ?_
  rw [rvK_length] at h1
  have e1 := rvK_get l (k + 1) i h1
  have e2 := rvK_get l k i h1
  rw [gi_lt (by rw [rvK_length]; exact h1)] at e1 e2
  rw [e1, List.getElem_set, List.getElem_set, e2]
  by_cases c1 : l.length - 1 - k = i
  · rw [if_pos c1, if_pos (by omega)]; congr 1; omega
  · rw [if_neg c1]
    by_cases c2 : k = i
    · rw [if_pos c2, if_pos (by omega), c2]
    · rw [if_neg c2]
      by_cases c3 : i < k ∨ l.length ≤ i + k
      · rw [if_pos c3, if_pos (by omega)]
      · rw [if_neg c3, if_neg (by omega)]
theorem rvK_left (l : List (Int × Int)) (k : Nat) (h : 2 * k + 1 < l.length) : gi (rvK l k) (0, 0) k = gi l (0, 0) k := by rw [rvK_get l k k (by omega), if_neg (by omega)]
theorem rvK_right (l : List (Int × Int)) (k : Nat) (h : 2 * k + 1 < l.length) : gi (rvK l k) (0, 0) (l.length - 1 - k) = gi l (0, 0) (l.length - 1 - k) := by rw [rvK_get l k _ (by omega), if_neg (by omega)]
set_option maxHeartbeats 4000000 in
set_option maxRecDepth 100000 in
theorem reverseP_calls (base g cap : Nat) (l : List (Int × Int)) (w : World) (h : w.ownsRow base 32 2 (.slice (some ⟨g, 0, none⟩) l.length cap) l.length (cells2 l)) (h0 : 0 < l.length) (hl : l.length ≤ 1000) :
    Calls Try.prog 84 #[.slice (some ⟨g, 0, none⟩) l.length cap] w fun e w' => e = .returned (.tuple #[]) ∧ w'.ownsRow base 32 2 (.slice (some ⟨g, 0, none⟩) l.length cap) l.length (cells2 l.reverse) ∧ w.heap.size ≤ w'.heap.size ∧ Below base w w' := by
  have hg := own_block_le2 h g rfl
  have hgl := (h.lt g rfl).2
  have hcap : l.length ≤ cap ∧ cap ≤ 9223372036854775807 := by
    obtain ⟨_, ⟨e, _⟩ | ⟨g', cap', cur, e, _, _, h1, h2, _⟩⟩ := h
    · cases e
    · cases e; exact ⟨h1, by unfold maxLen at h2; omega⟩
  go_enter Try.func84, Try.ntmps84
  go_wp2_with fail
  go_loopw [2, 3] (fun s t wr => ∃ k : Nat, 2 * k ≤ l.length ∧ s = .int .i64 k ∧ t = .int .i64 ((l.length : Int) - 1 - k) ∧ wr.ownsRow base 32 2 (.slice (some ⟨g, 0, none⟩) l.length cap) l.length (cells2 (rvK l k)) ∧ w.heap.size ≤ wr.heap.size ∧ Below base w wr) (fun s _ _ => l.length - (intOf s).toNat)
  case atStart => exact ⟨0, by omega, rfl, by simp, by rw [rvK_zero]; exact h, Nat.le_refl _, Below.refl _ _⟩
  case round =>
    obtain ⟨k, hk, rfl, rfl, hown, hsz, hbw⟩ := hrel
    by_cases hlt : 2 * k + 1 < l.length
    · have hg1 : decide ((k : Int) < (l.length : Int) - 1 - k) = true := decide_eq_true (by omega)
      obtain ⟨j, hj⟩ : ∃ j : Nat, (l.length : Int) - 1 - k = (j : Int) ∧ j = l.length - 1 - k := ⟨l.length - 1 - k, by omega, rfl⟩
      have hjk : k < j := by omega
      have hjn : j < l.length := by omega
      have e1 := (hown.cellAt (k * 2) (by omega)).trans (cells2_get1 _ k (by rw [rvK_length]; omega))
      have e2 := (hown.cellAt (k * 2 + 1) (by omega)).trans (cells2_get2 _ k (by rw [rvK_length]; omega))
      have e3 := (hown.cellAt (j * 2) (by omega)).trans (cells2_get1 _ j (by rw [rvK_length]; omega))
      have e4 := (hown.cellAt (j * 2 + 1) (by omega)).trans (cells2_get2 _ j (by rw [rvK_length]; omega))
      rw [rvK_left l k hlt] at e1 e2
      rw [hj.2, rvK_right l k hlt, ← hj.2] at e3 e4
      have f1 := hown.frozenAt (k * 2)
      have f2 := hown.frozenAt (k * 2 + 1)
      have f3 := hown.frozenAt (j * 2)
      have f4 := hown.frozenAt (j * 2 + 1)
      have HS := Lib.hid (rvK_swap l k hlt)
      rw [hj.1] at hg1 ⊢
      have HJ := Lib.hid hj
      clear hj
      go_wp2_with fail
      have hmixed : Try.prog.follows .mixedOrders = true := mixed
      go_big_region_o
      all_goals go_wp2_with fail
      have q1 := (hown.stored (k * 2) (.int .i64 (gi l (0, 0) j).1)).1
      have q2 := (q1.stored (k * 2 + 1) (.int .i64 (gi l (0, 0) j).2)).1
      have q3 := (q2.stored (j * 2) (.int .i64 (gi l (0, 0) k).1)).1
      have q4 := (q3.stored (j * 2 + 1) (.int .i64 (gi l (0, 0) k).2)).1
      rw [← cells2_put (rvK l k) k (gi l (0, 0) j), ← cells2_put _ j (gi l (0, 0) k), HJ.out.2, ← HS.out, ← HJ.out.2] at q4
      go_roundw
      case rel => exact ⟨k + 1, by omega, by go_num, by have := HJ.out; congr 1; omega, q4.drew, by simpa using hsz, ((((hbw.setCell (by dsimp only; omega) _).setCell (by dsimp only; omega) _).setCell (by dsimp only; omega) _).setCell (by dsimp only; omega) _).drew⟩
      case measure => simp [intOf]; omega
    · have hg1 : decide ((k : Int) < (l.length : Int) - 1 - k) = false := decide_eq_false (by omega)
      go_wp2_with fail
      go_end0
      exact ⟨rfl, by rw [← rvK_done l k (by omega)]; exact hown, hsz, hbw⟩
end Go.Proofs.Ythiemglckmociaa
