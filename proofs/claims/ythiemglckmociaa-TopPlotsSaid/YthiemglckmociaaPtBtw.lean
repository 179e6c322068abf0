/- What between of package plot and from of the document give: the corners from one on to another one. Conditions: the list lies in memory as said; the corners are there. -/
import Derived.Test.YthiemglckmociaaPtRQuarter
import Derived.Test.YthiemglckmociaaPtCutA
import Derived.Laws.OwnMore
namespace Go.Proofs.Ythiemglckmociaa
open Go.RowKit

theorem btw_succ (l : List (Int × Int)) (i t : Nat) : btw l i (t + 1) = btw l i t ++ [cor l (t + 1 + i)] := by
  unfold btw; rw [List.range_succ, List.map_append]; rfl
theorem farM_lt {n i j : Nat} (hi : i < n) (hj : j < n) : farM n i j < n := by unfold farM; split <;> omega
theorem farM_at {n i j : Nat} (hi : i < n) (hj : j < n) : (i + farM n i j) % n = j := by
  unfold farM
  split
  · rw [show i + (j - i) = j by omega, Nat.mod_eq_of_lt hj]
  · rw [show i + (j + n - i) = j + n by omega, Nat.add_mod_right, Nat.mod_eq_of_lt hj]
theorem farM_only {n i j t : Nat} (hi : i < n) (hj : j < n) (ht : t ≤ farM n i j) (h : (i + t) % n = j) : t = farM n i j := by
  have h1 := farM_lt hi hj
  unfold farM at *
  rcases Nat.lt_or_ge (i + t) n with c | c
  · rw [Nat.mod_eq_of_lt c] at h; split <;> omega
  · rw [Nat.mod_eq_sub_mod c, Nat.mod_eq_of_lt (by split at ht <;> omega)] at h
    split <;> (split at ht <;> omega)
theorem mod_next (i t n : Nat) : ((i + t) % n + 1) % n = (i + (t + 1)) % n := by rw [Nat.mod_add_mod, Nat.add_assoc]
theorem cor_place {l : List (Int × Int)} (i t : Nat) : cor l (t + i) = gi l (0, 0) ((i + t) % l.length) := by unfold cor; rw [Nat.add_comm]
/-- How long a slice is. -/
def lenV : Value → Nat
  | .slice _ n _ => n
  | _ => 0
set_option maxHeartbeats 2000000 in
theorem between_calls (v : Value) (l : List (Int × Int)) (i j : Nat) (w : World) (h : PairsAt w v l) (hi : i < l.length) (hj : j < l.length) (hn : l.length ≤ 1000) :
    Calls Try.prog 87 #[v, .int .i64 i, .int .i64 j] w fun e w' => ∃ v', e = .returned v' ∧ w'.ownsRow w.heap.size 32 2 v' (btw l i (farM l.length i j)).length (cells2 (btw l i (farM l.length i j))) ∧ Below w.heap.size w w' := by
  have HP := Lib.hid h
  obtain ⟨sa, cap, rfl, hlc, hcm, -⟩ := h
  obtain ⟨i0, hi0, hz0, hi1, hi2⟩ := info_parts infoPoint
  obtain ⟨b, o, rfl, hB, g0, g1⟩ := HP.out.cellAt hi
  obtain ⟨m, hm⟩ : ∃ m, farM l.length i j = m := ⟨_, rfl⟩
  have hmn := farM_lt hi hj
  have HAT : Hid ((i + m) % l.length = j) := by unfold Hid; rw [← hm]; exact farM_at hi hj
  have HON : Hid (∀ t, t ≤ m → (i + t) % l.length = j → t = m) := fun t ht e => by rw [← hm] at ht ⊢; exact farM_only hi hj ht e
  rw [hm] at hmn ⊢
  clear hm
  have hl0 : ¬ l = [] := fun e => by rw [e] at hi; simp at hi
  have hown0 := World.ownsRow_lit (base := w.heap.size) (e := 32) (size := 2) w #[.int .i64 (gi l (0, 0) i).1, .int .i64 (gi l (0, 0) i).2] 1 (Nat.le_refl _) (by decide) (by simp)
  go_enter Try.func87, Try.ntmps87
  go_wp2_with fail
  go_loopw [1, 7] (fun a s wr => ∃ t : Nat, t ≤ m ∧ a = .int .i64 ((i + t) % l.length : Nat) ∧ wr.ownsRow w.heap.size 32 2 s (btw l i t).length (cells2 (btw l i t)) ∧ Below w.heap.size w wr  ) (fun _ s _ => m + 1 - lenV s)
  case atStart =>
    have e : btw l i 0 = [gi l (0, 0) i] := by unfold btw; simp [List.range_succ, cor_lt hi]
    exact ⟨0, Nat.zero_le _, by rw [Nat.add_zero, Nat.mod_eq_of_lt hi], by rw [e]; exact hown0, by (repeat' (first | exact Below.refl _ _ | assumption | refine below_new ?_ _ | refine below_draw ?_ | refine below_tail (by assumption) ?_ | refine below_set ?_ (by first | omega | (simp <;> omega)) _))⟩
  case round =>
    obtain ⟨t, ht, rfl, hown, hbw⟩ := hrel
    have hml := btw_length l i t
    obtain ⟨sx, cx, rfl⟩ := own_slice hown
    obtain ⟨c, hc⟩ : ∃ c : Nat, (i + t) % l.length = c := ⟨_, rfl⟩
    have hcl : c < l.length := by rw [← hc]; exact Nat.mod_lt _ (by omega)
    by_cases htm : t < m
    · have x1 : ((c : Int) != (j : Int)) = true := by
        have : c ≠ j := fun e => by have := HON.out t ht (by rw [hc]; exact e); omega
        simp; omega
      obtain ⟨d, hd⟩ : ∃ d : Nat, (c + 1) % l.length = d := ⟨_, rfl⟩
      have hdl : d < l.length := by rw [← hd]; exact Nat.mod_lt _ (by omega)
      have hnx : (i + (t + 1)) % l.length = d := by rw [← hd, ← hc, mod_next]
      have r1 : ((c : Int) + 1).tmod (l.length : Int) = (d : Int) := by
        rw [Int.tmod_eq_emod_of_nonneg (by omega), ← hd, Int.natCast_emod]; rfl
      have HBS : Hid (btw l i (t + 1) = btw l i t ++ [gi l (0, 0) d]) := by unfold Hid; rw [btw_succ, cor_place, hnx]
      obtain ⟨b', o', he, _, a0, a1⟩ := HP.out.cellB hbw hdl
      cases he
      have HNX := Lib.hid hnx
      rw [hc]
      clear hc hd hnx
      have hw1 : IntKind.i64.wrap ((c : Int) + 1) = (c : Int) + 1 := IntWalk.i64_in _ (by omega)
      go_wp2_with (at_builtin; refine wpList_append_own _ rfl _ _ 22 rfl w.heap.size 32 i0 (.agg #[.int .i64 0, .int .i64 0]) 2 16 Try.underlying22 hi0 hz0 hi1 hi2 rfl (by decide) _ _ _ rfl (hown.alloc _) ⟨wr.heap.size, 0, none⟩ 1 1 (cells2 [gi l (0, 0) d]) rfl rfl (app_src2 _ _ _) (cells2_one _) (by unfold maxLen; omega) (by omega) (by have := hbw.size; simp; omega) ?_; intro v' w4 hown4 hgrow _)
      have hb4 := (hbw.alloc hbw.size _).grown hgrow (by have := hbw.size; simp; omega) (own_block_le2 hown)
      obtain ⟨sy, cy, rfl⟩ := own_slice hown4
      go_roundw
      case rel => exact ⟨t + 1, by omega, by rw [HNX.out], by rw [HBS.out]; exact own_more2 hown4 rfl, hb4⟩
      case measure => simp [lenV]; omega
    · obtain rfl : t = m := by omega
      have hcj : c = j := by rw [← hc]; exact HAT.out
      have x1 : ((c : Int) != (j : Int)) = false := by rw [hcj]; simp
      rw [hc]
      clear hc hcj
      go_wp2_with fail
      go_ret
      exact ⟨_, rfl, hown, hbw⟩
end Go.Proofs.Ythiemglckmociaa
