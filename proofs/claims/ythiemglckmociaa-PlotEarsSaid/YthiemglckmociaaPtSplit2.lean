/- The two plots into which corners split a plot. No conditions. -/
import Derived.Test.YthiemglckmociaaPtSplit
namespace Go.Proofs.Ythiemglckmociaa
open Go.RowKit

/-- The corners from corner i on, m more of them. -/
def btw (l : List (Int × Int)) (i m : Nat) : List (Int × Int) := (List.range (m + 1)).map fun k => cor l (k + i)
theorem btw_length (l : List (Int × Int)) (i m : Nat) : (btw l i m).length = m + 1 := by simp [btw]
theorem cor_btw (l : List (Int × Int)) (i m : Nat) : cor (btw l i m) = part (fun k => cor l (k + i)) m := funext fun k => by
  have hm : k % (m + 1) < m + 1 := Nat.mod_lt _ (by omega)
  show gi (btw l i m) (0, 0) (k % (btw l i m).length) = cor l (k % (m + 1) + i)
  rw [btw_length, gi_lt (by rw [btw_length]; exact hm)]
  simp [btw]
/-- How many corners on corner j lies from corner i. -/
def farM (n i j : Nat) : Nat := if i ≤ j then j - i else j + n - i
theorem btw_valid {l : List (Int × Int)} (hv : Valid l) {i m : Nat} (h3 : m + 2 ≤ l.length) (h : Simple (part (fun k => cor l (k + i)) m) (m + 1)) : Valid (btw l i m) := by
  have hi := hv.hi
  refine Valid.of_simple (by rw [btw_length]; omega) (fun k => ?_) (by rw [cor_btw, btw_length]; exact h)
  rw [cor_btw]
  exact hv.rng _
theorem area_shift {l : List (Int × Int)} (i : Nat) : area (fun k => cor l (k + i)) l.length = area (cor l) l.length := by
  have := sumN_shift (f := fun k => (cor l k).1 * (cor l (k + 1)).2 - (cor l (k + 1)).1 * (cor l k).2) (n := l.length) (fun k => by simp only [cor_per, show k + l.length + 1 = k + 1 + l.length by omega]) i
  unfold area
  rw [← this]
  exact sumN_congr fun k _ => by simp only [show k + 1 + i = k + i + 1 by omega]
/-- What splitting gives. -/
theorem split_law {l : List (Int × Int)} (hv : Valid l) {i j : Nat} (hi : i < l.length) (hj : j < l.length) (h : splitB l i j = true) :
    2 ≤ farM l.length i j ∧ farM l.length i j + 2 ≤ l.length ∧ farM l.length j i = l.length - farM l.length i j ∧
    Valid (btw l i (farM l.length i j)) ∧ Valid (btw l j (farM l.length j i)) ∧
    twiceF (btw l i (farM l.length i j)) + twiceF (btw l j (farM l.length j i)) = twiceF l := by
  obtain ⟨m, m2, m3, hm, d, hc⟩ := split_parts hv hi hj h
  have e1 : farM l.length i j = m := by unfold farM; split <;> omega
  have e2 : farM l.length j i = l.length - m := by unfold farM; split <;> omega
  rw [e1, e2]
  have hs := hv.simple.shift i
  have e : (fun k => (fun k => cor l (k + i)) (k + m)) = fun k => cor l (k + j) := funext fun k => by
    show cor l (k + m + i) = cor l (k + j)
    rcases hm with x | x
    · rw [show k + m + i = k + j by omega]
    · rw [show k + m + i = k + j + l.length by omega, cor_per]
  have p1 := d.part hs
  have p2 := (d.swap hs).part (hs.shift m)
  rw [e] at p2
  have v1 := btw_valid hv m3 p1
  have v2 : Valid (btw l j (l.length - m)) := btw_valid hv (by omega) p2
  refine ⟨m2, m3, rfl, v1, v2, ?_⟩
  have ha := d.area_abs hs hc
  rw [e, area_shift] at ha
  unfold twiceF
  rw [if_pos (valid_iff.2 v1), if_pos (valid_iff.2 v2), if_pos (valid_iff.2 hv)]
  have a1 : areaK (btw l i m) (btw l i m).length = area (part (fun k => cor l (k + i)) m) (m + 1) := by rw [btw_length, ← cor_btw]; rfl
  have a2 : areaK (btw l j (l.length - m)) (btw l j (l.length - m)).length = area (part (fun k => cor l (k + j)) (l.length - m)) (l.length - m + 1) := by rw [btw_length, ← cor_btw]; rfl
  rw [a1, a2]
  exact ha.symm
end Go.Proofs.Ythiemglckmociaa
