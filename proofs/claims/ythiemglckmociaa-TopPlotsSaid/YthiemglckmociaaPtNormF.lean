/- The normal form of a plot, in plain words: what it is, that it is a plot turning left, and its own normal form. No conditions. -/
import Derived.Test.YthiemglckmociaaPtMin
import Derived.Test.YthiemglckmociaaPtMovedA
import Derived.Test.YthiemglckmociaaPtCutA
namespace Go.Proofs.Ythiemglckmociaa
open Go.RowKit

theorem cor_rev {l : List (Int × Int)} (h : 0 < l.length) (i : Nat) : cor l.reverse i = cor l (l.length - 1 - i % l.length) := by
  have hm : i % l.length < l.length := Nat.mod_lt _ h
  rw [cor_lt (l := l) (by omega)]
  unfold cor
  rw [List.length_reverse, gi_lt (by rw [List.length_reverse]; exact hm), gi_lt (by omega), List.getElem_reverse]
theorem Valid.reverse {l : List (Int × Int)} (h : Valid l) : Valid l.reverse := by
  have h3 := h.lo
  have e : cor l.reverse = fun i => cor l (l.length - 1 - i % l.length) := funext fun i => cor_rev (by omega) i
  refine Valid.of_simple (by rw [List.length_reverse]; exact h.hi) (fun i => by rw [e]; exact h.rng _) ?_
  rw [e, List.length_reverse]
  exact h.simple.rev
theorem area_rev {l : List (Int × Int)} (h : 0 < l.length) : areaK l.reverse l.reverse.length = - areaK l l.length := by
  rw [List.length_reverse]
  obtain ⟨m, hm⟩ : ∃ m, l.length = m + 1 := ⟨l.length - 1, by omega⟩
  have hper : cor l (m + 1) = cor l 0 := by have := cor_per l 0; rwa [Nat.zero_add, hm] at this
  have key : ∀ i, i < m → cross2 (cor l.reverse i) (cor l.reverse (i + 1)) = cross2 (cor l (m - 1 - i + 1)) (cor l (m - 1 - i)) := fun i hi => by
    rw [cor_rev h, cor_rev h, hm, Nat.mod_eq_of_lt (by omega), Nat.mod_eq_of_lt (by omega)]
    congr 2 <;> omega
  have last : cross2 (cor l.reverse m) (cor l.reverse (m + 1)) = cross2 (cor l (m + 1)) (cor l m) := by
    rw [cor_rev h, cor_rev h, hm, Nat.mod_eq_of_lt (by omega), Nat.mod_self, hper]
    congr 2 <;> omega
  unfold areaK
  rw [hm, sumN, sumN_congr key, last]
  have e := sumN_rev (fun j => cross2 (cor l (j + 1)) (cor l j)) m
  rw [e]
  have e2 : sumN (fun i => cross2 (cor l i) (cor l (i + 1))) (m + 1) = sumN (fun i => (-1) * cross2 (cor l (i + 1)) (cor l i)) (m + 1) := sumN_congr fun i _ => by unfold cross2; grind
  rw [e2, sumN_mul, sumN]
  omega
/-- The list from place i on. -/
def rotl (l : List (Int × Int)) (i : Nat) : List (Int × Int) := l.drop i ++ l.take i
theorem rotl_length (l : List (Int × Int)) (i : Nat) : (rotl l i).length = l.length := by unfold rotl; simp; omega
theorem cor_rotl {l : List (Int × Int)} {i : Nat} (hi : i < l.length) (k : Nat) : cor (rotl l i) k = cor l (k + i) := by
  have h0 : 0 < l.length := by omega
  have hm : k % l.length < l.length := Nat.mod_lt _ h0
  have e : cor l (k + i) = cor l (k % l.length + i) := (cor_mod l k i).symm
  rw [e]
  show gi (rotl l i) (0, 0) (k % (rotl l i).length) = gi l (0, 0) ((k % l.length + i) % l.length)
  rw [rotl_length]
  generalize k % l.length = j at hm
  rw [gi_lt (by rw [rotl_length]; exact hm)]
  unfold rotl
  by_cases c : j < l.length - i
  · rw [Nat.mod_eq_of_lt (by omega), gi_lt (by omega), List.getElem_append_left (by rw [List.length_drop]; exact c), List.getElem_drop]
    congr 1; omega
  · have hmod : (j + i) % l.length = j + i - l.length := by rw [Nat.mod_eq_sub_mod (by omega), Nat.mod_eq_of_lt (by omega)]
    rw [hmod, gi_lt (by omega), List.getElem_append_right (by rw [List.length_drop]; omega), List.getElem_take]
    congr 1; rw [List.length_drop]; omega
theorem Valid.rotl {l : List (Int × Int)} (h : Valid l) {i : Nat} (hi : i < l.length) : Valid (rotl l i) := by
  have e : cor (Go.Proofs.Ythiemglckmociaa.rotl l i) = fun k => cor l (k + i) := funext fun k => cor_rotl hi k
  refine Valid.of_simple (by rw [rotl_length]; exact h.hi) (fun k => by rw [e]; exact h.rng _) ?_
  rw [e, rotl_length]
  exact h.simple.shift i
theorem area_rotl {l : List (Int × Int)} {i : Nat} (hi : i < l.length) : areaK (rotl l i) (rotl l i).length = areaK l l.length := by
  rw [rotl_length]
  have e : cor (rotl l i) = fun k => cor l (k + i) := funext fun k => cor_rotl hi k
  have := area_shift (l := l) i
  unfold areaK cross2
  rw [e]
  exact this
theorem Valid.area_ne {l : List (Int × Int)} (h : Valid l) : areaK l l.length ≠ 0 := fun e => by
  have hp := h.simple.area_pos
  have e2 : area (cor l) l.length = areaK l l.length := rfl
  rw [e2, e] at hp; omega
theorem Valid.ne {l : List (Int × Int)} (h : Valid l) {i j : Nat} (hi : i < l.length) (hj : j < l.length) (hij : i ≠ j) : gi l (0, 0) i ≠ gi l (0, 0) j := fun e => by
  have := h.simple.inj i j hi hj (by rw [cor_lt hi, cor_lt hj]; exact e)
  exact hij this
/-- A list turning left. -/
def lftL (l : List (Int × Int)) : List (Int × Int) := if areaK l l.length < 0 then l.reverse else l
def normF (l : List (Int × Int)) : List (Int × Int) := rotl (lftL l) (fstK (lftL l) ((lftL l).length - 1))
theorem lft_valid {l : List (Int × Int)} (h : Valid l) : Valid (lftL l) ∧ 0 < areaK (lftL l) (lftL l).length ∧ (lftL l).length = l.length := by
  have h3 := h.lo
  unfold lftL
  by_cases c : areaK l l.length < 0
  · rw [if_pos c]
    exact ⟨h.reverse, by rw [area_rev (by omega)]; omega, List.length_reverse⟩
  · rw [if_neg c]
    have := h.area_ne
    exact ⟨h, by omega, rfl⟩
theorem norm_valid {l : List (Int × Int)} (h : Valid l) : Valid (normF l) ∧ 0 < areaK (normF l) (normF l).length ∧ (normF l).length = l.length := by
  obtain ⟨h1, h2, h3⟩ := lft_valid h
  have hl := h1.lo
  have hf := fstK_le (lftL l) ((lftL l).length - 1)
  have hi : fstK (lftL l) ((lftL l).length - 1) < (lftL l).length := by omega
  unfold normF
  exact ⟨h1.rotl hi, by rw [area_rotl hi]; exact h2, (rotl_length _ _).trans h3⟩
end Go.Proofs.Ythiemglckmociaa
