/- What a plot is, in plain words: the error of a list; its sides do not touch. No program in sight. No conditions. -/
import Derived.Test.YthiemglckmociaaPtSides
import Derived.Test.YthiemglckmociaaPtRef1
namespace Go.Proofs.Ythiemglckmociaa

/-- Does one of the first n have f? -/
def anyN (f : Nat → Bool) (n : Nat) : Bool := (List.range n).any f
theorem anyN_true {f : Nat → Bool} {n i : Nat} (hi : i < n) (h : f i = true) : anyN f n = true := List.any_eq_true.2 ⟨i, List.mem_range.2 hi, h⟩
theorem anyN_false {f : Nat → Bool} {n : Nat} (h : ∀ i, i < n → f i = false) : anyN f n = false := by
  rw [anyN, List.any_eq_false]; intro i hi; rw [h i (List.mem_range.1 hi)]; simp
theorem anyN_elim {f : Nat → Bool} {n : Nat} (h : anyN f n = true) : ∃ i, i < n ∧ f i = true := by
  obtain ⟨i, hi, h⟩ := List.any_eq_true.1 h; exact ⟨i, List.mem_range.1 hi, h⟩
theorem anyN_none {f : Nat → Bool} {n : Nat} (h : anyN f n = false) : ∀ i, i < n → f i = false := fun i hi => by
  cases hf : f i
  · rfl
  · rw [anyN_true hi hf] at h; cases h
def rangedB (l : List (Int × Int)) : Bool := l.all inR
def dupB (l : List (Int × Int)) : Bool := anyN (fun i => anyN (fun k => cor l i == cor l k) i) l.length
/-- The side that follows side i leads back along it. -/
def spikeB (l : List (Int × Int)) (i : Nat) : Bool := backB (cor l (i + 1)) (cor l i) (cor l (i + 2))
def sideT (l : List (Int × Int)) (i k : Nat) : Bool := touchB (cor l i) (cor l (i + 1)) (cor l k) (cor l (k + 1))
/-- Sides i and k touch, as the program asks, and as the document does. -/
def crossP (l : List (Int × Int)) (i k : Nat) : Bool := (decide (i + 1 < k) && decide ((k + 1) % l.length ≠ i)) && sideT l i k
def crossR (l : List (Int × Int)) (i k : Nat) : Bool := ((decide (k ≠ i) && decide (k ≠ (i + 1) % l.length)) && decide (i ≠ (k + 1) % l.length)) && sideT l i k
def crossBP (l : List (Int × Int)) : Bool := anyN (fun i => spikeB l i || anyN (fun k => crossP l i k) l.length) l.length
def crossB (l : List (Int × Int)) : Bool := anyN (fun i => spikeB l i || anyN (fun k => crossR l i k) l.length) l.length
def validF (l : List (Int × Int)) : Int :=
  if l.length < 3 ∨ 10 < l.length then 3 else if rangedB l = false then 1 else if dupB l = true then 6 else if crossB l = true then 9 else 0

theorem or_r {a b : Bool} (h : b = true) : (a || b) = true := by rw [h, Bool.or_true]
theorem or_l {a b : Bool} (h : a = true) : (a || b) = true := by rw [h, Bool.true_or]
theorem touchB_symm (a b c d : Int × Int) : touchB a b c d = touchB c d a b := by
  unfold touchB
  cases onB a b c <;> cases onB a b d <;> cases onB c d a <;> cases onB c d b <;> simp [Bool.and_comm]

theorem cross_eq (l : List (Int × Int)) (_h3 : 3 ≤ l.length) : crossBP l = crossB l := by
  rw [Bool.eq_iff_iff]
  constructor
  · intro h
    obtain ⟨i, hi, h⟩ := anyN_elim h
    rw [Bool.or_eq_true] at h
    rcases h with h | h
    · exact anyN_true hi (or_l h)
    · obtain ⟨k, hk, h⟩ := anyN_elim h
      simp only [crossP, Bool.and_eq_true, decide_eq_true_eq] at h
      obtain ⟨⟨h1, h2⟩, h4⟩ := h
      refine anyN_true hi (or_r (anyN_true hk ?_))
      simp only [crossR, Bool.and_eq_true, decide_eq_true_eq]
      exact ⟨⟨⟨by omega, by rw [Nat.mod_eq_of_lt (by omega)]; omega⟩, fun e => h2 e.symm⟩, h4⟩
  · intro h
    obtain ⟨i, hi, h⟩ := anyN_elim h
    rw [Bool.or_eq_true] at h
    rcases h with h | h
    · exact anyN_true hi (or_l h)
    · obtain ⟨k, hk, h⟩ := anyN_elim h
      simp only [crossR, Bool.and_eq_true, decide_eq_true_eq] at h
      obtain ⟨⟨⟨h1, h2⟩, h4⟩, h5⟩ := h
      rcases Nat.lt_or_gt_of_ne h1 with c | c
      · have e : (k + 1) % l.length = k + 1 := Nat.mod_eq_of_lt (by omega)
        rw [e] at h4
        refine anyN_true hk (or_r (anyN_true hi ?_))
        simp only [crossP, Bool.and_eq_true, decide_eq_true_eq]
        refine ⟨⟨by omega, fun e => h2 e.symm⟩, ?_⟩
        unfold sideT at h5 ⊢; rw [touchB_symm]; exact h5
      · have e : (i + 1) % l.length = i + 1 := Nat.mod_eq_of_lt (by omega)
        rw [e] at h2
        refine anyN_true hi (or_r (anyN_true hk ?_))
        simp only [crossP, Bool.and_eq_true, decide_eq_true_eq]
        exact ⟨⟨by omega, fun e => h4 e.symm⟩, h5⟩

theorem cor_mod (l : List (Int × Int)) (i c : Nat) : cor l (i % l.length + c) = cor l (i + c) := by unfold cor; rw [Nat.mod_add_mod]
theorem cor_per (l : List (Int × Int)) (i : Nat) : cor l (i + l.length) = cor l i := by unfold cor; rw [Nat.add_mod_right]
theorem apart_of_touch {a b c d : Int × Int} (h : touchB a b c d = false) : apart a b c d := by
  simp only [touchB, Bool.or_eq_false_iff] at h
  obtain ⟨⟨⟨⟨h1, h2⟩, h3⟩, h4⟩, h5⟩ := h
  refine ⟨h3, h4, h1, h2, fun ⟨g1, g2⟩ => ?_⟩
  simp [g1, g2] at h5
theorem backB_iff {a b c : Int × Int} : backB a b c = true ↔ turn a b c = 0 ∧ 0 < dot a b c := by unfold backB; simp

structure Valid (l : List (Int × Int)) : Prop where
  lo : 3 ≤ l.length
  hi : l.length ≤ 10
  rng : ∀ i, (-30 ≤ (cor l i).1 ∧ (cor l i).1 ≤ 30) ∧ -30 ≤ (cor l i).2 ∧ (cor l i).2 ≤ 30
  dup : dupB l = false
  cross : crossB l = false
theorem valid_iff {l : List (Int × Int)} : validF l = 0 ↔ Valid l := by
  unfold validF
  constructor
  · intro h
    split at h
    · cases h
    · rename_i h1
      split at h
      · cases h
      · rename_i h2
        split at h
        · cases h
        · rename_i h3
          split at h
          · cases h
          · rename_i h4
            refine ⟨by omega, by omega, fun i => ?_, by simpa using h3, by simpa using h4⟩
            have hr : rangedB l = true := by simpa using h2
            have hm : i % l.length < l.length := Nat.mod_lt _ (by omega)
            have := List.all_eq_true.1 hr (cor l i) (by unfold cor; rw [gi_lt hm]; exact List.getElem_mem _)
            exact inR_iff.1 this
  · intro h
    have := h.lo; have := h.hi
    have hr : rangedB l = true := List.all_eq_true.2 fun x hx => by
      obtain ⟨i, hi, rfl⟩ := List.getElem_of_mem hx
      have := h.rng i
      rw [cor_lt hi, gi_lt hi] at this
      exact inR_iff.2 this
    rw [if_neg (by omega), if_neg (by simp [hr]), if_neg (by simp [h.dup]), if_neg (by simp [h.cross])]
theorem Valid.simple {l : List (Int × Int)} (h : Valid l) : Simple (cor l) l.length := by
  have h3 := h.lo
  refine ⟨h3, cor_per l, ?_, ?_, ?_⟩
  · have key : ∀ i j, i < l.length → j < i → cor l i ≠ cor l j := fun i j hi hj e => by
      have := anyN_none (anyN_none h.dup i hi) j hj
      rw [e] at this; simp at this
    intro i j hi hj e
    rcases Nat.lt_trichotomy i j with c | c | c
    · exact absurd e.symm (key j i hj c)
    · exact c
    · exact absurd e (key i j hi c)
  · intro i ⟨e1, e2⟩
    have hm : i % l.length < l.length := Nat.mod_lt _ (by omega)
    have := anyN_none h.cross _ hm
    rw [Bool.or_eq_false_iff] at this
    have hs : spikeB l (i % l.length) = true := by
      unfold spikeB
      rw [cor_mod, cor_mod]
      have := cor_mod l i 0
      simp only [Nat.add_zero] at this
      rw [this, backB_iff, turn_swap, e1]
      exact ⟨rfl, e2⟩
    rw [hs] at this; exact absurd this.1 (by simp)
  · intro i j hi hj h1 h2 h4
    have := anyN_none h.cross i hi
    rw [Bool.or_eq_false_iff] at this
    have := anyN_none this.2 j hj
    have e : ((decide (j ≠ i) && decide (j ≠ (i + 1) % l.length)) && decide (i ≠ (j + 1) % l.length)) = true := by
      simp only [Bool.and_eq_true, decide_eq_true_eq]; exact ⟨⟨h1, fun e => h4 e.symm⟩, fun e => h2 e.symm⟩
    unfold crossR at this
    rw [e, Bool.true_and] at this
    exact apart_of_touch this
end Go.Proofs.Ythiemglckmociaa
