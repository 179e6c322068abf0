/- What votes come to, as plain functions. No program in sight. -/
import Derived.Test.YtnhohnnoffhkhaaTermSpec
namespace Go.Proofs.Ytnhohnnoffhkhaa
open Go.RowKit

/-- The errors of votes. -/
def votesF (l : List (Int × Bool)) : Int :=
  if l.length ≤ 20 then (if someFrom (fun i => !(withinB (gi l (0, false) i).1 0 10000)) l.length 0 then 1 else 0) else 3
/-- Is vote i for it, where the vote of number ch is changed? -/
def yesB (l : List (Int × Bool)) (ch : Int) (i : Nat) : Bool := (gi l (0, false) i).2 != ((i : Int) == ch)
def headsF (l : List (Int × Bool)) (ch : Int) : Nat → Int
  | 0 => 0
  | k + 1 => if yesB l ch k then headsF l ch k + 1 else headsF l ch k - 1
def landF (l : List (Int × Bool)) (ch : Int) : Nat → Int
  | 0 => 0
  | k + 1 => if yesB l ch k then landF l ch k + (gi l (0, false) k).1 else landF l ch k - (gi l (0, false) k).1
theorem headsF_bd (l : List (Int × Bool)) (ch : Int) : ∀ k : Nat, -(k : Int) ≤ headsF l ch k ∧ headsF l ch k ≤ k
  | 0 => by simp [headsF]
  | k + 1 => by have := headsF_bd l ch k; unfold headsF; split <;> omega
theorem landF_bd (l : List (Int × Bool)) (ch : Int) : ∀ k : Nat, (∀ i, i < k → 0 ≤ (gi l (0, false) i).1 ∧ (gi l (0, false) i).1 ≤ 10000) → -(10000 * (k : Int)) ≤ landF l ch k ∧ landF l ch k ≤ 10000 * k
  | 0, _ => by simp [landF]
  | k + 1, h => by
    have := landF_bd l ch k (fun i hi => h i (by omega))
    have := h k (by omega)
    unfold landF; split <;> omega
def headsB (l : List (Int × Bool)) (ch : Int) : Bool := decide (0 < headsF l ch l.length)
def landB (l : List (Int × Bool)) (ch : Int) : Bool := decide (0 < landF l ch l.length)
def headsR (l : List (Int × Bool)) : Bool := if votesF l = 0 then headsB l (-1) else false
def landR (l : List (Int × Bool)) : Bool := if votesF l = 0 then landB l (-1) else false
theorem votes_ok {l : List (Int × Bool)} (h : votesF l = 0) : l.length ≤ 20 ∧ ∀ i, i < l.length → 0 ≤ (gi l (0, false) i).1 ∧ (gi l (0, false) i).1 ≤ 10000 := by
  unfold votesF at h
  by_cases hl : l.length ≤ 20
  · rw [if_pos hl] at h
    refine ⟨hl, fun i hi => ?_⟩
    cases hs : someFrom (fun i => !(withinB (gi l (0, false) i).1 0 10000)) l.length 0
    · cases hw : withinB (gi l (0, false) i).1 0 10000
      · have : someFrom (fun i => !(withinB (gi l (0, false) i).1 0 10000)) l.length 0 = true := (someFrom_iff 0).2 ⟨i, Nat.zero_le _, hi, by simp [hw]⟩
        rw [hs] at this; cases this
      · exact withinB_iff.1 hw
    · rw [hs] at h; exact absurd h (by decide)
  · rw [if_neg hl] at h; exact absurd h (by decide)
theorem votes_of {l : List (Int × Bool)} (hl : l.length ≤ 20) (h : ∀ i, i < l.length → 0 ≤ (gi l (0, false) i).1 ∧ (gi l (0, false) i).1 ≤ 10000) : votesF l = 0 := by
  unfold votesF
  rw [if_pos hl]
  cases hs : someFrom (fun i => !(withinB (gi l (0, false) i).1 0 10000)) l.length 0
  · rfl
  · obtain ⟨i, _, hi, hp⟩ := (someFrom_iff 0).1 hs
    have := withinB_iff.2 (h i hi)
    rw [this] at hp; cases hp
theorem yes_never {l : List (Int × Bool)} {i : Nat} : yesB l (-1) i = (gi l (0, false) i).2 := by
  unfold yesB
  have : ((i : Int) == -1) = false := by rw [beq_eq_false_iff_ne]; omega
  rw [this]; simp
end Go.Proofs.Ytnhohnnoffhkhaa
