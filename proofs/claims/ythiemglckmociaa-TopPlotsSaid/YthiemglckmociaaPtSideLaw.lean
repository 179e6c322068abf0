/- Where a point is: by parity, or by how often the border goes round it: the same. No program in sight. Condition: the list is a plot. -/
import Derived.Test.YthiemglckmociaaPtEx1
namespace Go.Proofs.Ythiemglckmociaa

theorem hit_cr (a b x : Int × Int) : hitB a b x = true ↔ cr x a b ≠ 0 := by
  have hs := turn_swap b a x
  unfold cr
  by_cases h : b.2 < a.2
  · rw [hit_lo h, if_neg (by omega)]
    simp only [Bool.and_eq_true, decide_eq_true_eq]
    constructor
    · intro ⟨h1, h2, h3⟩; rw [if_pos (by omega)]; decide
    · intro h1; split at h1
      · omega
      · simp at h1
  · rw [hit_hi h]
    simp only [Bool.and_eq_true, decide_eq_true_eq]
    constructor
    · intro ⟨h1, h2, h3⟩; rw [if_pos ⟨h1, h2, h3⟩]; decide
    · intro h1; split at h1
      · omega
      · rw [if_neg (by omega)] at h1; simp at h1
theorem inK_par (l : List (Int × Int)) (x : Int × Int) : ∀ k : Nat, (inK l x k = -1 ∧ windK l x k % 2 = 0) ∨ (inK l x k = 1 ∧ windK l x k % 2 = 1)
  | 0 => .inl ⟨rfl, rfl⟩
  | k + 1 => by
    have ih := inK_par l x k
    have hb := cr_bd x (cor l k) (cor l (k + 1))
    rw [windK_succ]
    by_cases h : hitB (cor l k) (cor l (k + 1)) x = true
    · rw [inK_yes h]
      have := (hit_cr _ _ _).1 h
      omega
    · have h' : hitB (cor l k) (cor l (k + 1)) x = false := by simpa using h
      rw [inK_no h']
      have : cr x (cor l k) (cor l (k + 1)) = 0 := by
        rcases Int.lt_trichotomy (cr x (cor l k) (cor l (k + 1))) 0 with c | c | c
        · exact absurd ((hit_cr _ _ _).2 (by omega)) h
        · exact c
        · exact absurd ((hit_cr _ _ _).2 (by omega)) h
      omega
theorem windK_wsum (l : List (Int × Int)) (x : Int × Int) : windK l x l.length = wsum (cor l) l.length x := rfl
theorem onAny_none {l : List (Int × Int)} {x : Int × Int} (h : onAny l x = false) : ∀ i, i < l.length → onB (cor l i) (cor l (i + 1)) x = false := anyN_none h
theorem where_side {l : List (Int × Int)} (hv : Valid l) (x : Int × Int) : whereP l x = sideF l x := by
  unfold whereP sideF
  cases h : onAny l x
  · simp only [Bool.false_eq_true, if_false]
    have h1 := hv.simple.around (onAny_none h)
    have h2 := hv.simple.lam01
    have h3 := inK_par l x l.length
    rw [windK_wsum] at h3 ⊢
    by_cases h4 : wsum (cor l) l.length x = 0
    · rw [if_pos h4]; omega
    · rw [if_neg h4]; omega
  · rfl
end Go.Proofs.Ythiemglckmociaa
