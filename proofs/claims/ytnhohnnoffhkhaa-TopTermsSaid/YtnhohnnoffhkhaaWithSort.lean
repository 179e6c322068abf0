/- The spans and one more, sorted by their first days: they are right just where nothing overlaps, and then in the places that the reference gives them. No program in sight. No conditions. -/
import Derived.Test.YtnhohnnoffhkhaaWithSpec
namespace Go.Proofs.Ytnhohnnoffhkhaa
open Go.RowKit

theorem insF_perm {s : Int × Int} : ∀ {l : List (Int × Int)}, (insF l s).Perm (l ++ [s])
  | [] => by simp [insF]
  | a :: l => by
    unfold insF
    by_cases h : s.1 < a.1
    · rw [if_pos h]
      exact (List.perm_append_comm (l₁ := [s]) (l₂ := a :: l))
    · rw [if_neg h, List.cons_append]
      exact (insF_perm (l := l)).cons a
theorem sorted_unique : ∀ {l m : List (Int × Int)}, l.Perm m → l.Pairwise (fun a b => a.1 ≤ b.1) → m.Pairwise (fun a b => a.1 < b.1) → l = m
  | [], m, hp, _, _ => by
    have := hp.length_eq
    exact (List.eq_nil_of_length_eq_zero (by simpa using this.symm)).symm
  | b :: t, [], hp, _, _ => by have := hp.length_eq; simp at this
  | b :: t, a :: m, hp, hl, hm => by
    rw [List.pairwise_cons] at hl hm
    have hab : b = a := by
      have h1 : b ∈ a :: m := hp.mem_iff.1 (by simp)
      have h2 : a ∈ b :: t := hp.mem_iff.2 (by simp)
      rcases List.mem_cons.1 h1 with h1 | h1
      · exact h1
      · rcases List.mem_cons.1 h2 with h2 | h2
        · exact h2.symm
        · have := hm.1 b h1; have := hl.1 a h2; omega
    subst hab
    rw [sorted_unique (hp.cons_inv) hl.2 hm.2]
theorem good_lt {l : List (Int × Int)} (h : goodS l) : l.Pairwise (fun a b => a.1 < b.1) := by
  obtain ⟨h1, h2⟩ := h
  rw [List.pairwise_iff_getElem] at *
  intro i j hi hj hij
  have g1 := h2 i j hi hj hij
  have g2 := spanB_iff.1 (h1 _ (List.getElem_mem hi))
  unfold apart at g1
  omega
theorem sorted_good {l : List (Int × Int)} {s : Int × Int} {l' : List (Int × Int)} (h : goodS l) (hs : spanB s = true) (hp : l'.Perm (l ++ [s])) (hl : l'.Pairwise (fun a b => a.1 ≤ b.1)) :
    (goodS l' ↔ ∀ a ∈ l, lapB a s = false) ∧ ((∀ a ∈ l, lapB a s = false) → l' = insF l s) := by
  have h2 : (∀ a ∈ l, lapB a s = false) → l' = insF l s := fun g =>
    sorted_unique (hp.trans insF_perm.symm) hl (good_lt ((good_ins h hs).2 g))
  refine ⟨⟨fun g a ha => ?_, fun g => by rw [h2 g]; exact (good_ins h hs).2 g⟩, h2⟩
  have g1 : l'.Pairwise (fun a b => apart a b ∨ apart b a) := g.2.imp (fun h => .inl h)
  have g2 : (l ++ [s]).Pairwise (fun a b => apart a b ∨ apart b a) := (hp.pairwise_iff (fun h => h.symm)).1 g1
  rw [List.pairwise_append] at g2
  have g3 := g2.2.2 a ha s (by simp)
  unfold apart at g3
  unfold lapB
  rw [Bool.and_eq_false_iff]
  rcases g3 with g3 | g3
  · right; exact decide_eq_false (by omega)
  · left; exact decide_eq_false (by omega)
end Go.Proofs.Ytnhohnnoffhkhaa
