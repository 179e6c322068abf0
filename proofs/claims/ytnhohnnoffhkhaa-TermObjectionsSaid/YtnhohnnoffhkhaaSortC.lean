/- slices.Sort and slices.Compact of a list of numbers that the call owns. Conditions: the list is owned, as said. -/
import Derived.Test.YtnhohnnoffhkhaaShelf
import Derived.Test.YtnhohnnoffhkhaaOwn2
import Derived.Lib.OwnBridge
import Derived.Sort.OwnSortedInts
namespace Go.Proofs.Ytnhohnnoffhkhaa
open Go.RowKit Go.Sort Go.Lib

def sortI (l : List Int) : List Int := l.mergeSort fun x y => decide (x ≤ y)
theorem sortI_length (l : List Int) : (sortI l).length = l.length := by simp [sortI]
theorem sort_own {base : Nat} {v : Value} {l : List Int} {w : World} (hown : w.ownsRow base 3 1 v l.length (cells1 l)) (hl : l.length ≤ 1000) :
    Calls Try.prog 86 #[v] w fun e w' => e = .returned (.tuple #[]) ∧ w'.ownsRow base 3 1 v (sortI l).length (cells1 (sortI l)) ∧ w.grownBy w' v.ownBlock := by
  by_cases hv : v = .slice none 0 0
  · subst hv
    refine (Try.slices_Sort_int_none none 0 w).mono ?_
    rintro e w' ⟨rfl, rfl⟩
    have h0 : l.length = 0 := by
      rcases hown.2 with ⟨_, h⟩ | ⟨g, cap, cur, h, _⟩
      · exact h
      · cases h
    have : l = [] := List.eq_nil_of_length_eq_zero h0
    subst this
    refine ⟨rfl, ?_, ⟨rfl, rfl, rfl, Nat.le_refl _, fun _ _ _ => rfl⟩⟩
    have : sortI [] = [] := by simp [sortI]
    rw [this]; exact World.ownsRow_nil _ _ _ _
  · obtain ⟨g, cap, rfl, hb, hlt, hn, hm, _, hH⟩ := holds_of_ownsRow (enc := Value.int .i64) (zs := l) hown hv
    refine (Try.slices_Sort_int g 0 cap l w hH hlt (by omega)).mono ?_
    rintro e w' ⟨rfl, n, os, rfl⟩
    refine ⟨rfl, ?_, grownBy_sortedI _⟩
    rcases hown.2 with ⟨h, _⟩ | ⟨g', cap', cur, h, _, hg, h1, h2, h3, h4⟩
    · cases h
    · simp only [Value.slice.injEq, Option.some.injEq, Addr.mk.injEq, and_true, true_and] at h
      obtain ⟨rfl, rfl⟩ := h
      rw [sortI_length]
      exact ownsRow_sortedI (ss := l) (by simp) hb hg h1 h2 h3
theorem compact_own {base : Nat} {v : Value} {l : List Int} {w : World} (hown : w.ownsRow base 3 1 v l.length (cells1 l)) (hl : l.length ≤ 1000) :
    Calls Try.prog 87 #[v] w fun e w' => ∃ v', e = .returned v' ∧ IntsAt w' v' (Lib.compact l) ∧ w.grownBy w' v.ownBlock := by
  by_cases hv : v = .slice none 0 0
  · subst hv
    refine (Try.slices_Compact_int_empty none 0 w).mono ?_
    rintro e w' ⟨rfl, rfl⟩
    have h0 : l.length = 0 := by
      rcases hown.2 with ⟨_, h⟩ | ⟨g, cap, cur, h, _⟩
      · exact h
      · cases h
    have : l = [] := List.eq_nil_of_length_eq_zero h0
    subst this
    exact ⟨_, rfl, ints0 _ _ _ (by decide), ⟨rfl, rfl, rfl, Nat.le_refl _, fun _ _ _ => rfl⟩⟩
  · obtain ⟨g, cap, rfl, hb, hlt, hn, hm, _, hH⟩ := holds_of_ownsRow (enc := Value.int .i64) (zs := l) hown hv
    refine (Try.slices_Compact_int g 0 cap l w hH (by omega) hn).mono ?_
    rintro e w' ⟨rfl, q, rfl⟩
    have hcl : (Lib.compact l).length ≤ l.length := by
      have : ∀ m, (Lib.compactUpTo l.toArray m).length ≤ m := by
        intro m
        induction m with
        | zero => simp [Lib.compactUpTo]
        | succ m ih => rw [Lib.compactUpTo_succ, List.length_append]; split <;> simp <;> omega
      exact this _
    refine ⟨_, rfl, ⟨_, cap, rfl, by omega, by unfold maxLen at hm; omega, fun i hi => ⟨g, 0, rfl, ?_, ?_⟩⟩, ?_⟩
    · simp; exact hlt
    · have hsz : (Lib.compact l ++ List.replicate (l.length - (Lib.compact l).length) (0 : Int)).toArray.size = l.toArray.size := by simp; omega
      have := cell?_putRow (Value.int .i64) (Sort.ahead w q) g 0 l.toArray (Lib.compact l ++ List.replicate (l.length - (Lib.compact l).length) (0 : Int)).toArray hH hsz i (by simp; omega)
      rw [this]
      have hi2 : i < (Lib.compact l ++ List.replicate (l.length - (Lib.compact l).length) (0 : Int)).length := by simp; omega
      simp [gi, hi, List.getElem?_append]
    · have := grownBy_sortedI (w := w) (g := g) (n := q) (os := #[]) (Lib.compact l ++ List.replicate (l.length - (Lib.compact l).length) (0 : Int)).toArray
      rw [grow_empty] at this
      exact this
end Go.Proofs.Ytnhohnnoffhkhaa
