/- Whose objections are in time, as lists; a sorted list without doubles is told by its members. No conditions. -/
import Derived.Test.YtnhohnnoffhkhaaTermInTime
import Derived.Lib.SlicesCompact
namespace Go.Proofs.Ytnhohnnoffhkhaa
open Go.RowKit

def objB (os : List (Int × Int)) (i : Nat) : Bool := !(dayB (gi os (0, 0) i).1) || !(dayB (gi os (0, 0) i).2)
/-- The errors of objections. -/
def objE (c : Cal) (h n : Int) (os : List (Int × Int)) : Int :=
  if askedF c [h] [n] = 0 then (if 20 < os.length then 3 else if someFrom (objB os) os.length 0 then 1 else 0) else askedF c [h] [n]
/-- The owners in time among the first k. -/
def colF (c : Cal) (h n : Int) (os : List (Int × Int)) : Nat → List Int
  | 0 => []
  | k + 1 => if inF c h n (gi os (0, 0) k).2 then colF c h n os k ++ [(gi os (0, 0) k).1] else colF c h n os k
def anyTo (p : Nat → Bool) : Nat → Bool
  | 0 => false
  | k + 1 => anyTo p k || p k
/-- Whether owner x has an objection in time. -/
def hasObj (c : Cal) (h n : Int) (os : List (Int × Int)) (x : Int) (i : Nat) : Bool := ((gi os (0, 0) i).1 == x) && inF c h n (gi os (0, 0) i).2
def owF (p : Int → Bool) : Nat → List Int
  | 0 => []
  | k + 1 => if p (k : Int) then owF p k ++ [(k : Int)] else owF p k
def objL (c : Cal) (h n : Int) (os : List (Int × Int)) : List Int := if objE c h n os = 0 then owF (fun x => anyTo (hasObj c h n os x) os.length) 10001 else []

theorem anyTo_iff {p : Nat → Bool} : ∀ k, anyTo p k = true ↔ ∃ i, i < k ∧ p i = true
  | 0 => by simp [anyTo]
  | k + 1 => by
    unfold anyTo
    rw [Bool.or_eq_true, anyTo_iff k]
    constructor
    · rintro (⟨i, h1, h2⟩ | h)
      · exact ⟨i, by omega, h2⟩
      · exact ⟨k, by omega, h⟩
    · rintro ⟨i, h1, h2⟩
      rcases Nat.lt_succ_iff_lt_or_eq.1 h1 with h3 | rfl
      · exact .inl ⟨i, h3, h2⟩
      · exact .inr h2
theorem mem_owF {p : Int → Bool} {x : Int} : ∀ k, x ∈ owF p k ↔ 0 ≤ x ∧ x < k ∧ p x = true
  | 0 => by simp [owF]; omega
  | k + 1 => by
    unfold owF
    by_cases hp : p (k : Int) = true
    · rw [if_pos hp, List.mem_append, mem_owF k, List.mem_singleton]
      constructor
      · rintro (⟨h1, h2, h3⟩ | rfl)
        · exact ⟨h1, by omega, h3⟩
        · exact ⟨by omega, by omega, hp⟩
      · rintro ⟨h1, h2, h3⟩
        by_cases hx : x = k
        · exact .inr hx
        · exact .inl ⟨h1, by omega, h3⟩
    · rw [if_neg hp, mem_owF k]
      constructor
      · rintro ⟨h1, h2, h3⟩; exact ⟨h1, by omega, h3⟩
      · rintro ⟨h1, h2, h3⟩
        refine ⟨h1, ?_, h3⟩
        by_cases hx : x = k
        · subst hx; exact absurd h3 hp
        · omega
theorem owF_strict {p : Int → Bool} : ∀ k, (owF p k).Pairwise (· < ·)
  | 0 => by simp [owF]
  | k + 1 => by
    unfold owF
    by_cases hp : p (k : Int) = true
    · rw [if_pos hp, List.pairwise_append]
      refine ⟨owF_strict k, by simp, fun a ha b hb => ?_⟩
      have := (mem_owF k).1 ha
      simp at hb; omega
    · rw [if_neg hp]; exact owF_strict k
theorem owF_le {p : Int → Bool} : ∀ k, (owF p k).length ≤ k
  | 0 => Nat.le_refl _
  | k + 1 => by
    have := owF_le (p := p) k
    unfold owF; split
    · simp; omega
    · omega
theorem colF_le {c : Cal} {h n : Int} {os : List (Int × Int)} : ∀ k, (colF c h n os k).length ≤ k
  | 0 => Nat.le_refl _
  | k + 1 => by
    have := colF_le (c := c) (h := h) (n := n) (os := os) k
    unfold colF; split
    · simp; omega
    · omega
theorem mem_colF {c : Cal} {h n : Int} {os : List (Int × Int)} {x : Int} : ∀ k, x ∈ colF c h n os k ↔ ∃ i, i < k ∧ hasObj c h n os x i = true
  | 0 => by simp [colF]
  | k + 1 => by
    unfold colF
    by_cases hp : inF c h n (gi os (0, 0) k).2 = true
    · rw [if_pos hp, List.mem_append, mem_colF k, List.mem_singleton]
      constructor
      · rintro (⟨i, h1, h2⟩ | rfl)
        · exact ⟨i, by omega, h2⟩
        · exact ⟨k, by omega, by unfold hasObj; rw [hp]; simp⟩
      · rintro ⟨i, h1, h2⟩
        rcases Nat.lt_succ_iff_lt_or_eq.1 h1 with h3 | rfl
        · exact .inl ⟨i, h3, h2⟩
        · right
          unfold hasObj at h2
          rw [Bool.and_eq_true, beq_iff_eq] at h2
          exact h2.1.symm
    · rw [if_neg hp, mem_colF k]
      constructor
      · rintro ⟨i, h1, h2⟩; exact ⟨i, by omega, h2⟩
      · rintro ⟨i, h1, h2⟩
        rcases Nat.lt_succ_iff_lt_or_eq.1 h1 with h3 | rfl
        · exact ⟨i, h3, h2⟩
        · unfold hasObj at h2
          rw [Bool.and_eq_true] at h2
          exact absurd h2.2 hp
theorem strict_unique : ∀ {l m : List Int}, l.Pairwise (· < ·) → m.Pairwise (· < ·) → (∀ x, x ∈ l ↔ x ∈ m) → l = m
  | [], [], _, _, _ => rfl
  | [], b :: m, _, _, h => by have := (h b).2 (by simp); simp at this
  | a :: l, [], _, _, h => by have := (h a).1 (by simp); simp at this
  | a :: l, b :: m, hl, hm, h => by
    rw [List.pairwise_cons] at hl hm
    have hab : a = b := by
      have h1 := (h a).1 (by simp)
      have h2 := (h b).2 (by simp)
      rw [List.mem_cons] at h1 h2
      rcases h1 with h1 | h1
      · exact h1
      · rcases h2 with h2 | h2
        · exact h2.symm
        · have := hm.1 a h1; have := hl.1 b h2; omega
    subst hab
    have := strict_unique hl.2 hm.2 (fun x => by
      have hx := h x
      rw [List.mem_cons, List.mem_cons] at hx
      constructor
      · intro h1
        rcases hx.1 (.inr h1) with h2 | h2
        · subst h2; exact absurd (hl.1 _ h1) (by omega)
        · exact h2
      · intro h1
        rcases hx.2 (.inr h1) with h2 | h2
        · subst h2; exact absurd (hm.1 _ h1) (by omega)
        · exact h2)
    rw [this]
theorem compactUpTo_spec {d : Array Int} (hs : ∀ i j, i ≤ j → j < d.size → d[i]! ≤ d[j]!) : ∀ m, m ≤ d.size → (Lib.compactUpTo d m).Pairwise (· < ·) ∧ (∀ x ∈ Lib.compactUpTo d m, ∃ j, j < m ∧ x = d[j]!) ∧ ∀ j, j < m → d[j]! ∈ Lib.compactUpTo d m
  | 0, _ => by simp [Lib.compactUpTo]
  | m + 1, hm => by
    obtain ⟨h1, h2, h3⟩ := compactUpTo_spec hs m (by omega)
    rw [Lib.compactUpTo_succ]
    by_cases hk : m = 0 ∨ d[m]! ≠ d[m - 1]!
    · have hk' : Lib.keeps d m = true := by unfold Lib.keeps; simpa using hk
      rw [if_pos hk']
      refine ⟨?_, ?_, ?_⟩
      · rw [List.pairwise_append]
        refine ⟨h1, by simp, fun a ha b hb => ?_⟩
        obtain ⟨j, hj, rfl⟩ := h2 a ha
        simp only [List.mem_singleton] at hb
        subst hb
        have g1 := hs j (m - 1) (by omega) (by omega)
        have g2 := hs (m - 1) m (by omega) (by omega)
        rcases hk with hk | hk
        · omega
        · omega
      · intro x hx
        rw [List.mem_append, List.mem_singleton] at hx
        rcases hx with hx | rfl
        · obtain ⟨j, hj, rfl⟩ := h2 x hx; exact ⟨j, by omega, rfl⟩
        · exact ⟨m, by omega, rfl⟩
      · intro j hj
        rw [List.mem_append, List.mem_singleton]
        rcases Nat.lt_succ_iff_lt_or_eq.1 hj with h | rfl
        · exact .inl (h3 j h)
        · exact .inr rfl
    · have hk' : ¬ Lib.keeps d m = true := by unfold Lib.keeps; simpa using hk
      rw [if_neg hk', List.append_nil]
      refine ⟨h1, fun x hx => ?_, fun j hj => ?_⟩
      · obtain ⟨j, hj, rfl⟩ := h2 x hx; exact ⟨j, by omega, rfl⟩
      · rcases Nat.lt_succ_iff_lt_or_eq.1 hj with h | rfl
        · exact h3 j h
        · have he : d[j]! = d[j - 1]! := by
            rcases Classical.em (d[j]! = d[j - 1]!) with h | h
            · exact h
            · exact absurd (.inr h) hk
          rw [he]
          exact h3 (j - 1) (by have : j ≠ 0 := fun h => hk (.inl h); omega)
theorem compact_spec {l : List Int} (hs : l.Pairwise (· ≤ ·)) : (Lib.compact l).Pairwise (· < ·) ∧ ∀ x, x ∈ Lib.compact l ↔ x ∈ l := by
  have hs' : ∀ i j, i ≤ j → j < l.toArray.size → l.toArray[i]! ≤ l.toArray[j]! := by
    intro i j hij hj
    have hj' : j < l.length := by simpa using hj
    rcases Nat.lt_or_ge i j with h | h
    · have := List.pairwise_iff_getElem.1 hs i j (by omega) hj' h
      simpa [hj', show i < l.length by omega] using this
    · rw [show i = j by omega]; exact Int.le_refl _
  obtain ⟨h1, h2, h3⟩ := compactUpTo_spec hs' l.length (by simp)
  refine ⟨h1, fun x => ⟨fun hx => ?_, fun hx => ?_⟩⟩
  · obtain ⟨j, hj, rfl⟩ := h2 x hx
    simp [hj]
  · obtain ⟨j, hj, rfl⟩ := List.getElem_of_mem hx
    have := h3 j hj
    unfold Lib.compact
    simpa [hj] using this
theorem obj_same {c : Cal} {h n : Int} {os : List (Int × Int)} (hd : ∀ i, i < os.length → objB os i = false) :
    Lib.compact ((colF c h n os os.length).mergeSort fun x y => decide (x ≤ y)) = owF (fun x => anyTo (hasObj c h n os x) os.length) 10001 := by
  have hs : ((colF c h n os os.length).mergeSort fun x y => decide (x ≤ y)).Pairwise (· ≤ ·) := by
    have := List.pairwise_mergeSort (le := fun (x y : Int) => decide (x ≤ y)) (fun a b c h1 h2 => by simp at *; omega) (fun a b => by simp; omega) (colF c h n os os.length)
    exact this.imp (fun h => by simpa using h)
  obtain ⟨h1, h2⟩ := compact_spec hs
  refine strict_unique h1 (owF_strict _) (fun x => ?_)
  rw [h2, List.mem_mergeSort, mem_colF, mem_owF, anyTo_iff]
  constructor
  · rintro ⟨i, hi, hp⟩
    have hb := hd i hi
    unfold objB at hb
    rw [Bool.or_eq_false_iff] at hb
    have hA : dayB (gi os (0, 0) i).1 = true := by simpa using hb.1
    have hA := withinB_iff.1 (by simpa [dayB] using hA)
    have hx : (gi os (0, 0) i).1 = x := by unfold hasObj at hp; rw [Bool.and_eq_true, beq_iff_eq] at hp; exact hp.1
    exact ⟨by omega, by omega, i, hi, hp⟩
  · rintro ⟨_, _, i, hi, hp⟩; exact ⟨i, hi, hp⟩
theorem compact_le {l : List Int} : (Lib.compact l).length ≤ l.length := by
  have : ∀ m, (Lib.compactUpTo l.toArray m).length ≤ m := by
    intro m
    induction m with
    | zero => simp [Lib.compactUpTo]
    | succ m ih => rw [Lib.compactUpTo_succ, List.length_append]; split <;> simp <;> omega
  exact this _
end Go.Proofs.Ytnhohnnoffhkhaa
