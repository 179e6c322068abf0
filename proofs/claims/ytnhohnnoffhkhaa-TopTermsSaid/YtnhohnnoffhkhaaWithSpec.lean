/- A calendar with one span more: when it is right, and that no term ends earlier in it. No program in sight. No conditions. -/
import Derived.Test.YtnhohnnoffhkhaaTermGrows
namespace Go.Proofs.Ytnhohnnoffhkhaa
open Go.RowKit

/-- One span more, in its place. -/
def insF : List (Int × Int) → (Int × Int) → List (Int × Int)
  | [], s => [s]
  | a :: l, s => if s.1 < a.1 then s :: a :: l else a :: insF l s
def withC (c : Cal) (s : Int × Int) : Cal := ⟨c.first, c.free, insF c.still s⟩
def lapB (a s : Int × Int) : Bool := decide (a.1 ≤ s.2) && decide (s.1 ≤ a.2)
def apart (a b : Int × Int) : Prop := a.2 < b.1
theorem mem_insF {x s : Int × Int} : ∀ {l : List (Int × Int)}, x ∈ insF l s ↔ x = s ∨ x ∈ l
  | [] => by simp [insF]
  | a :: l => by
    unfold insF
    by_cases h : s.1 < a.1
    · rw [if_pos h]; simp
    · rw [if_neg h, List.mem_cons, mem_insF (l := l), List.mem_cons]
      constructor
      · rintro (h | h | h)
        · exact .inr (.inl h)
        · exact .inl h
        · exact .inr (.inr h)
      · rintro (h | h | h)
        · exact .inr (.inl h)
        · exact .inl h
        · exact .inr (.inr h)
theorem insF_length {s : Int × Int} : ∀ {l : List (Int × Int)}, (insF l s).length = l.length + 1
  | [] => rfl
  | a :: l => by
    unfold insF
    split
    · rfl
    · rw [List.length_cons, insF_length (l := l)]; rfl
/-- The spans are right: each one, and in order. -/
def goodS (l : List (Int × Int)) : Prop := (∀ x ∈ l, spanB x = true) ∧ l.Pairwise apart
theorem good_iff (l : List (Int × Int)) : someFrom (badStill l) l.length 0 = false ↔ goodS l := by
  have key : someFrom (badStill l) l.length 0 = false ↔ ∀ i, i < l.length → badStill l i = false := by
    rw [← Bool.not_eq_true, someFrom_iff]
    constructor
    · intro h i hi
      cases hb : badStill l i
      · rfl
      · exact absurd ⟨i, Nat.zero_le _, hi, hb⟩ h
    · rintro h ⟨i, _, hi, hb⟩
      rw [h i hi] at hb; cases hb
  rw [key]
  constructor
  · intro h
    have h1 : ∀ x ∈ l, spanB x = true := by
      intro x hx
      obtain ⟨i, hi, rfl⟩ := List.getElem_of_mem hx
      have := h i hi
      unfold badStill at this
      rw [Bool.or_eq_false_iff, gi_lt hi] at this
      simpa using this.1
    refine ⟨h1, ?_⟩
    rw [List.pairwise_iff_getElem]
    intro i j hi hj hij
    unfold apart
    have step : ∀ k, (hk : i + k + 1 < l.length) → (l[i]'hi).2 < (l[i + k + 1]'hk).1 := by
      intro k
      induction k with
      | zero =>
        intro hk
        have := h (i + 1) hk
        unfold badStill at this
        rw [Bool.or_eq_false_iff, gi_lt hk, Nat.add_sub_cancel, gi_lt hi] at this
        have := this.2
        simp at this
        exact this
      | succ k ih =>
        intro hk
        have h2 := ih (by omega)
        have h3 := spanB_iff.1 (h1 _ (List.getElem_mem (show i + k + 1 < l.length by omega)))
        have h4 := h (i + k + 1 + 1) (by omega)
        unfold badStill at h4
        rw [Bool.or_eq_false_iff, gi_lt (show i + k + 1 + 1 < l.length by omega), Nat.add_sub_cancel, gi_lt (show i + k + 1 < l.length by omega)] at h4
        have h4 := h4.2
        simp at h4
        have e : i + (k + 1) + 1 = i + k + 1 + 1 := by omega
        simp only [e]
        omega
    have := step (j - i - 1) (by omega)
    have e : i + (j - i - 1) + 1 = j := by omega
    simp only [e] at this
    exact this
  · rintro ⟨h1, h2⟩ i hi
    unfold badStill
    rw [gi_lt hi, h1 _ (List.getElem_mem hi)]
    by_cases h0 : 0 < i
    · have := List.pairwise_iff_getElem.1 h2 (i - 1) i (by omega) hi (by omega)
      unfold apart at this
      rw [gi_lt (show i - 1 < l.length by omega)]
      simp; intro _; omega
    · simp [h0]
theorem good_ins {l : List (Int × Int)} {s : Int × Int} (h : goodS l) (hs : spanB s = true) : goodS (insF l s) ↔ ∀ a ∈ l, lapB a s = false := by
  have s1 := spanB_iff.1 hs
  have hspan : ∀ x ∈ insF l s, spanB x = true := fun x hx => by
    rcases mem_insF.1 hx with rfl | hx
    · exact hs
    · exact h.1 x hx
  have hp : (insF l s).Pairwise apart ↔ ∀ a ∈ l, lapB a s = false := by
    obtain ⟨h1, h2⟩ := h
    clear hspan
    induction l with
    | nil => simp [insF]
    | cons a l ih =>
      rw [List.pairwise_cons] at h2
      have a1 := spanB_iff.1 (h1 a (by simp))
      have ih := ih (fun x hx => h1 x (by simp [hx])) h2.2
      unfold insF
      by_cases hc : s.1 < a.1
      · rw [if_pos hc, List.pairwise_cons]
        constructor
        · rintro ⟨g1, _⟩ b hb
          have := g1 b hb
          unfold apart at this
          unfold lapB
          rw [Bool.and_eq_false_iff]; left
          exact decide_eq_false (by omega)
        · intro g
          have g1 := g a (by simp)
          unfold lapB at g1
          rw [Bool.and_eq_false_iff] at g1
          have g2 : s.2 < a.1 := by
            rcases g1 with g1 | g1
            · have := of_decide_eq_false g1; omega
            · have := of_decide_eq_false g1; omega
          refine ⟨fun b hb => ?_, List.pairwise_cons.2 h2⟩
          unfold apart
          rcases List.mem_cons.1 hb with rfl | hb
          · exact g2
          · have := h2.1 b hb
            unfold apart at this; omega
      · rw [if_neg hc, List.pairwise_cons]
        constructor
        · rintro ⟨g1, g2⟩ b hb
          rcases List.mem_cons.1 hb with rfl | hb
          · have := g1 s (mem_insF.2 (.inl rfl))
            unfold apart at this
            unfold lapB
            rw [Bool.and_eq_false_iff]; right
            exact decide_eq_false (by omega)
          · exact ih.1 g2 b hb
        · intro g
          have g1 := g a (by simp)
          unfold lapB at g1
          rw [Bool.and_eq_false_iff] at g1
          have g2 : a.2 < s.1 := by
            rcases g1 with g1 | g1
            · have := of_decide_eq_false g1; omega
            · have := of_decide_eq_false g1; omega
          refine ⟨fun b hb => ?_, ih.2 (fun b hb => g b (by simp [hb]))⟩
          rcases mem_insF.1 hb with rfl | hb
          · exact g2
          · exact h2.1 b hb
  exact ⟨fun g => hp.1 g.2, fun g => ⟨hspan, hp.2 g⟩⟩
theorem valid_parts {c : Cal} : validF c = 0 ↔ withinB c.first 0 6 = true ∧ c.free.length ≤ 12 ∧ c.still.length ≤ 4 ∧ someFrom (badFree c.free) c.free.length 0 = false ∧ goodS c.still := by
  rw [← good_iff]
  unfold validF
  by_cases h1 : withinB c.first 0 6 = true
  · rw [if_pos h1]
    by_cases h2 : 12 < c.free.length
    · simp [h2]; omega
    · by_cases h3 : 4 < c.still.length
      · simp [h3]; omega
      · simp only [h2, h3, decide_false, Bool.or_false, if_false, Bool.false_eq_true]
        cases h4 : someFrom (badFree c.free) c.free.length 0
        · cases h5 : someFrom (badStill c.still) c.still.length 0
          · simp [h1]; omega
          · simp
        · simp
  · rw [if_neg h1]; simp [h1]
theorem valid_with {c : Cal} {s : Int × Int} (h : validF c = 0) (hl : c.still.length < 4) (hs : spanB s = true) : validF (withC c s) = 0 ↔ ∀ a ∈ c.still, lapB a s = false := by
  obtain ⟨h1, h2, h3, h4, h5⟩ := valid_parts.1 h
  rw [valid_parts, ← good_ins h5 hs]
  unfold withC
  constructor
  · rintro ⟨_, _, _, _, g⟩; exact g
  · intro g
    exact ⟨h1, h2, by rw [insF_length]; omega, h4, g⟩
theorem free_with (c : Cal) (s : Int × Int) (x : Int) : freeB (withC c s) x = freeB c x := rfl
theorem still_with {c : Cal} {s : Int × Int} {x : Int} (h : stillB c x = true) : stillB (withC c s) x = true := by
  unfold stillB at *
  rw [List.any_eq_true] at *
  obtain ⟨y, hy, hp⟩ := h
  exact ⟨y, mem_insF.2 (.inr hy), hp⟩
/-- No term ends earlier. -/
theorem ends_with {c : Cal} {s : Int × Int} (h : validF c = 0) (h' : validF (withC c s) = 0) {d n : Int} (h0 : 0 ≤ d) (h1 : 0 ≤ n) (h2 : n ≤ 4000) : endsF c d n ≤ endsF (withC c s) d n := by
  obtain ⟨a1, a2, a3⟩ := endsF_first h (day := d) (days := n) h0 h1 h2
  obtain ⟨b1, b2, b3⟩ := endsF_first h' (day := d) (days := n) h0 h1 h2
  rcases Int.lt_or_le (endsF (withC c s) d n) (endsF c d n) with u | u
  · have hno := a3 _ b1 u
    unfold endB at hno b2
    rw [Bool.and_eq_true] at b2
    obtain ⟨b4, b5⟩ := b2
    have b4 := of_decide_eq_true b4
    rw [free_with] at b5
    rw [b5, Bool.and_true] at hno
    have hno := of_decide_eq_false hno
    have := cnt_imp (p := fun y => !(stillB (withC c s) y)) (q := fun y => !(stillB c y)) (d := d + 1) (fun x hx => by
      cases hq : stillB c x
      · rfl
      · have := still_with (s := s) hq; rw [this] at hx; cases hx) (endsF (withC c s) d n - d).toNat
    omega
  · exact u
theorem asked_with {c : Cal} {s : Int × Int} (h : validF c = 0) (h' : validF (withC c s) = 0) (ds ts : List Int) : askedF (withC c s) ds ts = askedF c ds ts := by
  unfold askedF; rw [if_pos h, if_pos h']
/-- What With answers. -/
def withE (c : Cal) (s : Int × Int) : Int :=
  if validF c = 0 then (if 4 ≤ c.still.length then 3 else if spanB s then (if c.still.any (fun a => lapB a s) then 6 else 0) else 1) else validF c
def withR (c : Cal) (s : Int × Int) : Cal := if withE c s = 0 then withC c s else ⟨0, [], []⟩
theorem withE_ok {c : Cal} {s : Int × Int} (h : withE c s = 0) : validF c = 0 ∧ validF (withC c s) = 0 := by
  unfold withE at h
  by_cases hv : validF c = 0
  · rw [if_pos hv] at h
    by_cases hl : 4 ≤ c.still.length
    · rw [if_pos hl] at h; exact absurd h (by decide)
    · rw [if_neg hl] at h
      by_cases hs : spanB s = true
      · rw [if_pos hs] at h
        refine ⟨hv, (valid_with hv (by omega) hs).2 fun a ha => ?_⟩
        cases hq : lapB a s
        · rfl
        · rw [if_pos (List.any_eq_true.2 ⟨a, ha, hq⟩)] at h; exact absurd h (by decide)
      · rw [if_neg hs] at h; exact absurd h (by decide)
  · rw [if_neg hv] at h; exact absurd h hv
end Go.Proofs.Ytnhohnnoffhkhaa
