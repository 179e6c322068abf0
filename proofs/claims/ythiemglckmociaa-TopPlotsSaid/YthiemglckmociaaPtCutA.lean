/- Which corners split a plot: the sides that the line between them touches. No conditions. -/
import Derived.Test.YthiemglckmociaaPtMovedA
import Derived.Test.YthiemglckmociaaGeoA
import Derived.Test.YthiemglckmociaaPtMin
namespace Go.Proofs.Ythiemglckmociaa
open Go.RowKit

/-- Side k stands in the way of the line from corner i to corner j. -/
def cutB (l : List (Int × Int)) (i j k : Nat) : Bool :=
  if k = i then backB (cor l i) (cor l (k + 1)) (cor l j)
  else if k = j then backB (cor l j) (cor l (k + 1)) (cor l i)
  else if (k + 1) % l.length = i then backB (cor l i) (cor l k) (cor l j)
  else if (k + 1) % l.length = j then backB (cor l j) (cor l k) (cor l i)
  else touchB (cor l k) (cor l (k + 1)) (cor l i) (cor l j)
def dblL (l : List (Int × Int)) : List (Int × Int) := l.map (sc 2)
def midL (l : List (Int × Int)) (i j : Nat) : Int × Int := mid2 (cor l i) (cor l j)
def nextTo (n i j : Nat) : Bool := i == j || (i + 1) % n == j || (j + 1) % n == i
def splitB (l : List (Int × Int)) (i j : Nat) : Bool := !nextTo l.length i j && (!anyN (cutB l i j) l.length && sideF (dblL l) (midL l i j) == 1)
theorem back_iff {a b c : Int × Int} (hab : a ≠ b) (hac : a ≠ c) : backB a b c = (onB a b c || onB a c b) := by
  rw [Bool.eq_iff_iff, backB_iff, Bool.or_eq_true]
  exact back_on hab hac
theorem cor_dbl {l : List (Int × Int)} (h : 0 < l.length) (i : Nat) : cor (dblL l) i = sc 2 (cor l i) := cor_map (sc 2) h i
theorem dbl_length (l : List (Int × Int)) : (dblL l).length = l.length := List.length_map ..
theorem simple_dbl {l : List (Int × Int)} (h : Valid l) : Simple (cor (dblL l)) (dblL l).length := by
  have h3 := h.lo
  have e : cor (dblL l) = fun i => sc 2 (cor l i) := funext fun i => cor_dbl (by omega) i
  rw [e, dbl_length]
  exact h.simple.scale (by decide)
/-- The other corner, counted from the first one. -/
theorem split_index {n i j : Nat} (hi : i < n) (hj : j < n) (hn : nextTo n i j = false) : ∃ m, 2 ≤ m ∧ m + 2 ≤ n ∧ (i + m = j ∨ i + m = j + n) := by
  simp only [nextTo, Bool.or_eq_false_iff, beq_eq_false_iff_ne] at hn
  obtain ⟨⟨h1, h2⟩, h3⟩ := hn
  have e2 : i + 1 ≠ j := fun e => h2 (by rw [e, Nat.mod_eq_of_lt hj])
  have e3 : j + 1 ≠ i := fun e => h3 (by rw [e, Nat.mod_eq_of_lt hi])
  have e4 : i + 1 = n → j ≠ 0 := fun e e' => h2 (by rw [e, Nat.mod_self, e'])
  have e5 : j + 1 = n → i ≠ 0 := fun e e' => h3 (by rw [e, Nat.mod_self, e'])
  rcases Nat.lt_or_ge i j with c | c
  · exact ⟨j - i, by omega, by omega, .inl (by omega)⟩
  · exact ⟨j + n - i, by omega, by omega, .inr (by omega)⟩
theorem cor_far {l : List (Int × Int)} {i j m : Nat} (h : i + m = j ∨ i + m = j + l.length) : cor l (m + i) = cor l j := by
  rcases h with h | h
  · rw [Nat.add_comm, h]
  · rw [Nat.add_comm, h, cor_per]
/-- No side stands in the way: the line is one that splits. -/
theorem diag_of_cut {l : List (Int × Int)} (_hv : Valid l) {i j m : Nat} (hi : i < l.length) (hj : j < l.length) (h2 : 2 ≤ m) (h3 : m + 2 ≤ l.length) (hm : i + m = j ∨ i + m = j + l.length)
    (hc : ∀ k, k < l.length → cutB l i j k = false) : Diag (fun k => cor l (k + i)) l.length m := by
  have hn : 0 < l.length := by omega
  have em := cor_far hm
  have hlt : ∀ k, k % l.length < l.length := fun k => Nat.mod_lt _ hn
  have cm : ∀ k, cor l (k % l.length) = cor l k := fun k => by have := cor_mod l k 0; simpa using this
  have cm1 : ∀ k, cor l (k % l.length + 1) = cor l (k + 1) := fun k => cor_mod l k 1
  -- numbers of corners from the first one on
  have idx : ∀ k t, k < l.length → (t = k + i ∨ t + l.length = k + i) → t < l.length → (k + i) % l.length = t := fun k t _ h ht => by
    rcases h with h | h
    · rw [← h, Nat.mod_eq_of_lt ht]
    · rw [← h, Nat.add_mod_right, Nat.mod_eq_of_lt ht]
  have nb : ∀ a b c : Int × Int, backB a b c = false → ¬ (turn a b c = 0 ∧ 0 < dot a b c) := fun a b c h e => by rw [backB_iff.2 e] at h; cases h
  have q1 : ∀ k, (k + 1 + i) = k + i + 1 := fun k => by omega
  have c0 := hc i hi
  have cj := hc j hj
  have hij : j ≠ i := by omega
  have di : cor l (1 + i) = cor l (i + 1) := by rw [Nat.add_comm]
  have dj : cor l (m + 1 + i) = cor l (j + 1) := by
    rcases hm with h | h
    · rw [show m + 1 + i = j + 1 by omega]
    · rw [show m + 1 + i = j + 1 + l.length by omega, cor_per]
  have d0 : cor l (0 + i) = cor l i := by rw [Nat.zero_add]
  -- the side before each
  have pj : ∃ t, t < l.length ∧ (t + 1) % l.length = j ∧ t ≠ i ∧ t ≠ j ∧ (t + 1) % l.length ≠ i ∧ cor l (m - 1 + i) = cor l t := by
    rcases Nat.eq_zero_or_pos j with z | z
    · refine ⟨l.length - 1, by omega, by rw [show l.length - 1 + 1 = l.length by omega, Nat.mod_self, z], by omega, by omega, by rw [show l.length - 1 + 1 = l.length by omega, Nat.mod_self]; omega, by congr 1; omega⟩
    · refine ⟨j - 1, by omega, by rw [show j - 1 + 1 = j by omega, Nat.mod_eq_of_lt hj], by omega, by omega, by rw [show j - 1 + 1 = j by omega, Nat.mod_eq_of_lt hj]; omega, ?_⟩
      rcases hm with h | h
      · congr 1; omega
      · rw [show m - 1 + i = j - 1 + l.length by omega, cor_per]
  have pi : ∃ t, t < l.length ∧ (t + 1) % l.length = i ∧ t ≠ i ∧ t ≠ j ∧ cor l (l.length - 1 + i) = cor l t := by
    rcases Nat.eq_zero_or_pos i with z | z
    · refine ⟨l.length - 1, by omega, by rw [show l.length - 1 + 1 = l.length by omega, Nat.mod_self, z], by omega, by omega, by rw [z]; rfl⟩
    · refine ⟨i - 1, by omega, by rw [show i - 1 + 1 = i by omega, Nat.mod_eq_of_lt hi], by omega, by omega, by rw [show l.length - 1 + i = i - 1 + l.length by omega, cor_per]⟩
  refine ⟨h2, h3, ?_, ?_, ?_, ?_, fun k hk k0 k1 k2 k3 => ?_⟩
  · -- the side from corner i
    simp only [em, d0, di]
    unfold cutB at c0; rw [if_pos rfl] at c0
    have := nb _ _ _ c0
    rintro ⟨e1, e2⟩
    refine this ⟨?_, ?_⟩
    · rw [← turn_rot] at e1
      exact e1
    · have : dot (cor l i) (cor l (i + 1)) (cor l j) = dot (cor l i) (cor l j) (cor l (i + 1)) := by unfold dot; grind
      omega
  · obtain ⟨t, ht, t1, t2, t3, t4, t5⟩ := pj
    have c := hc t ht
    unfold cutB at c; rw [if_neg t2, if_neg t3, if_neg t4, if_pos t1] at c
    simp only [em, d0, t5]
    have := nb _ _ _ c
    rintro ⟨e1, e2⟩
    refine this ⟨?_, e2⟩
    have : turn (cor l j) (cor l t) (cor l i) = - turn (cor l t) (cor l j) (cor l i) := by unfold turn; grind
    omega
  · unfold cutB at cj; rw [if_neg hij, if_pos rfl] at cj
    simp only [em, d0, dj]
    have := nb _ _ _ cj
    rintro ⟨e1, e2⟩
    refine this ⟨?_, ?_⟩
    · have : turn (cor l j) (cor l (j + 1)) (cor l i) = turn (cor l i) (cor l j) (cor l (j + 1)) := by unfold turn; grind
      omega
    · have : dot (cor l j) (cor l (j + 1)) (cor l i) = dot (cor l j) (cor l i) (cor l (j + 1)) := by unfold dot; grind
      omega
  · obtain ⟨t, ht, t1, t2, t3, t5⟩ := pi
    have c := hc t ht
    unfold cutB at c; rw [if_neg t2, if_neg t3, if_pos t1] at c
    simp only [em, d0, t5]
    have := nb _ _ _ c
    rintro ⟨e1, e2⟩
    refine this ⟨?_, e2⟩
    have : turn (cor l i) (cor l t) (cor l j) = - turn (cor l t) (cor l i) (cor l j) := by unfold turn; grind
    omega
  · have c := hc ((k + i) % l.length) (hlt _)
    have hk2 : (k + i) % l.length = k + i ∧ k + i < l.length ∨ (k + i) % l.length + l.length = k + i ∧ l.length ≤ k + i := by
      rcases Nat.lt_or_ge (k + i) l.length with x | x
      · exact .inl ⟨Nat.mod_eq_of_lt x, x⟩
      · exact .inr ⟨by rw [Nat.mod_eq_sub_mod x, Nat.mod_eq_of_lt (by omega)]; omega, x⟩
    have hk3 : ((k + i) % l.length + 1) % l.length = (k + i) % l.length + 1 ∧ (k + i) % l.length + 1 < l.length ∨ ((k + i) % l.length + 1) % l.length = 0 ∧ (k + i) % l.length + 1 = l.length := by
      have := hlt (k + i)
      rcases Nat.lt_or_ge ((k + i) % l.length + 1) l.length with x | x
      · exact .inl ⟨Nat.mod_eq_of_lt x, x⟩
      · have e : (k + i) % l.length + 1 = l.length := by omega
        exact .inr ⟨by rw [e, Nat.mod_self], e⟩
    unfold cutB at c
    rw [if_neg (by omega), if_neg (by omega), if_neg (by omega), if_neg (by omega), cm, cm1] at c
    simp only [em, d0, q1]
    exact apart_symm (apart_of_touch c)
theorem back_no {a b c : Int × Int} (h : ¬ (turn a b c = 0 ∧ 0 < dot a b c)) : backB a b c = false := by
  cases e : backB a b c
  · rfl
  · exact absurd (backB_iff.1 e) h
/-- A line that splits: no side stands in the way. -/
theorem cut_of_diag {l : List (Int × Int)} (_hv : Valid l) {i j m : Nat} (hi : i < l.length) (hj : j < l.length) (h2 : 2 ≤ m) (h3 : m + 2 ≤ l.length) (hm : i + m = j ∨ i + m = j + l.length)
    (d : Diag (fun k => cor l (k + i)) l.length m) : ∀ k, k < l.length → cutB l i j k = false := by
  intro k hk
  have em := cor_far hm
  have d0 : cor l (0 + i) = cor l i := by rw [Nat.zero_add]
  have di : cor l (1 + i) = cor l (i + 1) := by rw [Nat.add_comm]
  have dj : cor l (m + 1 + i) = cor l (j + 1) := by
    rcases hm with h | h
    · rw [show m + 1 + i = j + 1 by omega]
    · rw [show m + 1 + i = j + 1 + l.length by omega, cor_per]
  have km : (k + 1) % l.length = k + 1 ∧ k + 1 < l.length ∨ (k + 1) % l.length = 0 ∧ k + 1 = l.length := by
    rcases Nat.lt_or_ge (k + 1) l.length with x | x
    · exact .inl ⟨Nat.mod_eq_of_lt x, x⟩
    · have e : k + 1 = l.length := by omega
      exact .inr ⟨by rw [e, Nat.mod_self], e⟩
  unfold cutB
  by_cases c1 : k = i
  · rw [if_pos c1, c1]
    have s := d.s0
    simp only [em, d0, di] at s
    refine back_no fun ⟨e1, e2⟩ => s ⟨?_, ?_⟩
    · rw [← turn_rot]; exact e1
    · have : dot (cor l i) (cor l (i + 1)) (cor l j) = dot (cor l i) (cor l j) (cor l (i + 1)) := by unfold dot; grind
      omega
  · rw [if_neg c1]
    by_cases c2 : k = j
    · rw [if_pos c2, c2]
      have s := d.t0
      simp only [em, d0, dj] at s
      refine back_no fun ⟨e1, e2⟩ => s ⟨?_, ?_⟩
      · have : turn (cor l j) (cor l (j + 1)) (cor l i) = turn (cor l i) (cor l j) (cor l (j + 1)) := by unfold turn; grind
        omega
      · have : dot (cor l j) (cor l (j + 1)) (cor l i) = dot (cor l j) (cor l i) (cor l (j + 1)) := by unfold dot; grind
        omega
    · rw [if_neg c2]
      by_cases c3 : (k + 1) % l.length = i
      · rw [if_pos c3]
        have s := d.t1
        have e : cor l (l.length - 1 + i) = cor l k := by
          rcases km with ⟨x, y⟩ | ⟨x, y⟩
          · rw [show l.length - 1 + i = k + l.length by omega, cor_per]
          · rw [show l.length - 1 + i = k by omega]
        simp only [em, d0, e] at s
        refine back_no fun ⟨e1, e2⟩ => s ⟨?_, e2⟩
        have : turn (cor l i) (cor l k) (cor l j) = - turn (cor l k) (cor l i) (cor l j) := by unfold turn; grind
        omega
      · rw [if_neg c3]
        by_cases c4 : (k + 1) % l.length = j
        · rw [if_pos c4]
          have s := d.s1
          have e : cor l (m - 1 + i) = cor l k := by
            rcases km with ⟨x, y⟩ | ⟨x, y⟩ <;> rcases hm with z | z
            · rw [show m - 1 + i = k by omega]
            · rw [show m - 1 + i = k + l.length by omega, cor_per]
            · omega
            · rw [show m - 1 + i = k by omega]
          simp only [em, d0, e] at s
          refine back_no fun ⟨e1, e2⟩ => s ⟨?_, e2⟩
          have : turn (cor l j) (cor l k) (cor l i) = - turn (cor l k) (cor l j) (cor l i) := by unfold turn; grind
          omega
        · rw [if_neg c4]
          obtain ⟨q, hq, hqi⟩ : ∃ q, q < l.length ∧ (q + i = k ∨ q + i = k + l.length) := by
            rcases Nat.lt_or_ge k i with x | x
            · exact ⟨k + l.length - i, by omega, by omega⟩
            · exact ⟨k - i, by omega, by omega⟩
          have f := d.free q hq (by omega) (by omega) (by omega) (by omega)
          have e1 : cor l (q + i) = cor l k := by
            rcases hqi with x | x
            · rw [x]
            · rw [x, cor_per]
          have e2 : cor l (q + 1 + i) = cor l (k + 1) := by
            rcases hqi with x | x
            · rw [show q + 1 + i = k + 1 by omega]
            · rw [show q + 1 + i = k + 1 + l.length by omega, cor_per]
          simp only [em, d0, e1, e2] at f
          exact touch_of_apart (apart_symm f)
theorem dbl_shift {l : List (Int × Int)} (hv : Valid l) (i : Nat) (x : Int × Int) : wsum (fun k => sc 2 (cor l (k + i))) l.length x = wsum (cor (dblL l)) (dblL l).length x := by
  have h3 := hv.lo
  have e : cor (dblL l) = fun i => sc 2 (cor l i) := funext fun i => cor_dbl (by omega) i
  rw [e, dbl_length]
  exact (hv.simple.scale (show (0 : Int) < 2 by decide)).wsum_shift i x
/-- What splitting means. -/
theorem split_parts {l : List (Int × Int)} (hv : Valid l) {i j : Nat} (hi : i < l.length) (hj : j < l.length) (h : splitB l i j = true) :
    ∃ m, 2 ≤ m ∧ m + 2 ≤ l.length ∧ (i + m = j ∨ i + m = j + l.length) ∧ Diag (fun k => cor l (k + i)) l.length m ∧ wsum (fun k => sc 2 (cor l (k + i))) l.length (mid2 (cor l (0 + i)) (cor l (m + i))) ≠ 0 := by
  simp only [splitB, Bool.and_eq_true, Bool.not_eq_true', beq_iff_eq] at h
  obtain ⟨h1, h2, h3⟩ := h
  obtain ⟨m, m2, m3, hm⟩ := split_index hi hj h1
  refine ⟨m, m2, m3, hm, diag_of_cut hv hi hj m2 m3 hm (anyN_none h2), ?_⟩
  rw [cor_far hm, Nat.zero_add, dbl_shift hv]
  intro e
  unfold sideF at h3
  split at h3
  · cases h3
  · rw [windK_wsum, show wsum (cor (dblL l)) (dblL l).length (midL l i j) = 0 from e, if_pos rfl] at h3; cases h3
theorem nextTo_no {n i j m : Nat} (hi : i < n) (hj : j < n) (h2 : 2 ≤ m) (h3 : m + 2 ≤ n) (hm : i + m = j ∨ i + m = j + n) : nextTo n i j = false := by
  simp only [nextTo, Bool.or_eq_false_iff, beq_eq_false_iff_ne]
  have e1 : ∀ k, k < n → (k + 1) % n = k + 1 ∧ k + 1 < n ∨ (k + 1) % n = 0 ∧ k + 1 = n := fun k hk => by
    rcases Nat.lt_or_ge (k + 1) n with x | x
    · exact .inl ⟨Nat.mod_eq_of_lt x, x⟩
    · have e : k + 1 = n := by omega
      exact .inr ⟨by rw [e, Nat.mod_self], e⟩
  have := e1 i hi; have := e1 j hj
  exact ⟨⟨by omega, by omega⟩, by omega⟩
theorem split_of_diag {l : List (Int × Int)} (hv : Valid l) {i j m : Nat} (hi : i < l.length) (hj : j < l.length) (h2 : 2 ≤ m) (h3 : m + 2 ≤ l.length) (hm : i + m = j ∨ i + m = j + l.length)
    (d : Diag (fun k => cor l (k + i)) l.length m) (hc : wsum (fun k => sc 2 (cor l (k + i))) l.length (mid2 (cor l (0 + i)) (cor l (m + i))) ≠ 0) : splitB l i j = true := by
  have hl := hv.lo
  simp only [splitB, Bool.and_eq_true, Bool.not_eq_true', beq_iff_eq]
  refine ⟨nextTo_no hi hj h2 h3 hm, anyN_false (cut_of_diag hv hi hj h2 h3 hm d), ?_⟩
  have hoff := d.mid_off (hv.simple.shift i)
  have hno : ∀ k, k < (dblL l).length → onB (cor (dblL l) k) (cor (dblL l) (k + 1)) (midL l i j) = false := fun k hk => by
    rw [dbl_length] at hk
    rw [cor_dbl (by omega), cor_dbl (by omega)]
    obtain ⟨q, hq, hqi⟩ : ∃ q, q < l.length ∧ (q + i = k ∨ q + i = k + l.length) := by
      rcases Nat.lt_or_ge k i with x | x
      · exact ⟨k + l.length - i, by omega, by omega⟩
      · exact ⟨k - i, by omega, by omega⟩
    have e1 : cor l (q + i) = cor l k := by
      rcases hqi with x | x
      · rw [x]
      · rw [x, cor_per]
    have e2 : cor l (q + 1 + i) = cor l (k + 1) := by
      rcases hqi with x | x
      · rw [show q + 1 + i = k + 1 by omega]
      · rw [show q + 1 + i = k + 1 + l.length by omega, cor_per]
    have := hoff q hq
    simp only [e1, e2, cor_far hm, Nat.zero_add] at this
    exact this
  rw [side_off (onAny_not hno), if_neg]
  rw [cor_far hm, Nat.zero_add, dbl_shift hv] at hc
  exact hc
/-- The line splits in either direction. -/
theorem split_symm {l : List (Int × Int)} (hv : Valid l) {i j : Nat} (hi : i < l.length) (hj : j < l.length) (h : splitB l i j = true) : splitB l j i = true := by
  obtain ⟨m, m2, m3, hm, d, hc⟩ := split_parts hv hi hj h
  have ds := d.swap (hv.simple.shift i)
  have e : (fun k => (fun k => cor l (k + i)) (k + m)) = fun k => cor l (k + j) := funext fun k => by
    show cor l (k + m + i) = cor l (k + j)
    rcases hm with x | x
    · rw [show k + m + i = k + j by omega]
    · rw [show k + m + i = k + j + l.length by omega, cor_per]
  rw [e] at ds
  refine split_of_diag hv (m := l.length - m) hj hi (by omega) (by omega) (by omega) ds ?_
  have e2 : cor l (l.length - m + j) = cor l i := by
    rcases hm with x | x
    · rw [show l.length - m + j = i + l.length by omega, cor_per]
    · rw [show l.length - m + j = i by omega]
  rw [dbl_shift hv] at hc ⊢
  rw [Nat.zero_add, cor_far hm, mid2_swap] at hc
  rw [Nat.zero_add, e2]
  exact hc
/-- Some corners split each plot of four corners or more. -/
theorem has_split {l : List (Int × Int)} (hv : Valid l) (h4 : 4 ≤ l.length) : ∃ i j, i < l.length ∧ j < i ∧ splitB l i j = true := by
  obtain ⟨s, m, d, hc⟩ := hv.simple.has_diag h4
  have lo := d.lo; have hi' := d.hi
  have hs : s % l.length < l.length := Nat.mod_lt _ (by omega)
  have e : (fun k => cor l (k + s)) = fun k => cor l (k + s % l.length) := funext fun k => by
    rw [Nat.add_comm k, Nat.add_comm k, cor_mod]
  have e0 : ∀ k, cor l (k + s) = cor l (k + s % l.length) := fun k => congrFun e k
  rw [e] at d
  simp only [e0] at hc
  obtain ⟨j, hj, hm⟩ : ∃ j, j < l.length ∧ (s % l.length + m = j ∨ s % l.length + m = j + l.length) := by
    rcases Nat.lt_or_ge (s % l.length + m) l.length with x | x
    · exact ⟨s % l.length + m, x, .inl rfl⟩
    · exact ⟨s % l.length + m - l.length, by omega, .inr (by omega)⟩
  have h := split_of_diag hv hs hj lo hi' hm d hc
  rcases Nat.lt_trichotomy j (s % l.length) with c | c | c
  · exact ⟨_, _, hs, c, h⟩
  · omega
  · exact ⟨_, _, hj, c, split_symm hv hs hj h⟩
end Go.Proofs.Ythiemglckmociaa
/- The two plots into which corners split a plot. No conditions. -/
namespace Go.Proofs.Ythiemglckmociaa
open Go.RowKit

/-- The corners from corner i on, m more of them. -/
def btw (l : List (Int × Int)) (i m : Nat) : List (Int × Int) := (List.range (m + 1)).map fun k => cor l (k + i)
theorem btw_length (l : List (Int × Int)) (i m : Nat) : (btw l i m).length = m + 1 := by simp [btw]
theorem cor_btw (l : List (Int × Int)) (i m : Nat) : cor (btw l i m) = part (fun k => cor l (k + i)) m := funext fun k => by
  have hm : k % (m + 1) < m + 1 := Nat.mod_lt _ (by omega)
  show gi (btw l i m) (0, 0) (k % (btw l i m).length) = cor l (k % (m + 1) + i)
  rw [btw_length, gi_lt (by rw [btw_length]; exact hm)]
  simp [btw]
/-- How many corners on corner j lies from corner i. -/
def farM (n i j : Nat) : Nat := if i ≤ j then j - i else j + n - i
theorem btw_valid {l : List (Int × Int)} (hv : Valid l) {i m : Nat} (h3 : m + 2 ≤ l.length) (h : Simple (part (fun k => cor l (k + i)) m) (m + 1)) : Valid (btw l i m) := by
  have hi := hv.hi
  refine Valid.of_simple (by rw [btw_length]; omega) (fun k => ?_) (by rw [cor_btw, btw_length]; exact h)
  rw [cor_btw]
  exact hv.rng _
theorem area_shift {l : List (Int × Int)} (i : Nat) : area (fun k => cor l (k + i)) l.length = area (cor l) l.length := by
  have := sumN_shift (f := fun k => (cor l k).1 * (cor l (k + 1)).2 - (cor l (k + 1)).1 * (cor l k).2) (n := l.length) (fun k => by simp only [cor_per, show k + l.length + 1 = k + 1 + l.length by omega]) i
  unfold area
  rw [← this]
  exact sumN_congr fun k _ => by simp only [show k + 1 + i = k + i + 1 by omega]
/-- What splitting gives. -/
theorem split_law {l : List (Int × Int)} (hv : Valid l) {i j : Nat} (hi : i < l.length) (hj : j < l.length) (h : splitB l i j = true) :
    2 ≤ farM l.length i j ∧ farM l.length i j + 2 ≤ l.length ∧ farM l.length j i = l.length - farM l.length i j ∧
    Valid (btw l i (farM l.length i j)) ∧ Valid (btw l j (farM l.length j i)) ∧
    twiceF (btw l i (farM l.length i j)) + twiceF (btw l j (farM l.length j i)) = twiceF l := by
  obtain ⟨m, m2, m3, hm, d, hc⟩ := split_parts hv hi hj h
  have e1 : farM l.length i j = m := by unfold farM; split <;> omega
  have e2 : farM l.length j i = l.length - m := by unfold farM; split <;> omega
  rw [e1, e2]
  have hs := hv.simple.shift i
  have e : (fun k => (fun k => cor l (k + i)) (k + m)) = fun k => cor l (k + j) := funext fun k => by
    show cor l (k + m + i) = cor l (k + j)
    rcases hm with x | x
    · rw [show k + m + i = k + j by omega]
    · rw [show k + m + i = k + j + l.length by omega, cor_per]
  have p1 := d.part hs
  have p2 := (d.swap hs).part (hs.shift m)
  rw [e] at p2
  have v1 := btw_valid hv m3 p1
  have v2 : Valid (btw l j (l.length - m)) := btw_valid hv (by omega) p2
  refine ⟨m2, m3, rfl, v1, v2, ?_⟩
  have ha := d.area_abs hs hc
  rw [e, area_shift] at ha
  unfold twiceF
  rw [if_pos (valid_iff.2 v1), if_pos (valid_iff.2 v2), if_pos (valid_iff.2 hv)]
  have a1 : areaK (btw l i m) (btw l i m).length = area (part (fun k => cor l (k + i)) m) (m + 1) := by rw [btw_length, ← cor_btw]; rfl
  have a2 : areaK (btw l j (l.length - m)) (btw l j (l.length - m)).length = area (part (fun k => cor l (k + j)) (l.length - m)) (l.length - m + 1) := by rw [btw_length, ← cor_btw]; rfl
  rw [a1, a2]
  exact ha.symm
end Go.Proofs.Ythiemglckmociaa
/- Which sides stand in the way of a line, as the program asks; a list twice as large. No conditions. -/
namespace Go.Proofs.Ythiemglckmociaa
open Go.RowKit

/-- Does a side stand in the way, as the program asks? -/
def progCut (pa pb pi pj : Int × Int) : Bool :=
  if ((pa.1, pa.2) == (pi.1, pi.2)) || ((pa.1, pa.2) == (pj.1, pj.2)) then onB pi pj pb || (onB pa pb pi && onB pa pb pj)
  else if ((pb.1, pb.2) == (pi.1, pi.2)) || ((pb.1, pb.2) == (pj.1, pj.2)) then onB pi pj pa || (onB pa pb pi && onB pa pb pj)
  else touchB pa pb pi pj
theorem on_self1 (a b : Int × Int) : onB a b a = true := by
  unfold onB turn dot; simp
theorem on_self2 (a b : Int × Int) : onB a b b = true := by
  unfold onB turn dot; simp; grind
theorem on_turned (a b x : Int × Int) : onB a b x = onB b a x := by
  have e1 : turn b a x = - turn a b x := by unfold turn; grind
  have e2 : dot x b a = dot x a b := by unfold dot; grind
  unfold onB
  rw [e1, e2]
  have : (-turn a b x == 0) = (turn a b x == 0) := by rw [Bool.eq_iff_iff]; simp
  rw [this]
theorem cut_prog {l : List (Int × Int)} (hv : Valid l) {i j k : Nat} (hi : i < l.length) (hj : j < l.length) (hn : nextTo l.length i j = false) (hk : k < l.length) :
    cutB l i j k = progCut (cor l k) (cor l (k + 1)) (cor l i) (cor l j) := by
  have hij : i ≠ j := by
    simp only [nextTo, Bool.or_eq_false_iff, beq_eq_false_iff_ne] at hn
    exact hn.1.1
  have h0 : 0 < l.length := by omega
  have hm : (k + 1) % l.length < l.length := Nat.mod_lt _ h0
  have eb : cor l (k + 1) = cor l ((k + 1) % l.length) := by have := cor_mod l (k + 1) 0; simpa using this.symm
  have inj : ∀ a b, a < l.length → b < l.length → a ≠ b → cor l a ≠ cor l b := fun a b ha hb hab e => hab (hv.simple.inj a b ha hb e)
  have hkk : k ≠ (k + 1) % l.length := by
    have := hv.lo
    rcases Nat.lt_or_ge (k + 1) l.length with c | c
    · rw [Nat.mod_eq_of_lt c]; omega
    · rw [show k + 1 = l.length by omega, Nat.mod_self]; omega
  have yes : ∀ a : Int × Int, ((a.1, a.2) == (a.1, a.2)) = true := fun a => by simp
  unfold cutB progCut
  by_cases c1 : k = i
  · rw [if_pos c1, c1, yes, Bool.true_or, if_pos rfl, on_self1, Bool.true_and]
    subst c1
    rw [back_iff (by rw [eb]; exact inj _ _ hk hm hkk) (inj _ _ hk hj hij), Bool.or_comm]
  · rw [if_neg c1, eq_no (inj k i hk hi c1)]
    by_cases c2 : k = j
    · rw [if_pos c2, c2, yes, Bool.false_or, if_pos rfl, on_self1, Bool.and_true]
      subst c2
      rw [back_iff (by rw [eb]; exact inj _ _ hk hm hkk) (inj _ _ hk hi c1), Bool.or_comm, on_turned (cor l k) (cor l i)]
    · rw [if_neg c2, eq_no (inj k j hk hj c2), Bool.or_false, if_neg (show ¬ ((false : Bool) = true) by decide)]
      by_cases c3 : (k + 1) % l.length = i
      · rw [if_pos c3, eb, c3, yes, Bool.true_or, if_pos rfl, on_self2, Bool.true_and]
        rw [back_iff (inj _ _ hi hk (fun e => c1 e.symm)) (inj _ _ hi hj hij), Bool.or_comm, on_turned (cor l k) (cor l i)]
      · rw [if_neg c3]
        have e3 : (((cor l (k + 1)).1, (cor l (k + 1)).2) == ((cor l i).1, (cor l i).2)) = false := by rw [eb]; exact eq_no (inj _ _ hm hi c3)
        rw [e3, Bool.false_or]
        by_cases c4 : (k + 1) % l.length = j
        · rw [if_pos c4, eb, c4, yes, if_pos rfl, on_self2, Bool.and_true]
          rw [back_iff (inj _ _ hj hk (fun e => c2 e.symm)) (inj _ _ hj hi (fun e => hij e.symm)), Bool.or_comm, on_turned (cor l k) (cor l j), on_turned (cor l i) (cor l j)]
        · rw [if_neg c4]
          have e4 : (((cor l (k + 1)).1, (cor l (k + 1)).2) == ((cor l j).1, (cor l j).2)) = false := by rw [eb]; exact eq_no (inj _ _ hm hj c4)
          rw [e4, if_neg (show ¬ ((false : Bool) = true) by decide)]
theorem where_simple {l : List (Int × Int)} (h : Simple (cor l) l.length) (x : Int × Int) : whereP l x = sideF l x := by
  unfold whereP sideF
  cases ho : onAny l x
  · simp only [Bool.false_eq_true, if_false]
    have h1 := h.around (onAny_none ho)
    have h2 := h.lam01
    have h3 := inK_par l x l.length
    rw [windK_wsum] at h3 ⊢
    by_cases h4 : wsum (cor l) l.length x = 0
    · rw [if_pos h4]; omega
    · rw [if_neg h4]; omega
  · rfl
/-- Ten places, the first k of them the corners twice as large. -/
def dbK (l : List (Int × Int)) (k : Nat) : List (Int × Int) := (List.range 10).map fun m => if m < k then sc 2 (gi l (0, 0) m) else (0, 0)
theorem dbK_length (l : List (Int × Int)) (k : Nat) : (dbK l k).length = 10 := by simp [dbK]
theorem dbK_succ (l : List (Int × Int)) (k : Nat) : dbK l (k + 1) = (dbK l k).set k (sc 2 (gi l (0, 0) k)) := by
  refine List.ext_getElem (by simp [dbK]) fun m h1 h2 => ?_
  rw [List.getElem_set]
  simp only [dbK, List.getElem_map, List.getElem_range]
  by_cases c : k = m
  · rw [if_pos c, if_pos (by omega), c]
  · rw [if_neg c]
    by_cases c2 : m < k
    · rw [if_pos c2, if_pos (by omega)]
    · rw [if_neg c2, if_neg (by omega)]
theorem dbK_all (l : List (Int × Int)) (h : l.length ≤ 10) : (dbK l l.length).take l.length = dblL l := by
  refine List.ext_getElem (by simp [dbK, dblL]; omega) fun m h1 h2 => ?_
  have hm : m < l.length := by rw [dbl_length] at h2; exact h2
  simp [dbK, dblL, hm, gi_lt (l := l) (d := (0, 0)) hm]
theorem splitB_no {l : List (Int × Int)} {i j : Nat} (h : nextTo l.length i j = true) : splitB l i j = false := by unfold splitB; rw [h]; rfl
theorem splitB_cut {l : List (Int × Int)} {i j : Nat} (h : anyN (cutB l i j) l.length = true) : splitB l i j = false := by unfold splitB; rw [h]; simp
theorem splitB_mid {l : List (Int × Int)} {i j : Nat} (hn : nextTo l.length i j = false) (h : anyN (cutB l i j) l.length = false) : splitB l i j = (sideF (dblL l) (midL l i j) == 1) := by unfold splitB; rw [hn, h]; rfl
theorem dbl_bd {l : List (Int × Int)} (hv : Valid l) (k : Nat) : bdP (cor (dblL l) k) := by
  have h3 := hv.lo
  rw [cor_dbl (by omega)]
  have := hv.rng k
  unfold bdP sc; simp only; omega
theorem mid_bd {l : List (Int × Int)} (hv : Valid l) (i j : Nat) : bdP (midL l i j) := by
  have h1 := hv.rng i
  have h2 := hv.rng j
  unfold bdP midL mid2; simp only; omega
end Go.Proofs.Ythiemglckmociaa
