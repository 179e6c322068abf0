/- An office as plain data: its orders one by one, and what is always so of it. Plain. No conditions. -/
import Derived.Test.YthooacpfmjpdmaaGreatDoorODoS
import Derived.Test.YthooacpfmjpdmaaGreatDoorOBook
namespace Go.Proofs.YthooacpfmjpdmaaGreatDoor
open Go.RowKit

/-- A calendar, a state, and the orders that were done. -/
structure Off where
  c : Cal
  s : St
  os : List ByteArray
/-- A new office. -/
def newO (n : Nat) (c : Cal) : Off := ⟨c, ⟨0, List.replicate n 0, List.replicate n 0, 0, false, 0, false, List.replicate n false, false⟩, []⟩
/-- The error of an order. -/
def stepE (x : Off) (o : ByteArray) : Int := match parseF o with | none => 2 | some (t, l) => if x.os.length = 80 then 3 else doE x.c x.s t l
/-- The state behind an order that is done. -/
def stepS (x : Off) (o : ByteArray) : St := match parseF o with | none => x.s | some (t, l) => doS x.c x.s t l
def stepO (x : Off) (o : ByteArray) : Off := if stepE x o = 0 then ⟨x.c, stepS x o, x.os ++ [o]⟩ else x
/-- All orders are done. -/
def runs : Off → List ByteArray → Option Off
  | x, [] => some x
  | x, o :: l => if stepE x o = 0 then runs (stepO x o) l else none
theorem runs_append (l m : List ByteArray) : ∀ x, runs x (l ++ m) = (runs x l).bind fun y => runs y m := by
  induction l with
  | nil => intro x; rfl
  | cons o l ih =>
    intro x
    simp only [List.cons_append, runs]
    split
    · exact ih _
    · rfl
/-- The office is what its orders make of a new one. -/
structure Made (n : Nat) (x : Off) : Prop where
  n1 : 1 ≤ n
  n8 : n ≤ 8
  cal : validF x.c = 0
  run : runs (newO n x.c) x.os = some x
theorem stepO_ok {x : Off} {o : ByteArray} (h : stepE x o = 0) : stepO x o = ⟨x.c, stepS x o, x.os ++ [o]⟩ := if_pos h
theorem stepO_no {x : Off} {o : ByteArray} (h : stepE x o ≠ 0) : stepO x o = x := if_neg h
theorem stepO_c (x : Off) (o : ByteArray) : (stepO x o).c = x.c := by unfold stepO; split <;> rfl
theorem Made.new {n : Nat} {c : Cal} (h1 : 1 ≤ n) (h8 : n ≤ 8) (hc : validF c = 0) : Made n (newO n c) := ⟨h1, h8, hc, rfl⟩
theorem Made.step {n : Nat} {x : Off} (h : Made n x) (o : ByteArray) : Made n (stepO x o) := by
  by_cases he : stepE x o = 0
  · refine ⟨h.n1, h.n8, by rw [stepO_c]; exact h.cal, ?_⟩
    rw [stepO_c, stepO_ok he]
    show runs _ (x.os ++ [o]) = _
    rw [runs_append, h.run]
    simp only [Option.bind_some, runs]
    rw [if_pos he, stepO_ok he]
  · rw [stepO_no he]; exact h

theorem formsF_cases {y : List UInt8} {f : Frm} (h : formsF y = some f) : f = (0, 1, 0) ∨ f = (1, 2, 1) ∨ f = (2, 1, 0) ∨ f = (3, 2, 1) ∨ f = (4, 1, 0) ∨ f = (5, 1, 1) ∨ f = (6, 3, 2) ∨ f = (7, 1, 1) ∨ f = (8, 0, 0) := by
  unfold formsF at h
  repeat' (split at h)
  all_goals first | (injection h with h; subst h; decide) | cases h
theorem numF_range {y : ByteArray} {v : Int} (h : numF y = some v) : 0 ≤ v ∧ v ≤ 9999 := by
  unfold numF at h
  split at h
  · split at h
    · rename_i hh
      injection h with h; subst h
      exact hh.1
    · cases h
  · cases h
theorem numsF_range : ∀ {l : List ByteArray} {r : List Int}, numsF l = some r → r.length = l.length ∧ ∀ v ∈ r, 0 ≤ v ∧ v ≤ 9999
  | [], r, h => by injection h with h; subst h; exact ⟨rfl, fun v hv => by cases hv⟩
  | y :: l, r, h => by
    unfold numsF at h
    split at h
    · rename_i v r' h1 h2
      injection h with h; subst h
      obtain ⟨e, hr⟩ := numsF_range h2
      refine ⟨by simp [e], fun u hu => ?_⟩
      rcases List.mem_cons.1 hu with rfl | hu
      · exact numF_range h1
      · exact hr u hu
    · cases h
/-- What a text is that parses. -/
theorem parseF_facts {o : ByteArray} {t : Frm} {l : List Int} (h : parseF o = some (t, l)) :
    1 ≤ o.size ∧ o.size ≤ 30 ∧ (t = (0, 1, 0) ∨ t = (1, 2, 1) ∨ t = (2, 1, 0) ∨ t = (3, 2, 1) ∨ t = (4, 1, 0) ∨ t = (5, 1, 1) ∨ t = (6, 3, 2) ∨ t = (7, 1, 1) ∨ t = (8, 0, 0)) ∧
    (l.length : Int) = t.2.1 ∧ (∀ v ∈ l, 0 ≤ v ∧ v ≤ 9999) ∧ formsF (gi (wordsF o) default 0).data.toList = some t ∧ numsF (wordsF o).tail = some l := by
  unfold parseF at h
  split at h
  · rename_i hs
    split at h
    · rename_i f hf
      split at h
      · rename_i hl
        cases hn : numsF (wordsF o).tail with
        | none => rw [hn] at h; cases h
        | some r =>
          rw [hn] at h
          simp only [Option.map_some, Option.some.injEq, Prod.mk.injEq] at h
          obtain ⟨rfl, rfl⟩ := h
          obtain ⟨e, hr⟩ := numsF_range hn
          refine ⟨hs.1, hs.2, formsF_cases hf, ?_, hr, hf, rfl⟩
          rw [e, List.length_tail]
          have := words_pos o
          omega
      · cases h
    · cases h
  · cases h
/-- The numbers of an order as a list of known length. -/
theorem len1 {l : List Int} (h : l.length = 1) : ∃ a, l = [a] := by
  match l, h with
  | [a], _ => exact ⟨a, rfl⟩
theorem len2 {l : List Int} (h : l.length = 2) : ∃ a b, l = [a, b] := by
  match l, h with
  | [a, b], _ => exact ⟨a, b, rfl⟩
theorem len3 {l : List Int} (h : l.length = 3) : ∃ a b c, l = [a, b, c] := by
  match l, h with
  | [a, b, c], _ => exact ⟨a, b, c, rfl⟩

theorem sumI_set : ∀ {l : List Int} {i : Nat} (x : Int), i < l.length → sumI (l.set i x) = sumI l - gi l 0 i + x
  | [], i, x, h => by simp at h
  | y :: l, 0, x, _ => by simp [sumI, gi]; omega
  | y :: l, i + 1, x, h => by
    have := sumI_set (l := l) (i := i) x (by simpa using h)
    simp only [List.set_cons_succ, sumI, this]
    have e : gi (y :: l) 0 (i + 1) = gi l 0 i := by simp [gi]
    rw [e]; omega
theorem sumI_rep (n : Nat) : sumI (List.replicate n 0) = 0 := by
  induction n with
  | zero => rfl
  | succ n ih => simp only [List.replicate_succ, sumI, ih]; rfl
theorem mem_set {α : Type} {l : List α} {i : Nat} {x y : α} (h : y ∈ l.set i x) : y ∈ l ∨ y = x := List.mem_or_eq_of_mem_set h
theorem whenE_0 {b : Bool} {e : Int} (he : e ≠ 0) : whenE b e = 0 ↔ b = false := by unfold whenE; cases b <;> simp [he]
theorem orFrom_all : ∀ (l : List Int), orFrom l 0 = 0 ↔ ∀ x ∈ l, x = 0 := by
  have key : ∀ (m k : Nat) (l : List Int), l.length - k = m → (orFrom l k = 0 ↔ ∀ i, k ≤ i → i < l.length → gi l 0 i = 0) := by
    intro m
    induction m with
    | zero =>
      intro k l h
      rw [orFrom_end (by omega)]
      exact ⟨fun _ i h1 h2 => by omega, fun _ => rfl⟩
    | succ m ih =>
      intro k l h
      have hk : k < l.length := by omega
      by_cases hz : gi l 0 k = 0
      · rw [orFrom_no hk (by simp [hz]), ih (k + 1) l (by omega)]
        refine ⟨fun H i h1 h2 => ?_, fun H i h1 h2 => H i (by omega) h2⟩
        rcases Nat.eq_or_lt_of_le h1 with rfl | h1
        · exact hz
        · exact H i h1 h2
      · rw [orFrom_yes hk (by simp [hz])]
        exact ⟨fun h => absurd h hz, fun H => absurd (H k (Nat.le_refl _) hk) hz⟩
  intro l
  rw [key _ 0 l rfl]
  refine ⟨fun H x hx => ?_, fun H i _ hi => ?_⟩
  · obtain ⟨i, hi, rfl⟩ := List.mem_iff_getElem.1 hx
    have := H i (Nat.zero_le _) hi
    rwa [gi_lt hi] at this
  · rw [gi_lt hi]; exact H _ (List.getElem_mem hi)

/-- The lengths of a state's lists. -/
structure Long3 (n : Nat) (s : St) : Prop where
  l1 : s.strips.length = n
  l2 : s.laid.length = n
  l3 : s.opn.length = n
theorem good_new {n : Nat} (c : Cal) : Good (newO n c).s where
  day0 := by show (0 : Int) ≤ 0; decide
  day1 := by show (0 : Int) ≤ 10000; decide
  str := fun x hx => by have := List.eq_of_mem_replicate hx; omega
  part0 := by show (0 : Int) ≤ 0; decide
  part1 := by show (0 : Int) ≤ 100; decide
  laid0 := fun x hx => by have := List.eq_of_mem_replicate hx; omega
  sum := by show sumI (List.replicate n 0) ≤ sumI []; rw [sumI_rep]; decide
  hsum := fun h => by cases h
  hfix := fun h => by cases h
  none := fun _ => ⟨fun x hx => List.eq_of_mem_replicate hx, rfl⟩
  stop0 := by show (0 : Int) ≤ 0; decide
  stop1 := by show (0 : Int) ≤ 1000000; decide
theorem long_new (n : Nat) (c : Cal) : Long3 n (newO n c).s := ⟨List.length_replicate .., List.length_replicate .., List.length_replicate ..⟩
theorem clm_unfixed {s : St} (h : s.fixed = false) : clmF s = [] := by unfold clmF; rw [h]; rfl
theorem ded_nonneg {l : List Int} {p : Int} (h : ∀ x ∈ l, 0 ≤ x ∧ x ≤ 1000) (h4 : p ≤ 100) : ∀ x ∈ dedF l p, 0 ≤ x := by
  intro x hx
  unfold dedF at hx
  obtain ⟨y, hy, rfl⟩ := List.mem_map.1 hx
  have h1 := h y hy
  have : y * p ≤ y * 100 := Int.mul_le_mul_of_nonneg_left h4 h1.1
  omega
theorem endsR_range {c : Cal} {d n : Int} (h0 : 0 ≤ d) (h1 : d ≤ 10000) (h2 : 0 ≤ n) (h3 : n ≤ 400) : 0 ≤ endsR c d n ∧ endsR c d n ≤ 1000000 := by
  unfold endsR
  split
  · rename_i h
    have hv := (asked_term h).1
    have h4 := endsF_le hv (day := d) (days := n) h0 h2 (by omega)
    have h5 := (endsF_first hv (day := d) (days := n) h0 h2 (by omega)).1
    omega
  · omega
theorem gi_mem' {l : List Int} {d : Int} {i : Nat} (h : i < l.length) : gi l d i ∈ l := by simp [gi, h]
theorem sumI_nonneg' {l : List Int} (h : ∀ x ∈ l, 0 ≤ x) : 0 ≤ sumI l := by
  induction l with
  | nil => simp [sumI]
  | cons x l ih => have := h x (List.mem_cons_self ..); have := ih (fun y hy => h y (List.mem_cons_of_mem _ hy)); simp only [sumI]; omega
theorem gi_set_ne {α : Type} {l : List α} {d x : α} {i j : Nat} (h : i ≠ j) : gi (l.set i x) d j = gi l d j := by simp [gi, h]
theorem err2 {a b : Int} (h : orFrom [a, b] 0 = 0) : a = 0 ∧ b = 0 := by
  have := (orFrom_all _).1 h
  exact ⟨this a (by simp), this b (by simp)⟩
theorem err3 {a b c : Int} (h : orFrom [a, b, c] 0 = 0) : a = 0 ∧ b = 0 ∧ c = 0 := by
  have := (orFrom_all _).1 h
  exact ⟨this a (by simp), this b (by simp), this c (by simp)⟩
theorem err4 {a b c d : Int} (h : orFrom [a, b, c, d] 0 = 0) : a = 0 ∧ b = 0 ∧ c = 0 ∧ d = 0 := by
  have := (orFrom_all _).1 h
  exact ⟨this a (by simp), this b (by simp), this c (by simp), this d (by simp)⟩
theorem w0 {b : Bool} {e : Int} (h : whenE b e = 0) (he : e ≠ 0) : b = false := (whenE_0 he).1 h
section kinds
variable {n : Nat} {c : Cal} {s : St} (hg : Good s) (hl : Long3 n s)
include hg hl
theorem good_day {a : Int} (ha : 0 ≤ a) (he : kindE c s 0 [a] = 0) : Good (kindS c s 0 [a]) ∧ Long3 n (kindS c s 0 [a]) := by
  have he : orFrom [whenE (a == 0) 1, whenE (decide (10000 < s.day + a)) 3] 0 = 0 := he
  show Good { s with day := s.day + a } ∧ Long3 n { s with day := s.day + a }
  have e2 := w0 (err2 he).2 (by decide)
  have e2 : ¬ 10000 < s.day + a := of_decide_eq_false e2
  have hd := hg.day0
  exact ⟨{ hg with day0 := by show 0 ≤ s.day + a; omega, day1 := by show s.day + a ≤ 10000; omega }, ⟨hl.l1, hl.l2, hl.l3⟩⟩
theorem good_strip {a b : Int} (ha : 0 ≤ a) (han : a < n) (hb : 0 ≤ b) (he : kindE c s 1 [a, b] = 0) : Good (kindS c s 1 [a, b]) ∧ Long3 n (kindS c s 1 [a, b]) := by
  have he : orFrom [whenE (b == 0) 1, whenE s.fixed 10, whenE (decide (1000 < gi s.strips 0 a.toNat + b)) 3] 0 = 0 := he
  obtain ⟨-, e1, e2⟩ := err3 he
  have e1 := w0 e1 (by decide)
  have e2 : ¬ 1000 < gi s.strips 0 a.toNat + b := of_decide_eq_false (w0 e2 (by decide))
  have hi : a.toNat < s.strips.length := by rw [hl.l1]; omega
  have hv := hg.str _ (gi_mem' (d := 0) hi)
  have hc : clmF { s with strips := s.strips.set a.toNat (gi s.strips 0 a.toNat + b) } = clmF s := by rw [clm_unfixed e1, clm_unfixed (by exact e1)]
  show Good { s with strips := s.strips.set a.toNat (gi s.strips 0 a.toNat + b) } ∧ Long3 n { s with strips := s.strips.set a.toNat (gi s.strips 0 a.toNat + b) }
  refine ⟨{ hg with str := fun x hx => ?_, sum := ?_, hsum := fun h => ?_ }, ⟨by show (List.set _ _ _).length = n; rw [List.length_set]; exact hl.l1, hl.l2, hl.l3⟩⟩
  · rcases mem_set hx with h | rfl
    · exact hg.str x h
    · omega
  · rw [hc]; exact hg.sum
  · rw [hc]; exact hg.hsum h
theorem good_deduct {a : Int} (ha : 0 ≤ a) (he : kindE c s 2 [a] = 0) : Good (kindS c s 2 [a]) ∧ Long3 n (kindS c s 2 [a]) := by
  have he : orFrom [whenE (decide (100 < a)) 1, whenE s.fixed 6] 0 = 0 := he
  obtain ⟨e0, e1⟩ := err2 he
  have e1 := w0 e1 (by decide)
  have e0 : ¬ 100 < a := of_decide_eq_false (w0 e0 (by decide))
  have h0 := hg.sum
  rw [clm_unfixed e1] at h0
  have hh : s.heard = false := by
    cases h : s.heard
    · rfl
    · have := hg.hfix h; rw [e1] at this; cases this
  show Good { s with part := a, fixed := true } ∧ Long3 n { s with part := a, fixed := true }
  refine ⟨{ hg with part0 := ha, part1 := by show a ≤ 100; omega, sum := ?_, hsum := fun h => ?_, hfix := fun _ => rfl }, ⟨hl.l1, hl.l2, hl.l3⟩⟩
  · have := sumI_nonneg' (ded_nonneg hg.str (p := a) (by omega))
    show sumI s.laid ≤ sumI (dedF s.strips a)
    have h1 : sumI ([] : List Int) = 0 := rfl
    omega
  · have h : s.heard = true := h
    rw [hh] at h; cases h
theorem good_lay {a b : Int} (ha : 0 ≤ a) (han : a < n) (hb : 0 ≤ b) (he : kindE c s 3 [a, b] = 0) : Good (kindS c s 3 [a, b]) ∧ Long3 n (kindS c s 3 [a, b]) := by
  have he : orFrom [whenE (b == 0) 1, whenE (!s.fixed || s.heard) 10, whenE (decide (sumI (clmF s) < sumI s.laid + b)) 3] 0 = 0 := he
  obtain ⟨-, e1, e2⟩ := err3 he
  have e1 := w0 e1 (by decide)
  have e2 : ¬ sumI (clmF s) < sumI s.laid + b := of_decide_eq_false (w0 e2 (by decide))
  have hh : s.heard = false := by cases h : s.heard <;> simp_all
  have hi : a.toNat < s.laid.length := by rw [hl.l2]; omega
  have hv := hg.laid0 _ (gi_mem' (d := 0) hi)
  show Good { s with laid := s.laid.set a.toNat (gi s.laid 0 a.toNat + b) } ∧ Long3 n { s with laid := s.laid.set a.toNat (gi s.laid 0 a.toNat + b) }
  refine ⟨{ hg with laid0 := fun x hx => ?_, sum := ?_, hsum := fun h => ?_ }, ⟨hl.l1, by show (List.set _ _ _).length = n; rw [List.length_set]; exact hl.l2, hl.l3⟩⟩
  · rcases mem_set hx with h | rfl
    · exact hg.laid0 x h
    · omega
  · show sumI (s.laid.set a.toNat (gi s.laid 0 a.toNat + b)) ≤ sumI (clmF s)
    rw [sumI_set _ hi]; omega
  · have h : s.heard = true := h
    rw [hh] at h; cases h
theorem good_hear {a : Int} (ha : 0 ≤ a) (he : kindE c s 4 [a] = 0) : Good (kindS c s 4 [a]) ∧ Long3 n (kindS c s 4 [a]) := by
  have he : (if orFrom [whenE (decide (400 < a)) 1, whenE (!s.fixed) 10, whenE s.heard 6, whenE (sumI s.laid != sumI (clmF s)) 8] 0 = 0 then askedF c [s.day] [a]
    else orFrom [whenE (decide (400 < a)) 1, whenE (!s.fixed) 10, whenE s.heard 6, whenE (sumI s.laid != sumI (clmF s)) 8] 0) = 0 := he
  split at he
  · rename_i h0
    obtain ⟨e0, e1, e2, e3⟩ := err4 h0
    have e0 : ¬ 400 < a := of_decide_eq_false (w0 e0 (by decide))
    have e1 := w0 e1 (by decide)
    have e3 := w0 e3 (by decide)
    have e2 := w0 e2 (by decide)
    have hs : sumI s.laid = sumI (clmF s) := by simpa using e3
    have hf : s.fixed = true := by simpa using e1
    have hr := endsR_range (c := c) hg.day0 hg.day1 ha (n := a) (by omega)
    show Good { s with stop := endsR c s.day a, heard := true } ∧ Long3 n { s with stop := endsR c s.day a, heard := true }
    exact ⟨{ hg with hsum := fun _ => hs, hfix := fun _ => hf, none := (fun h => by cases h), stop0 := hr.1, stop1 := hr.2 }, ⟨hl.l1, hl.l2, hl.l3⟩⟩
  · rename_i h0
    exact absurd he h0
theorem good_object {a : Int} (he : kindE c s 5 [a] = 0) : Good (kindS c s 5 [a]) ∧ Long3 n (kindS c s 5 [a]) := by
  have he : orFrom [whenE (!s.heard) 10, whenE (decide (s.stop < s.day)) 8, whenE (gi s.opn false a.toNat) 6] 0 = 0 := he
  have e0 := w0 (err3 he).1 (by decide)
  show Good { s with opn := s.opn.set a.toNat true } ∧ Long3 n { s with opn := s.opn.set a.toNat true }
  refine ⟨{ hg with none := fun h => ?_ }, ⟨hl.l1, hl.l2, by show (List.set _ _ _).length = n; rw [List.length_set]; exact hl.l3⟩⟩
  have h : s.heard = false := h
  rw [h] at e0; cases e0
omit hl in
theorem opn_heard {i : Nat} (hi : i < s.opn.length) (h : gi s.opn false i = true) : s.heard = true := by
  cases hh : s.heard
  · have := (hg.none hh).1 (gi s.opn false i) (by rw [gi_lt hi]; exact List.getElem_mem hi)
    rw [h] at this; cases this
  · rfl
theorem good_move {a b v : Int} (ha : 0 ≤ a) (han : a < n) (hb : 0 ≤ b) (hbn : b < n) (hv : 0 ≤ v) (he : kindE c s 6 [a, b, v] = 0) : Good (kindS c s 6 [a, b, v]) ∧ Long3 n (kindS c s 6 [a, b, v]) := by
  have he : orFrom [whenE (v == 0 || a == b) 1, whenE (!(gi s.opn false a.toNat)) 10, whenE (decide (gi s.laid 0 b.toNat < v)) 8] 0 = 0 := he
  obtain ⟨e0, e1, e2⟩ := err3 he
  have e0 := w0 e0 (by decide)
  have e1 := w0 e1 (by decide)
  have e2 : ¬ gi s.laid 0 b.toNat < v := of_decide_eq_false (w0 e2 (by decide))
  have e1 : gi s.opn false a.toNat = true := by simpa using e1
  have hab : a ≠ b := by intro h; rw [h] at e0; simp at e0
  have hne : b.toNat ≠ a.toNat := by omega
  have hh := opn_heard hg (i := a.toNat) (by rw [hl.l3]; omega) e1
  have hi : a.toNat < s.laid.length := by rw [hl.l2]; omega
  have hj : b.toNat < s.laid.length := by rw [hl.l2]; omega
  have hw := hg.laid0 _ (gi_mem' (d := 0) hi)
  show Good { s with laid := (s.laid.set b.toNat (gi s.laid 0 b.toNat - v)).set a.toNat (gi (s.laid.set b.toNat (gi s.laid 0 b.toNat - v)) 0 a.toNat + v), opn := s.opn.set a.toNat false } ∧ Long3 n { s with laid := (s.laid.set b.toNat (gi s.laid 0 b.toNat - v)).set a.toNat (gi (s.laid.set b.toNat (gi s.laid 0 b.toNat - v)) 0 a.toNat + v), opn := s.opn.set a.toNat false }
  rw [gi_set_ne hne]
  have hsum : sumI ((s.laid.set b.toNat (gi s.laid 0 b.toNat - v)).set a.toNat (gi s.laid 0 a.toNat + v)) = sumI s.laid := by
    rw [sumI_set _ (by rw [List.length_set]; exact hi), gi_set_ne hne, sumI_set _ hj]; omega
  refine ⟨{ hg with laid0 := fun x hx => ?_, sum := ?_, hsum := fun h => ?_, none := fun h => ?_ }, ⟨hl.l1, by show (List.set _ _ _).length = n; rw [List.length_set, List.length_set]; exact hl.l2, by show (List.set _ _ _).length = n; rw [List.length_set]; exact hl.l3⟩⟩
  · rcases mem_set hx with h | rfl
    · rcases mem_set h with h | rfl
      · exact hg.laid0 x h
      · omega
    · omega
  · exact hsum ▸ hg.sum
  · exact hsum.trans (hg.hsum h)
  · have h : s.heard = false := h
    rw [hh] at h; cases h
theorem good_reject {a : Int} (ha : 0 ≤ a) (han : a < n) (he : kindE c s 7 [a] = 0) : Good (kindS c s 7 [a]) ∧ Long3 n (kindS c s 7 [a]) := by
  have he : whenE (!(gi s.opn false a.toNat)) 10 = 0 := he
  have e1 := w0 he (by decide)
  have e1 : gi s.opn false a.toNat = true := by simpa using e1
  have hh := opn_heard hg (i := a.toNat) (by rw [hl.l3]; omega) e1
  show Good { s with opn := s.opn.set a.toNat false } ∧ Long3 n { s with opn := s.opn.set a.toNat false }
  refine ⟨{ hg with none := fun h => ?_ }, ⟨hl.l1, hl.l2, by show (List.set _ _ _).length = n; rw [List.length_set]; exact hl.l3⟩⟩
  have h : s.heard = false := h
  rw [hh] at h; cases h
theorem good_enter (he : kindE c s 8 [] = 0) : Good (kindS c s 8 []) ∧ Long3 n (kindS c s 8 []) := by
  have he : (if orFrom [whenE (!s.heard || decide (s.day ≤ s.stop)) 10, whenE s.ent 6] 0 = 0 then whenE (offB s) 8
    else orFrom [whenE (!s.heard || decide (s.day ≤ s.stop)) 10, whenE s.ent 6] 0) = 0 := he
  split at he
  · rename_i h0
    have e0 := w0 (err2 h0).1 (by decide)
    have hh : s.heard = true := by cases h : s.heard <;> simp_all
    show Good { s with ent := true } ∧ Long3 n { s with ent := true }
    refine ⟨{ hg with none := fun h => ?_ }, ⟨hl.l1, hl.l2, hl.l3⟩⟩
    have h : s.heard = false := h
    rw [hh] at h; cases h
  · rename_i h0
    exact absurd he h0
end kinds
/-- An order that is done keeps what is always so. -/
theorem good_step {n : Nat} {x : Off} {o : ByteArray} (hg : Good x.s) (hl : Long3 n x.s) (he : stepE x o = 0) : Good (stepS x o) ∧ Long3 n (stepS x o) := by
  unfold stepE at he
  unfold stepS
  cases hp : parseF o with
  | none => rw [hp] at he; cases he
  | some p =>
    obtain ⟨t, l⟩ := p
    rw [hp] at he
    simp only [] at he ⊢
    split at he
    · cases he
    · unfold doE at he
      split at he
      · cases he
      · rename_i hown
        obtain ⟨-, -, ht, hn, hr, -⟩ := parseF_facts hp
        rw [hl.l1] at hown
        unfold doS
        rcases ht with rfl | rfl | rfl | rfl | rfl | rfl | rfl | rfl | rfl
        · obtain ⟨a, rfl⟩ := len1 (l := l) (by have : (l.length : Int) = 1 := hn; omega)
          exact good_day hg hl (hr a (by simp)).1 he
        · obtain ⟨a, b, rfl⟩ := len2 (l := l) (by have : (l.length : Int) = 2 := hn; omega)
          exact good_strip hg hl (hr a (by simp)).1 (by simpa using hown) (hr b (by simp)).1 he
        · obtain ⟨a, rfl⟩ := len1 (l := l) (by have : (l.length : Int) = 1 := hn; omega)
          exact good_deduct hg hl (hr a (by simp)).1 he
        · obtain ⟨a, b, rfl⟩ := len2 (l := l) (by have : (l.length : Int) = 2 := hn; omega)
          exact good_lay hg hl (hr a (by simp)).1 (by simpa using hown) (hr b (by simp)).1 he
        · obtain ⟨a, rfl⟩ := len1 (l := l) (by have : (l.length : Int) = 1 := hn; omega)
          exact good_hear hg hl (hr a (by simp)).1 he
        · obtain ⟨a, rfl⟩ := len1 (l := l) (by have : (l.length : Int) = 1 := hn; omega)
          exact good_object hg hl he
        · obtain ⟨a, b, v, rfl⟩ := len3 (l := l) (by have : (l.length : Int) = 3 := hn; omega)
          have h2 : a < n ∧ b < n := by simpa using hown
          exact good_move hg hl (hr a (by simp)).1 h2.1 (hr b (by simp)).1 h2.2 (hr v (by simp)).1 he
        · obtain ⟨a, rfl⟩ := len1 (l := l) (by have : (l.length : Int) = 1 := hn; omega)
          exact good_reject hg hl (hr a (by simp)).1 (by simpa using hown) he
        · obtain rfl : l = [] := List.eq_nil_of_length_eq_zero (by have : (l.length : Int) = 0 := hn; omega)
          exact good_enter hg hl he
theorem runs_good {n : Nat} : ∀ (l : List ByteArray) (x y : Off), Good x.s → Long3 n x.s → runs x l = some y → Good y.s ∧ Long3 n y.s ∧ y.c = x.c ∧ y.os = x.os ++ l := by
  intro l
  induction l with
  | nil => intro x y hg hl h; injection h with h; subst h; exact ⟨hg, hl, rfl, by simp⟩
  | cons o l ih =>
    intro x y hg hl h
    unfold runs at h
    split at h
    · rename_i he
      have hs := good_step hg hl he
      have := ih (stepO x o) y (by rw [stepO_ok he]; exact hs.1) (by rw [stepO_ok he]; exact hs.2) h
      rw [stepO_ok he] at this
      exact ⟨this.1, this.2.1, this.2.2.1, by rw [this.2.2.2]; simp⟩
    · cases h
theorem Made.good {n : Nat} {x : Off} (h : Made n x) : Good x.s := (runs_good x.os (newO n x.c) x (good_new _) (long_new n _) h.run).1
theorem Made.long {n : Nat} {x : Off} (h : Made n x) : Long3 n x.s := (runs_good x.os (newO n x.c) x (good_new _) (long_new n _) h.run).2.1
/-- The orders of an office may stand in minutes. -/
theorem join_no {c d : UInt8} (hcd : c ≠ d) : ∀ (k : Nat) (s : List UInt8), (∀ x ∈ Lib.splitK [d] 0 k s, c ∉ x) → c ∉ s := by
  intro k
  induction k with
  | zero => intro s h; exact h s (by simp [Lib.splitK])
  | succ k ih =>
    intro s h
    rcases part_at d s with hn | ⟨a, b, rfl, hn⟩
    · refine h s ?_
      unfold Lib.splitK
      rw [index_no hn, if_pos (by decide)]
      exact List.mem_singleton.2 rfl
    · have hd : (a ++ d :: b).drop (a.length + 1) = b := by rw [List.drop_append]; simp
      unfold Lib.splitK at h
      rw [index_yes hn, if_neg (by simp)] at h
      simp only [Int.toNat_natCast, List.length_cons, List.length_nil, Nat.zero_add, Nat.add_zero] at h
      rw [hd] at h
      have h1 := h _ (List.mem_cons_self ..)
      rw [List.take_left'] at h1
      · have h2 := ih b (fun x hx => h x (List.mem_cons_of_mem _ hx))
        intro hm
        rcases List.mem_append.1 hm with hm | hm
        · exact h1 hm
        · rcases List.mem_cons.1 hm with hm | hm
          · exact hcd hm
          · exact h2 hm
      · rfl
theorem numF_no {y : ByteArray} {v : Int} (h : numF y = some v) : (10 : UInt8) ∉ y.data.toList := by
  have hr := numF_range h
  unfold numF at h
  split at h
  · split at h
    · rename_i w _ hh
      injection h with h; subst h
      rw [← hh.2]
      show (10 : UInt8) ∉ (Lib.itoa w).toArray.toList
      obtain ⟨k, rfl⟩ : ∃ k : Nat, w = k := ⟨w.toNat, by omega⟩
      exact itoa_no k (by decide)
    · cases h
  · cases h
theorem numsF_no : ∀ {l : List ByteArray} {r : List Int}, numsF l = some r → ∀ y ∈ l, (10 : UInt8) ∉ y.data.toList
  | [], _, _ => fun y hy => by cases hy
  | y :: l, r, h => by
    unfold numsF at h
    split at h
    · rename_i v r' h1 h2
      intro z hz
      rcases List.mem_cons.1 hz with rfl | hz
      · exact numF_no h1
      · exact numsF_no h2 z hz
    · cases h
theorem formsF_no {y : List UInt8} {f : Frm} (h : formsF y = some f) : (10 : UInt8) ∉ y := by
  unfold formsF at h
  repeat' (split at h)
  all_goals first | (rename_i hy; subst hy; decide) | cases h | (rename_i hy _; subst hy; decide)
theorem ok_parse {o : ByteArray} {p : Frm × List Int} (h : parseF o = some p) : okB o.data.toList = true := by
  obtain ⟨t, l⟩ := p
  obtain ⟨h1, h2, -, -, -, hf, hn⟩ := parseF_facts h
  rw [okB_iff]
  refine ⟨by rw [size_list]; exact h1, by rw [size_list]; exact h2, ?_⟩
  refine join_no (d := 32) (by decide) (Lib.countB o blank) _ ?_
  have e := Lib.splitB_data blank 0 (Lib.countB o blank) o
  have e' : (wordsF o).map (·.data.toList) = Lib.splitK [32] 0 (Lib.countB o blank) o.data.toList := e
  rw [← e']
  intro x hx
  obtain ⟨y, hy, rfl⟩ := List.mem_map.1 hx
  cases hw : wordsF o with
  | nil => rw [hw] at hy; cases hy
  | cons z r =>
    rw [hw] at hy hf hn
    rcases List.mem_cons.1 hy with rfl | hy
    · exact formsF_no hf
    · exact numsF_no hn y hy
theorem runs_ok : ∀ (l : List ByteArray) (x y : Off), runs x l = some y → (∀ o ∈ l, okB o.data.toList = true) ∧ (x.os.length ≤ 80 → y.os.length ≤ 80) := by
  intro l
  induction l with
  | nil => intro x y h; injection h with h; subst h; exact ⟨(fun o ho => by cases ho), id⟩
  | cons o l ih =>
    intro x y h
    unfold runs at h
    split at h
    · rename_i he
      obtain ⟨h1, h2⟩ := ih _ _ h
      have hp : ∃ p, parseF o = some p := by
        unfold stepE at he
        cases hp : parseF o with
        | none => rw [hp] at he; cases he
        | some p => exact ⟨p, rfl⟩
      obtain ⟨p, hp⟩ := hp
      refine ⟨fun q hq => ?_, fun hx => h2 ?_⟩
      · rcases List.mem_cons.1 hq with rfl | hq
        · exact ok_parse hp
        · exact h1 q hq
      · have hne : x.os.length ≠ 80 := by
          intro h80
          unfold stepE at he
          rw [hp] at he
          simp only [] at he
          rw [if_pos h80] at he; cases he
        rw [stepO_ok he]
        simp; omega
    · cases h
theorem Made.ok {n : Nat} {x : Off} (h : Made n x) : ∀ o ∈ x.os, okB o.data.toList = true := (runs_ok x.os _ x h.run).1
theorem Made.few {n : Nat} {x : Off} (h : Made n x) : x.os.length ≤ 80 := (runs_ok x.os _ x h.run).2 (Nat.zero_le _)
/-- The minutes. -/
def minF (l : List ByteArray) : ByteArray := ⟨(bookF 0 (l.map (·.data.toList))).toArray⟩
end Go.Proofs.YthooacpfmjpdmaaGreatDoor
