/- What the functions of package term compute, as plain functions on numbers and lists. No program in sight. -/
import Derived.Test.YtnhohnnoffhkhaaMem
namespace Go.Proofs.Ytnhohnnoffhkhaa
open Go.RowKit

structure Cal where
  first : Int
  free : List Int
  still : List (Int × Int)

def withinB (n lo hi : Int) : Bool := decide (lo ≤ n) && decide (n ≤ hi)
theorem withinB_iff {n lo hi : Int} : withinB n lo hi = true ↔ lo ≤ n ∧ n ≤ hi := by simp [withinB]
def spanB (s : Int × Int) : Bool := decide (0 ≤ s.1) && (decide (s.1 ≤ s.2) && decide (s.2 ≤ 10000))
theorem spanB_iff {s : Int × Int} : spanB s = true ↔ 0 ≤ s.1 ∧ s.1 ≤ s.2 ∧ s.2 ≤ 10000 := by simp [spanB]
/-- Is the i-th free day wrong? -/
def badFree (l : List Int) (i : Nat) : Bool := !(withinB (gi l 0 i) 0 10000) || (decide (0 < i) && decide (gi l 0 i ≤ gi l 0 (i - 1)))
def badStill (l : List (Int × Int)) (i : Nat) : Bool := !(spanB (gi l (0, 0) i)) || (decide (0 < i) && decide ((gi l (0, 0) i).1 ≤ (gi l (0, 0) (i - 1)).2))
/-- Is p true of a number from k to n - 1? -/
def someFrom (p : Nat → Bool) (n k : Nat) : Bool := if k < n then (if p k then true else someFrom p n (k + 1)) else false
termination_by n - k
theorem someFrom_yes {p : Nat → Bool} {n k : Nat} (h : k < n) (hp : p k = true) : someFrom p n k = true := by rw [someFrom, if_pos h, if_pos hp]
theorem someFrom_no {p : Nat → Bool} {n k : Nat} (h : k < n) (hp : p k = false) : someFrom p n k = someFrom p n (k + 1) := by rw [someFrom, if_pos h, if_neg (by simp [hp])]
theorem someFrom_end {p : Nat → Bool} {n k : Nat} (h : ¬ k < n) : someFrom p n k = false := by rw [someFrom, if_neg h]
theorem someFrom_iff {p : Nat → Bool} {n : Nat} : ∀ k, someFrom p n k = true ↔ ∃ i, k ≤ i ∧ i < n ∧ p i = true := by
  intro k
  generalize hm : n - k = m
  induction m generalizing k with
  | zero =>
    rw [someFrom_end (by omega)]
    constructor
    · intro h; cases h
    · rintro ⟨i, h1, h2, _⟩; omega
  | succ m ih =>
    by_cases hp : p k = true
    · rw [someFrom_yes (by omega) hp]
      exact ⟨fun _ => ⟨k, Nat.le_refl _, by omega, hp⟩, fun _ => rfl⟩
    · rw [someFrom_no (by omega) (by simpa using hp), ih (k + 1) (by omega)]
      constructor
      · rintro ⟨i, h1, h2, h3⟩; exact ⟨i, by omega, h2, h3⟩
      · rintro ⟨i, h1, h2, h3⟩
        refine ⟨i, ?_, h2, h3⟩
        rcases Nat.lt_or_eq_of_le h1 with h | rfl
        · omega
        · exact absurd h3 hp

def validF (c : Cal) : Int :=
  if withinB c.first 0 6 then
    (if decide (12 < c.free.length) || decide (4 < c.still.length) then 3
     else if someFrom (badFree c.free) c.free.length 0 then 1
     else if someFrom (badStill c.still) c.still.length 0 then 1 else 0)
  else 1
def dayB (d : Int) : Bool := withinB d 0 10000
def termB (n : Int) : Bool := withinB n 0 400
def weekF (c : Cal) (d : Int) : Int := (c.first + d) % 7
def freeB (c : Cal) (d : Int) : Bool := (weekF c d == 6) || hasB c.free d
def stillB (c : Cal) (d : Int) : Bool := c.still.any fun s => withinB d s.1 s.2
def daysF (l : List Int) : Int := if l.any (fun d => !(dayB d)) then 1 else 0
def termsF (l : List Int) : Int := if l.any (fun d => !(termB d)) then 1 else 0
/-- The first error of a calendar, of days and of numbers of days. -/
def askedF (c : Cal) (days terms : List Int) : Int :=
  if validF c = 0 then (if daysF days = 0 then termsF terms else daysF days) else validF c
theorem askedF_days (c : Cal) (days : List Int) : askedF c days [] = if validF c = 0 then daysF days else validF c := by
  unfold askedF
  by_cases h : daysF days = 0 <;> simp [h, termsF]
theorem someFrom_any {α : Type} (l : List α) (d : α) (p : α → Bool) : someFrom (fun i => p (gi l d i)) l.length 0 = l.any p := by
  rw [Bool.eq_iff_iff, someFrom_iff, List.any_eq_true]
  constructor
  · rintro ⟨i, _, h, hp⟩
    exact ⟨l[i], List.getElem_mem h, by rw [gi_lt h] at hp; exact hp⟩
  · rintro ⟨x, hx, hp⟩
    obtain ⟨i, h, rfl⟩ := List.getElem_of_mem hx
    exact ⟨i, Nat.zero_le _, h, by rw [gi_lt h]; exact hp⟩
theorem daysF_some (l : List Int) : daysF l = if someFrom (fun i => !(dayB (gi l 0 i))) l.length 0 then 1 else 0 := by
  rw [someFrom_any l 0 (fun d => !(dayB d))]; rfl
theorem termsF_some (l : List Int) : termsF l = if someFrom (fun i => !(termB (gi l 0 i))) l.length 0 then 1 else 0 := by
  rw [someFrom_any l 0 (fun d => !(termB d))]; rfl

/-- v is a calendar. -/
def CalAt (w : World) (v : Value) (c : Cal) : Prop :=
  ∃ fv sv, v = .agg #[.int .i64 c.first, fv, sv] ∧ IntsAt w fv c.free ∧ PairsAt w sv c.still
theorem CalAt.below {w w' : World} {v : Value} {c : Cal} (h : CalAt w v c) (hb : Below w.heap.size w w') : CalAt w' v c := by
  obtain ⟨fv, sv, hv, hf, hs⟩ := h
  exact ⟨fv, sv, hv, hf.below hb, hs.below hb⟩
/-- Its three cells, written out. -/
theorem CalAt.cells {w : World} {v : Value} {c : Cal} (h : CalAt w v c) :
    ∃ fa fc sa sc, v = .agg #[.int .i64 c.first, .slice fa c.free.length fc, .slice sa c.still.length sc] ∧ IntsAt w (.slice fa c.free.length fc) c.free ∧ PairsAt w (.slice sa c.still.length sc) c.still ∧
      fc ≤ 9223372036854775807 ∧ sc ≤ 9223372036854775807 ∧ c.free.length ≤ fc ∧ c.still.length ≤ sc := by
  obtain ⟨fv, sv, hv, hf, hs⟩ := h
  obtain ⟨fa, fc, rfl, h1, h2, _⟩ := id hf
  obtain ⟨sa, sc, rfl, h3, h4, _⟩ := id hs
  exact ⟨fa, fc, sa, sc, hv, hf, hs, h2, h4, h1, h3⟩
end Go.Proofs.Ytnhohnnoffhkhaa
