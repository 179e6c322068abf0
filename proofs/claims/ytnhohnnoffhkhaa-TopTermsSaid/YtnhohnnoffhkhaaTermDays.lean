/- The first day of a kind, counts of days, ends of terms: plain facts. No program in sight. -/
import Derived.Test.YtnhohnnoffhkhaaTermSpec
namespace Go.Proofs.Ytnhohnnoffhkhaa
open Go.RowKit

/-- The first day from d on for which p holds, looked for n times. -/
def firstDay (p : Int → Bool) : Nat → Int → Int
  | 0, d => d
  | n + 1, d => if p d then d else firstDay p n (d + 1)

theorem firstDay_eq {p : Int → Bool} : ∀ (k n : Nat) (d : Int), (∀ i : Nat, i < k → p (d + i) = false) → p (d + k) = true → k < n → firstDay p n d = d + k
  | 0, n + 1, d, _, h, _ => by
    have h' : p d = true := by simpa using h
    simp [firstDay, h']
  | k + 1, n + 1, d, h0, h, hk => by
    have h' : p d = false := by simpa using h0 0 (by omega)
    rw [firstDay, if_neg (by simp [h']), firstDay_eq k n (d + 1) (fun i hi => by
      have := h0 (i + 1) (by omega)
      rwa [show d + 1 + (i : Int) = d + ((i + 1 : Nat) : Int) by omega]) (by rwa [show d + 1 + (k : Int) = d + ((k + 1 : Nat) : Int) by omega]) (by omega)]
    omega
/-- What the first day is. -/
def IsFirst (p : Int → Bool) (d r : Int) : Prop := d ≤ r ∧ p r = true ∧ ∀ x, d ≤ x → x < r → p x = false
theorem IsFirst.unique {p : Int → Bool} {d r s : Int} (h : IsFirst p d r) (k : IsFirst p d s) : r = s := by
  rcases Int.lt_trichotomy r s with hl | he | hg
  · have := k.2.2 r h.1 hl; rw [h.2.1] at this; cases this
  · exact he
  · have := h.2.2 s k.1 hg; rw [k.2.1] at this; cases this
theorem isFirst_firstDay {p : Int → Bool} {d : Int} : ∀ (n : Nat), (∃ k : Nat, k < n ∧ p (d + k) = true) → IsFirst p d (firstDay p n d) := by
  intro n
  induction n generalizing d with
  | zero => rintro ⟨k, hk, _⟩; omega
  | succ n ih =>
    rintro ⟨k, hk, hp⟩
    by_cases h : p d = true
    · rw [firstDay, if_pos h]; exact ⟨Int.le_refl _, h, fun x h1 h2 => by omega⟩
    · rw [firstDay, if_neg h]
      have hk0 : 0 < k := by
        rcases Nat.eq_zero_or_pos k with rfl | h'
        · simp at hp; exact absurd hp h
        · exact h'
      obtain ⟨h1, h2, h3⟩ := ih (d := d + 1) ⟨k - 1, by omega, by rwa [show d + 1 + ((k - 1 : Nat) : Int) = d + k by omega]⟩
      refine ⟨by omega, h2, fun x hx1 hx2 => ?_⟩
      rcases Int.lt_or_eq_of_le hx1 with hl | rfl
      · exact h3 x (by omega) hx2
      · simpa using h
theorem isFirst_le {p : Int → Bool} {d : Int} {n k : Nat} (hk : k < n) (hp : p (d + k) = true) : firstDay p n d ≤ d + k := by
  have h := isFirst_firstDay (p := p) (d := d) n ⟨k, hk, hp⟩
  rcases Int.lt_or_le (d + k) (firstDay p n d) with hl | hl
  · have := h.2.2 (d + k) (by omega) hl; rw [hp] at this; cases this
  · exact hl

/-- How many of the n days from d on are of a kind. -/
def cnt (p : Int → Bool) (d : Int) : Nat → Int
  | 0 => 0
  | n + 1 => cnt p d n + if p (d + n) then 1 else 0
theorem cnt_nonneg (p : Int → Bool) (d : Int) : ∀ n, 0 ≤ cnt p d n
  | 0 => Int.le_refl _
  | n + 1 => by have := cnt_nonneg p d n; unfold cnt; split <;> omega
theorem cnt_le (p : Int → Bool) (d : Int) : ∀ n : Nat, cnt p d n ≤ n
  | 0 => Int.le_refl _
  | n + 1 => by have := cnt_le p d n; unfold cnt; split <;> omega
theorem cnt_add (p : Int → Bool) (d : Int) (m : Nat) : ∀ n, cnt p d (m + n) = cnt p d m + cnt p (d + m) n
  | 0 => by simp [cnt]
  | n + 1 => by
    rw [← Nat.add_assoc, cnt, cnt, cnt_add p d m n, show d + (m : Int) + (n : Int) = d + ((m + n : Nat) : Int) by omega]
    omega
theorem cnt_all {p : Int → Bool} {d : Int} : ∀ n : Nat, (∀ i : Nat, i < n → p (d + i) = true) → cnt p d n = n
  | 0, _ => rfl
  | n + 1, h => by rw [cnt, cnt_all n (fun i hi => h i (by omega)), h n (by omega)]; simp
theorem cnt_mono (p : Int → Bool) (d : Int) {m n : Nat} (h : m ≤ n) : cnt p d m ≤ cnt p d n := by
  obtain ⟨k, rfl⟩ := Nat.exists_eq_add_of_le h
  rw [cnt_add]; have := cnt_nonneg p (d + m) k; omega
theorem cnt_imp {p q : Int → Bool} {d : Int} (h : ∀ x, p x = true → q x = true) : ∀ n : Nat, cnt p d n ≤ cnt q d n
  | 0 => Int.le_refl _
  | n + 1 => by
    have := cnt_imp (d := d) h n
    unfold cnt
    by_cases hp : p (d + n) = true
    · rw [if_pos hp, if_pos (h _ hp)]; omega
    · rw [if_neg hp]; split <;> omega

/-- Behind the last day of a calendar nothing stands still, and only one day of the week is free. -/
theorem valid_free {c : Cal} (h : validF c = 0) {x : Int} (hx : x ∈ c.free) : 0 ≤ x ∧ x ≤ 10000 := by
  unfold validF at h
  split at h
  · split at h
    · exact absurd h (by decide)
    · split at h
      · exact absurd h (by decide)
      · rename_i hs
        obtain ⟨i, hi, rfl⟩ := List.getElem_of_mem hx
        have hb : badFree c.free i = false := by
          cases hb : badFree c.free i
          · rfl
          · exact absurd ((someFrom_iff 0).2 ⟨i, Nat.zero_le _, hi, hb⟩) hs
        unfold badFree at hb
        rw [Bool.or_eq_false_iff] at hb
        have := hb.1
        rw [gi_lt hi] at this
        exact withinB_iff.1 (by simpa using this)
  · exact absurd h (by decide)
theorem valid_span {c : Cal} (h : validF c = 0) {s : Int × Int} (hx : s ∈ c.still) : 0 ≤ s.1 ∧ s.1 ≤ s.2 ∧ s.2 ≤ 10000 := by
  unfold validF at h
  split at h
  · split at h
    · exact absurd h (by decide)
    · split at h
      · exact absurd h (by decide)
      · split at h
        · exact absurd h (by decide)
        · rename_i hs
          obtain ⟨i, hi, rfl⟩ := List.getElem_of_mem hx
          have hb : badStill c.still i = false := by
            cases hb : badStill c.still i
            · rfl
            · exact absurd ((someFrom_iff 0).2 ⟨i, Nat.zero_le _, hi, hb⟩) hs
          unfold badStill at hb
          rw [Bool.or_eq_false_iff] at hb
          have := hb.1
          rw [gi_lt hi] at this
          exact spanB_iff.1 (by simpa using this)
  · exact absurd h (by decide)
theorem still_late {c : Cal} (h : validF c = 0) {x : Int} (hx : 10000 < x) : stillB c x = false := by
  unfold stillB
  rw [List.any_eq_false]
  intro s hs hw
  have := valid_span h hs
  have := withinB_iff.1 hw
  omega
theorem free_late {c : Cal} (h : validF c = 0) {x : Int} (hx : 10000 < x) : freeB c x = (weekF c x == 6) := by
  unfold freeB
  have : hasB c.free x = false := by
    cases hb : hasB c.free x
    · rfl
    · have := valid_free h (hasB_iff.1 hb); omega
  rw [this, Bool.or_false]
/-- One of two days in a row behind the last day is not free. -/
theorem work_late {c : Cal} (h : validF c = 0) {x : Int} (hx : 10000 < x) : freeB c x = false ∨ freeB c (x + 1) = false := by
  rw [free_late h hx, free_late h (x := x + 1) (by omega)]
  unfold weekF
  simp only [beq_eq_false_iff_ne]
  omega

/-- The next working day. -/
def nextF (c : Cal) (d : Int) : Int := firstDay (fun x => !(freeB c x)) 20000 d
theorem next_some {c : Cal} (h : validF c = 0) {d : Int} (h0 : 0 ≤ d) : ∃ k : Nat, k < 10003 ∧ (d + k ≤ 10002 ∨ k ≤ 1) ∧ (!(freeB c (d + k))) = true := by
  by_cases hd : 10000 < d
  · rcases work_late h hd with hf | hf
    · exact ⟨0, by omega, by omega, by simp [hf]⟩
    · exact ⟨1, by omega, by omega, by simp [hf]⟩
  · rcases work_late h (x := 10001) (by omega) with hf | hf
    · refine ⟨(10001 - d).toNat, by omega, by omega, ?_⟩
      rw [show d + ((10001 - d).toNat : Int) = 10001 by omega, hf]; rfl
    · refine ⟨(10002 - d).toNat, by omega, by omega, ?_⟩
      rw [show d + ((10002 - d).toNat : Int) = 10001 + 1 by omega, hf]; rfl
theorem nextF_first {c : Cal} (h : validF c = 0) {d : Int} (h0 : 0 ≤ d) : IsFirst (fun x => !(freeB c x)) d (nextF c d) := by
  obtain ⟨k, hk, _, hp⟩ := next_some h h0
  exact isFirst_firstDay _ ⟨k, by omega, hp⟩
theorem nextF_le {c : Cal} (h : validF c = 0) {d : Int} (h0 : 0 ≤ d) : nextF c d ≤ 10002 ∨ nextF c d ≤ d + 1 := by
  obtain ⟨k, hk, hk2, hp⟩ := next_some h h0
  have := isFirst_le (p := fun x => !(freeB c x)) (d := d) (k := k) (n := 20000) (by omega) hp
  unfold nextF
  omega

/-- May a term of so many days, begun on a day, end on day x? -/
def endB (c : Cal) (day days x : Int) : Bool := decide (days ≤ cnt (fun y => !(stillB c y)) (day + 1) (x - day).toNat) && !(freeB c x)
/-- The end of a term. -/
def endsF (c : Cal) (day days : Int) : Int := firstDay (endB c day days) 20000 day
theorem cnt_late {c : Cal} (h : validF c = 0) {day days x : Int} (h1 : 0 ≤ days) (h2 : day ≤ x) (h3 : 10000 + days ≤ x) (h4 : day + days ≤ x) :
    days ≤ cnt (fun y => !(stillB c y)) (day + 1) (x - day).toNat := by
  -- the last 'days' days up to x all count
  have hle : days.toNat ≤ (x - day).toNat := by omega
  obtain ⟨m, hm⟩ := Nat.exists_eq_add_of_le hle
  rw [hm, Nat.add_comm, cnt_add, cnt_all days.toNat (fun i hi => by
    rw [still_late h (by omega)]; rfl)]
  have := cnt_nonneg (fun y => !(stillB c y)) (day + 1) m
  omega
theorem ends_some {c : Cal} (h : validF c = 0) {day days : Int} (h0 : 0 ≤ day) (h1 : 0 ≤ days) (h2 : days ≤ 4000) :
    ∃ k : Nat, k < 14003 ∧ (day + k ≤ 10002 + days ∨ k ≤ days + 1) ∧ endB c day days (day + k) = true := by
  have key : ∀ x : Int, day ≤ x → 10000 + days ≤ x → 10000 < x → day + days ≤ x → ∃ k : Nat, (day + k = x ∨ day + k = x + 1) ∧ endB c day days (day + k) = true := by
    intro x hx1 hx2 hx4 hx3
    rcases work_late h hx4 with hf | hf
    · refine ⟨(x - day).toNat, .inl (by omega), ?_⟩
      rw [show day + ((x - day).toNat : Int) = x by omega]
      unfold endB
      rw [hf, Bool.and_eq_true]
      exact ⟨by simpa using cnt_late h h1 hx1 hx2 hx3, rfl⟩
    · refine ⟨(x + 1 - day).toNat, .inr (by omega), ?_⟩
      rw [show day + ((x + 1 - day).toNat : Int) = x + 1 by omega]
      unfold endB
      rw [hf, Bool.and_eq_true]
      exact ⟨by simpa using cnt_late h h1 (x := x + 1) (by omega) (by omega) (by omega), rfl⟩
  by_cases hd : 10000 < day
  · obtain ⟨k, hk, hp⟩ := key (day + days) (by omega) (by omega) (by omega) (by omega)
    exact ⟨k, by omega, by omega, hp⟩
  · obtain ⟨k, hk, hp⟩ := key (10001 + days) (by omega) (by omega) (by omega) (by omega)
    exact ⟨k, by omega, by omega, hp⟩
theorem endsF_first {c : Cal} (h : validF c = 0) {day days : Int} (h0 : 0 ≤ day) (h1 : 0 ≤ days) (h2 : days ≤ 4000) : IsFirst (endB c day days) day (endsF c day days) := by
  obtain ⟨k, hk, _, hp⟩ := ends_some h h0 h1 h2
  exact isFirst_firstDay _ ⟨k, by omega, hp⟩
theorem endsF_le {c : Cal} (h : validF c = 0) {day days : Int} (h0 : 0 ≤ day) (h1 : 0 ≤ days) (h2 : days ≤ 4000) : endsF c day days ≤ 10002 + days ∨ endsF c day days ≤ day + days + 1 := by
  obtain ⟨k, hk, hk2, hp⟩ := ends_some h h0 h1 h2
  have := isFirst_le (k := k) (n := 20000) (by omega) hp
  unfold endsF
  omega

/-! What the exported functions answer: a value and an error. -/
def weekR (c : Cal) (d : Int) : Int := if askedF c [d] [] = 0 then weekF c d else 0
def freeR (c : Cal) (d : Int) : Bool := if askedF c [d] [] = 0 then freeB c d else false
def stillR (c : Cal) (d : Int) : Bool := if askedF c [d] [] = 0 then stillB c d else false
def nextR (c : Cal) (d : Int) : Int := if askedF c [d] [] = 0 then nextF c d else 0
/-- The last working day up to d - 1, looked for n times. -/
def lastDay (p : Int → Bool) : Nat → Int → Option Int
  | 0, _ => none
  | n + 1, d => if p d then some d else lastDay p n (d - 1)
def beforeF (c : Cal) (d : Int) : Option Int := lastDay (fun x => !(freeB c x)) (d + 1).toNat d
def beforeR (c : Cal) (d : Int) : Option Int := if askedF c [d] [] = 0 then beforeF c d else none
def beforeV (c : Cal) (d : Int) : Int := (beforeR c d).getD 0
def beforeI (c : Cal) (d : Int) : Bool := (beforeR c d).isSome
def orderedF (c : Cal) (a b : Int) : Int := if askedF c [a, b] [] = 0 then (if b < a then 1 else 0) else askedF c [a, b] []
def workF (c : Cal) (a b : Int) : Int := cnt (fun x => !(freeB c x)) a (b - a + 1).toNat
def countF (c : Cal) (a b : Int) : Int := cnt (fun x => !(stillB c x)) a (b - a + 1).toNat
def workR (c : Cal) (a b : Int) : Int := if orderedF c a b = 0 then workF c a b else 0
def countR (c : Cal) (a b : Int) : Int := if orderedF c a b = 0 then countF c a b else 0
/-- So many times on to the next working day. -/
def addF (c : Cal) : Nat → Int → Int
  | 0, d => d
  | n + 1, d => nextF c (addF c n d + 1)
def addR (c : Cal) (d n : Int) : Int := if askedF c [d] [n] = 0 then addF c n.toNat d else 0
def endsR (c : Cal) (d n : Int) : Int := if askedF c [d] [n] = 0 then endsF c d n else 0
end Go.Proofs.Ytnhohnnoffhkhaa
